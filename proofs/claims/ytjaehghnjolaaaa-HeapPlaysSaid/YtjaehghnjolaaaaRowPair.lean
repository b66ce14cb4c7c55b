/- For the rows: a slice of pairs, opened. -/
import Derived.Test.YtjaehghnjolaaaaRowKit
import Derived.Test.YtjaehghnjolaaaaElPair
import Derived.Deep.SlicePairs
namespace Go.Proofs.Ytjaehghnjolaaaa.RowK
open Go.ChangeShapes Go.WideShapes Go.ChangeAt Go.RowKit Go.Proofs.Ytjaehghnjolaaaa.Lib Go.Proofs.Ytjaehghnjolaaaa.HeapPure
set_option linter.unusedVariables false
set_option linter.unusedSimpArgs false

theorem list_of (n : Nat) (f : Nat → ElPair.El) : ∃ xs : List ElPair.El, xs.length = n ∧ ∀ i, i < n → at_ xs i = f i :=
  ⟨(List.range n).map f, by simp, fun i hi => by simp [at_, List.getD, hi]⟩
/-- A row's slice of pairs. -/
theorem open_pairs_row {H : Type} {enc : TypeId × Value → H} {P : Program} {W : World} {base : Nat} {spare : Nat → Bool} {held : Bool} {t e : TypeId} {f0 f1 : Field} {a : Option Addr} {len cap : Nat} {d : DataW H} {ps : List MemPlace} {ts : List TypeId} {ds : List (DataW H)} {j : Nat}
    (hsz : (DataW.weightsEach P ts ds).all (· ≤ reachBytes) = true) (ht : ts[j]? = some t) (hd : ds[j]? = some d) (hu : P.underlying t = some (.slice e)) (he : P.underlying e = some (.struct #[f0, f1]))
    (ce : P.cellsOf e = 2) (o0 : f0.offset = 0) (o1 : f1.offset = 1) (c0 : P.cellsOf f0.type = 1) (c1 : P.cellsOf f1.type = 1) (u0 : P.underlying f0.type = some (.int .i64)) (u1 : P.underlying f1.type = some (.int .i64)) {B : Nat} (hB : P.bytesOf e = B)
    (h : DataW.Trod enc P W base spare held t (.slice a len cap) d ps) : len * B ≤ 140737488351232 ∧ len ≤ cap ∧ cap ≤ maxLen ∧ (a = none → len = 0) ∧ ∃ xs : List ElPair.El, xs.length = len ∧ ElPair.RowR W a xs := by
  obtain ⟨fuel, hf⟩ := h
  rcases Deep.open_slice_pairs hu he ce o0 o1 c0 c1 hf with ⟨hcs, _⟩ | ⟨x, l, c, m, n, V0, V1, D0, D1, P0, P1, hcs, _, hl, hm, hmm, hx, hcell⟩
  · simp [Value.cells] at hcs
    obtain ⟨rfl, rfl, rfl⟩ := hcs
    exact ⟨by simp, by omega, by simp [maxLen], fun _ => rfl, [], rfl, fun i hi => absurd hi (Nat.not_lt_zero _)⟩
  · simp [Value.cells] at hcs
    obtain ⟨rfl, rfl, rfl⟩ := hcs
    obtain ⟨hx, _⟩ := Prod.mk.inj hx
    subst hx
    have z := sized_slice hsz ht hd hu
    rw [hB] at z
    have hlm : len ≤ m := by rw [hmm]; split <;> omega
    simp at z
    have hz : len * B ≤ 140737488351232 := Nat.le_trans (Nat.mul_le_mul_right _ (by omega)) z
    have each : ∀ i, i < len → ∃ Y : ElPair.El, W.cell? (x.add (i * 2)) = some (.int .i64 Y.f0) ∧ W.cell? (x.add (i * 2 + 1)) = some (.int .i64 Y.f1) := by
      intro i hi
      obtain ⟨h0, h1, t0, t1⟩ := hcell i (by omega)
      obtain ⟨n0, e0, _, _⟩ := DataW.trod_int u0 t0
      obtain ⟨n1, e1, _, _⟩ := DataW.trod_int u1 t1
      simp at e0 e1
      exact ⟨⟨n0, n1⟩, by rw [h0, e0], by rw [h1, e1]⟩
    obtain ⟨Y, hY⟩ := Deep.choose_lt each
    obtain ⟨xs, hxl, hxs⟩ := list_of len Y
    refine ⟨hz, hl, hm, (fun h => by cases h), xs, hxl, fun i hi => ?_⟩
    rw [hxl] at hi
    obtain ⟨b, o, s⟩ := x
    have hs : s = none := by
      cases s with
      | none => rfl
      | some y =>
        have h0 := (hY 0 (by omega)).1
        simp [Addr.add, World.cell?] at h0
        split at h0 <;> simp at h0
    subst hs
    have hadd : ∀ k, (⟨b, o, none⟩ : Addr).add k = ⟨b, o + k, none⟩ := fun k => by unfold Addr.add; split <;> simp_all
    have y := hY i hi
    rw [hadd, hadd] at y
    refine ⟨b, o, rfl, World.block_lt_of_cell? W ⟨b, o + i * 2, none⟩ y.1, fun k hk => ?_⟩
    show W.cell? ⟨b, o + i * 2 + k, none⟩ = (at_ xs i).cells[k]?
    rw [hxs i hi]
    match k, hk with
    | 0, _ => simpa [ElPair.El.cells] using y.1
    | 1, _ => simpa [ElPair.El.cells, Nat.add_assoc] using y.2
end Go.Proofs.Ytjaehghnjolaaaa.RowK
