/- For the rows: slices of strings and of tally's rows, opened. -/
import Derived.Test.YtigpaaelggnffaaGreatDoorRowDataA
import Derived.Test.YtigpaaelggnffaaGreatDoorTallyP
namespace Go.Proofs.YtigpaaelggnffaaGreatDoor.RowK
open Go.ChangeShapes Go.WideShapes Go.ChangeAt Go.RowKit Go.Proofs.YtigpaaelggnffaaGreatDoor.Lib Go.Proofs.YtigpaaelggnffaaGreatDoor.Sl Go.Proofs.YtigpaaelggnffaaGreatDoor.Ty
set_option linter.unusedVariables false
set_option linter.unusedSimpArgs false

theorem slice_one {p : Option Addr} {len cap : Nat} : (Value.slice p len cap).cells.toList = [Value.slice p len cap] := by simp [Value.cells]
set_option maxRecDepth 100000 in
theorem open_strs {H : Type} {enc : TypeId × Value → H} {W : World} {base : Nat} {spare : Nat → Bool} {held : Bool} {v : Value} {d : DataW H} {ps : List MemPlace} {ts : List TypeId} {ds : List (DataW H)} {j : Nat}
    (hsz : (DataW.weightsEach Tryz.prog ts ds).all (· ≤ reachBytes) = true) (ht : ts[j]? = some 22) (hd : ds[j]? = some d) {base2 : Nat}
    (hok : Value.okWide Tryz.prog W .any base2 22 v) (h : DataW.Trod enc Tryz.prog W base spare held 22 v d ps) :
    ∃ (p : Option Addr) (c : Nat) (l : List ByteArray), v = .slice p l.length c ∧ Rd eS W p l ∧ l.length ≤ c ∧ l.length * 16 ≤ 140737488351232 ∧ ∀ z ∈ l, z.size ≤ 140737488351232 := by
  obtain ⟨a, len, cap, rfl⟩ := okWide_slice Tryz.underlying22 hok
  obtain ⟨fuel, hf⟩ := h
  rw [slice_one] at hf
  exact open_list (E := eS) Tryz.underlying22 (by kernel_rfl) (B := 16) (by kernel_rfl) (elem_string Tryz.underlying9) hf (fun m hm => of_decide_eq_true (List.all_eq_true.1 hsz m (DataW.weights_mem_each ht hd m hm)))
section
variable {H : Type} {enc : TypeId × Value → H} {P : Program} {w : World} {base : Nat} {spare : Nat → Bool} {held : Bool}
theorem elem_row {e : TypeId} {f0 f1 : Field} (he : P.underlying e = some (.struct #[f0, f1])) (ce : P.cellsOf e = 2) (o0 : f0.offset = 0) (o1 : f1.offset = 1) (c0 : P.cellsOf f0.type = 1) (c1 : P.cellsOf f1.type = 1)
    (u0 : P.underlying f0.type = some (.int .i64)) (u1 : P.underlying f1.type = some (.int .i64))
    (fuel : Nat) (cs : List Value) (y : DataW H × List MemPlace) (h : DataW.trod enc P w base spare held fuel e cs = some y) (hw : Within P e y.1) : ∃ z : TRow, cs = eTR.enc z ∧ (inI z.id ∧ inI z.n) := by
  obtain ⟨y0, y1, n, _, hl, h0, h1⟩ := trod_struct2 he h
  rw [ce] at hl
  rw [o0, c0] at h0
  rw [o1, c1] at h1
  match cs, hl with
  | [a, b], _ =>
    simp at h0 h1
    obtain ⟨n0, e0, _, w0⟩ := DataW.trod_int u0 h0
    obtain ⟨n1, e1, _, w1⟩ := DataW.trod_int u1 h1
    simp at e0 e1
    subst e0 e1
    exact ⟨⟨n0, n1⟩, rfl, in_i64 w0, in_i64 w1⟩
end
set_option maxRecDepth 100000 in
theorem open_rows {H : Type} {enc : TypeId × Value → H} {W : World} {base : Nat} {spare : Nat → Bool} {held : Bool} {v : Value} {d : DataW H} {ps : List MemPlace} {ts : List TypeId} {ds : List (DataW H)} {j : Nat}
    (hsz : (DataW.weightsEach Tryz.prog ts ds).all (· ≤ reachBytes) = true) (ht : ts[j]? = some 33) (hd : ds[j]? = some d) {base2 : Nat}
    (hok : Value.okWide Tryz.prog W .any base2 33 v) (h : DataW.Trod enc Tryz.prog W base spare held 33 v d ps) :
    ∃ (p : Option Addr) (c : Nat) (l : List TRow), v = .slice p l.length c ∧ Rd eTR W p l ∧ l.length ≤ c ∧ l.length * 16 ≤ 140737488351232 ∧ ∀ z ∈ l, inI z.id ∧ inI z.n := by
  obtain ⟨a, len, cap, rfl⟩ := okWide_slice Tryz.underlying33 hok
  obtain ⟨fuel, hf⟩ := h
  rw [slice_one] at hf
  have U := Tryz.underlying3
  exact open_list (E := eTR) Tryz.underlying33 (by kernel_rfl) (B := 16) (by kernel_rfl) (elem_row Tryz.underlying45 (by kernel_rfl) rfl rfl (by kernel_rfl) (by kernel_rfl) U U) hf (fun m hm => of_decide_eq_true (List.all_eq_true.1 hsz m (DataW.weights_mem_each ht hd m hm)))
end Go.Proofs.YtigpaaelggnffaaGreatDoor.RowK
