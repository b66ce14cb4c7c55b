/- Merged of RowData, RowDataA. -/
import Derived.Test.YtigpaaelggnffaaGreatDoorSpanPure
import Derived.Deep.Strs
/- For the rows: an argument of type api.Data, opened. -/
namespace Go.Proofs.YtigpaaelggnffaaGreatDoor.RowK
open Go.ChangeShapes Go.WideShapes Go.ChangeAt Go.RowKit Go.Proofs.YtigpaaelggnffaaGreatDoor.Lib Go.Proofs.YtigpaaelggnffaaGreatDoor.Sl
set_option linter.unusedVariables false
set_option linter.unusedSimpArgs false

theorem weights_all_mem {H : Type} {P : Program} {e : TypeId} : ∀ {ds : List (DataW H)} {d : DataW H}, d ∈ ds → ∀ n ∈ d.weights P e, n ∈ DataW.weightsAll P e ds := by
  intro ds
  induction ds with
  | nil => intro d h; simp at h
  | cons x ds ih =>
    intro d h n hn
    rw [DataW.weightsAll, List.mem_append]
    rcases List.mem_cons.1 h with rfl | h
    · exact .inl hn
    · exact .inr (ih h n hn)
section
variable {H : Type} {enc : TypeId × Value → H} {P : Program} {w : World} {base : Nat} {spare : Nat → Bool} {held : Bool}
/-- Its weights are within reach. -/
def Within (P : Program) (t : TypeId) (d : DataW H) : Prop := ∀ n ∈ d.weights P t, n ≤ 140737488351232
theorem open_list {α : Type} [Inhabited α] {E : En α} {Q : α → Prop} {t e : TypeId} {fuel : Nat} {v : Value} {x : DataW H × List MemPlace} (ht : P.underlying t = some (.slice e)) (hc : P.cellsOf e = E.sz) {B : Nat} (hB : P.bytesOf e = B)
    (elem : ∀ (fuel : Nat) (cs : List Value) (y : DataW H × List MemPlace), DataW.trod enc P w base spare held fuel e cs = some y → Within P e y.1 → ∃ z : α, cs = E.enc z ∧ Q z)
    (h : DataW.trod enc P w base spare held fuel t [v] = some x) (hw : Within P t x.1) :
    ∃ (p : Option Addr) (c : Nat) (l : List α), v = .slice p l.length c ∧ Rd E w p l ∧ l.length ≤ c ∧ l.length * B ≤ 140737488351232 ∧ ∀ z ∈ l, Q z := by
  rcases DataW.trod_slice ht h with ⟨hcs, _⟩ | ⟨a, len, cap, elems, rest, n, _, hcs, hx, hb, hl, hm, hel, hcell, _, _⟩
  · simp at hcs
    subst hcs
    exact ⟨none, 0, [], rfl, Rd.nil, Nat.le_refl _, by simp, by simp⟩
  · simp at hcs
    subst hcs
    rw [hx] at hw
    have hw1 : (elems.length + rest.length) * B ≤ 140737488351232 := hw _ (by simp [DataW.weights, ht, hB])
    have each : ∀ i, i < len → ∃ z : α, (∀ j, j < E.sz → w.cell? ((a.add (i * E.sz)).add j) = (E.enc z)[j]?) ∧ Q z := by
      intro i hi
      have h1 := hcell i hi
      obtain ⟨y, hy⟩ : ∃ y, elems[i]? = some y := ⟨_, List.getElem?_eq_getElem (by omega)⟩
      rw [hy, Option.bind_eq_some_iff] at h1
      obtain ⟨cs, hc1, hc2⟩ := h1
      rw [hc] at hc1
      obtain ⟨_, hlen, hcl⟩ := World.cells?_some hc1
      obtain ⟨z, rfl, hq⟩ := elem n cs y hc2 (fun m hm2 => hw m (by
        have : y.1 ∈ elems.map (·.1) := List.mem_map.2 ⟨y, List.mem_of_getElem? hy, rfl⟩
        have := weights_all_mem (P := P) (e := e) this m hm2
        simp only [DataW.weights, ht, List.mem_cons, List.mem_append]
        exact .inr (.inl this)))
      exact ⟨z, hcl, hq⟩
    obtain ⟨f, hf⟩ := Deep.choose_lt each
    have hll : ((List.range len).map f).length = len := by simp
    refine ⟨some a, cap, (List.range len).map f, by rw [hll], ?_, by rw [hll]; exact hl, by rw [hll]; exact Nat.le_trans (Nat.mul_le_mul_right _ (by omega)) hw1, fun z hz => ?_⟩
    · intro i z hi
      rw [List.getElem?_map] at hi
      have hlt : i < len := by
        rcases Nat.lt_or_ge i len with h | h
        · exact h
        · rw [List.getElem?_eq_none (by simpa using h)] at hi; cases hi
      rw [List.getElem?_range hlt] at hi
      injection hi with hi
      subst hi
      obtain ⟨b, o, s⟩ := a
      have h0 := (hf i hlt).1 0 E.pos
      obtain ⟨u, hu⟩ : ∃ u, (E.enc (f i))[0]? = some u := ⟨_, List.getElem?_eq_getElem (by rw [E.len]; exact E.pos)⟩
      have hs : s = none := by
        cases s with
        | none => rfl
        | some y =>
          have h00 := (hf 0 (by omega)).1 0 E.pos
          obtain ⟨u0, hu0⟩ : ∃ u, (E.enc (f 0))[0]? = some u := ⟨_, List.getElem?_eq_getElem (by rw [E.len]; exact E.pos)⟩
          rw [hu0] at h00
          simp [Addr.add, World.cell?] at h00
          split at h00 <;> simp at h00
      subst hs
      have hadd : ∀ o k, (⟨b, o, none⟩ : Addr).add k = ⟨b, o + k, none⟩ := fun o k => by unfold Addr.add; split <;> simp_all
      refine ⟨b, o, rfl, ?_, fun j hj => ?_⟩
      · rw [hadd, hadd, hu] at h0
        exact World.block_lt_of_cell? w _ h0
      · have := (hf i hlt).1 j hj
        rwa [hadd, hadd] at this
    · obtain ⟨i, hi, rfl⟩ := List.mem_map.1 hz
      exact (hf i (List.mem_range.1 hi)).2
theorem elem_string {e : TypeId} (he : P.underlying e = some .string) (fuel : Nat) (cs : List Value) (y : DataW H × List MemPlace) (h : DataW.trod enc P w base spare held fuel e cs = some y) (hw : Within P e y.1) : ∃ z : ByteArray, cs = eS.enc z ∧ z.size ≤ 140737488351232 := by
  obtain ⟨s, rfl, rfl, _⟩ := DataW.trod_string he h
  refine ⟨s, rfl, ?_⟩
  have := hw s.data.toList.length (by simp [DataW.weights])
  simpa using this
theorem in_i64 {n : Int} (h : (Lit.int .i64 n).wf = true) : inI n := by
  simp [Lit.wf, IntKind.min, IntKind.max, IntKind.signed, IntKind.bits] at h
  unfold inI
  omega
theorem elem_merge {e : TypeId} {f0 f1 f2 : Field} (he : P.underlying e = some (.struct #[f0, f1, f2])) (ce : P.cellsOf e = 3) (o0 : f0.offset = 0) (o1 : f1.offset = 1) (o2 : f2.offset = 2) (c0 : P.cellsOf f0.type = 1) (c1 : P.cellsOf f1.type = 1) (c2 : P.cellsOf f2.type = 1)
    (u0 : P.underlying f0.type = some (.int .i64)) (u1 : P.underlying f1.type = some (.int .i64)) (u2 : P.underlying f2.type = some (.int .i64))
    (fuel : Nat) (cs : List Value) (y : DataW H × List MemPlace) (h : DataW.trod enc P w base spare held fuel e cs = some y) (hw : Within P e y.1) : ∃ z : Mrg, cs = eM.enc z ∧ (inI z.l ∧ inI z.r ∧ inI z.i) := by
  obtain ⟨y0, y1, y2, n, _, hl, h0, h1, h2⟩ := Deep.trod_struct3 he h
  rw [ce] at hl
  rw [o0, c0] at h0
  rw [o1, c1] at h1
  rw [o2, c2] at h2
  match cs, hl with
  | [a, b, c], _ =>
    simp at h0 h1 h2
    obtain ⟨n0, e0, _, w0⟩ := DataW.trod_int u0 h0
    obtain ⟨n1, e1, _, w1⟩ := DataW.trod_int u1 h1
    obtain ⟨n2, e2, _, w2⟩ := DataW.trod_int u2 h2
    simp at e0 e1 e2
    subst e0 e1 e2
    exact ⟨⟨n0, n1, n2⟩, rfl, in_i64 w0, in_i64 w1, in_i64 w2⟩
theorem elem_span {e : TypeId} {f0 f1 : Field} (he : P.underlying e = some (.struct #[f0, f1])) (ce : P.cellsOf e = 2) (o0 : f0.offset = 0) (o1 : f1.offset = 1) (c0 : P.cellsOf f0.type = 1) (c1 : P.cellsOf f1.type = 1)
    (u0 : P.underlying f0.type = some (.int .i32)) (u1 : P.underlying f1.type = some (.int .i32))
    (fuel : Nat) (cs : List Value) (y : DataW H × List MemPlace) (h : DataW.trod enc P w base spare held fuel e cs = some y) (hw : Within P e y.1) : ∃ z : Spn, cs = eP.enc z ∧ True := by
  obtain ⟨y0, y1, n, _, hl, h0, h1⟩ := trod_struct2 he h
  rw [ce] at hl
  rw [o0, c0] at h0
  rw [o1, c1] at h1
  match cs, hl with
  | [a, b], _ =>
    simp at h0 h1
    obtain ⟨n0, e0, _, w0⟩ := DataW.trod_int u0 h0
    obtain ⟨n1, e1, _, w1⟩ := DataW.trod_int u1 h1
    simp at e0 e1
    subst e0 e1
    exact ⟨⟨n0, n1⟩, rfl, trivial⟩
end
end Go.Proofs.YtigpaaelggnffaaGreatDoor.RowK

/- For the rows: an argument of type api.Data of this program, opened. -/
namespace Go.Proofs.YtigpaaelggnffaaGreatDoor.RowK
open Go.ChangeShapes Go.WideShapes Go.ChangeAt Go.RowKit Go.Proofs.YtigpaaelggnffaaGreatDoor.Lib Go.Proofs.YtigpaaelggnffaaGreatDoor.Sl
set_option linter.unusedVariables false
set_option linter.unusedSimpArgs false

instance : Inhabited Mrg := ⟨⟨0, 0, 0⟩⟩
instance : Inhabited Spn := ⟨⟨0, 0⟩⟩
theorem array5 {α : Type} {cs : Array α} (h : cs.size = 5) : ∃ c0 c1 c2 c3 c4, cs = #[c0, c1, c2, c3, c4] := by
  obtain ⟨l⟩ := cs
  match l, h with
  | [c0, c1, c2, c3, c4], _ => exact ⟨c0, c1, c2, c3, c4, rfl⟩
theorem cS : Tryz.prog.cellsOf 22 = 1 := by kernel_rfl
theorem cM : Tryz.prog.cellsOf 23 = 1 := by kernel_rfl
theorem cP : Tryz.prog.cellsOf 24 = 1 := by kernel_rfl
set_option maxRecDepth 100000 in
theorem open_data {H : Type} {enc : TypeId × Value → H} {W : World} {base base2 : Nat} {spare : Nat → Bool} {held : Bool} {v : Value} {d : DataW H} {ps : List MemPlace} {ts : List TypeId} {ds : List (DataW H)} {j : Nat}
    (hsz : (DataW.weightsEach Tryz.prog ts ds).all (· ≤ reachBytes) = true) (ht : ts[j]? = some 26) (hd : ds[j]? = some d)
    (hok : Value.okWide Tryz.prog W .any base2 26 v) (h : DataW.Trod enc Tryz.prog W base spare held 26 v d ps) : ∃ (L : Pl) (D : Dat), v = .agg #[.slice L.p0 D.ws.length L.c0, .slice L.p1 D.ms.length L.c1, .slice L.p2 D.ls.length L.c2, .slice L.p3 D.ns.length L.c3, .slice L.p4 D.ss.length L.c4] ∧ DR W L D := by
  obtain ⟨cs, rfl, hsize⟩ := okWide_struct Tryz.underlying26 hok
  obtain ⟨v0, v1, v2, v3, v4, rfl⟩ := array5 (hsize.trans (by kernel_rfl))
  obtain ⟨fuel, hf⟩ := h
  obtain ⟨xs, n, _, hx, _, hxl, hfld⟩ := DataW.trod_struct Tryz.underlying26 hf
  match xs, hxl with
  | [y0, y1, y2, y3, y4], _ =>
    obtain ⟨hx, _⟩ := Prod.mk.inj hx
    have wt : ∀ m ∈ d.weights Tryz.prog 26, m ≤ 140737488351232 := fun m hm => of_decide_eq_true (List.all_eq_true.1 hsz m (DataW.weights_mem_each ht hd m hm))
    rw [hx] at wt
    simp only [DataW.weights, Tryz.underlying26] at wt
    have h0 := hfld 0 _ rfl
    have h1 := hfld 1 _ rfl
    have h2 := hfld 2 _ rfl
    have h3 := hfld 3 _ rfl
    have h4 := hfld 4 _ rfl
    simp [cS, cM, cP, Value.cells] at h0 h1 h2 h3 h4
    have U := Tryz.underlying3
    have UR := Tryz.underlying21
    obtain ⟨p0, c0, l0, rfl, r0, k0, b0, q0⟩ := open_list (E := eS) Tryz.underlying22 (by kernel_rfl) (B := 16) (by kernel_rfl) (elem_string Tryz.underlying9) h0 (fun m hm => wt m (by simp [DataW.weightsEach, hm]))
    obtain ⟨p1, c1, l1, rfl, r1, k1, b1, q1⟩ := open_list (E := eM) Tryz.underlying23 (by kernel_rfl) (B := 24) (by kernel_rfl) (elem_merge Tryz.underlying125 (by kernel_rfl) rfl rfl rfl (by kernel_rfl) (by kernel_rfl) (by kernel_rfl) U U U) h1 (fun m hm => wt m (by simp [DataW.weightsEach, hm]))
    obtain ⟨p2, c2, l2, rfl, r2, k2, b2, _⟩ := open_list (E := eP) Tryz.underlying24 (by kernel_rfl) (B := 8) (by kernel_rfl) (elem_span Tryz.underlying127 (by kernel_rfl) rfl rfl (by kernel_rfl) (by kernel_rfl) UR UR) h2 (fun m hm => wt m (by simp [DataW.weightsEach, hm]))
    obtain ⟨p3, c3, l3, rfl, r3, k3, b3, _⟩ := open_list (E := eP) Tryz.underlying24 (by kernel_rfl) (B := 8) (by kernel_rfl) (elem_span Tryz.underlying127 (by kernel_rfl) rfl rfl (by kernel_rfl) (by kernel_rfl) UR UR) h3 (fun m hm => wt m (by simp [DataW.weightsEach, hm]))
    obtain ⟨p4, c4, l4, rfl, r4, k4, b4, _⟩ := open_list (E := eP) Tryz.underlying24 (by kernel_rfl) (B := 8) (by kernel_rfl) (elem_span Tryz.underlying127 (by kernel_rfl) rfl rfl (by kernel_rfl) (by kernel_rfl) UR UR) h4 (fun m hm => wt m (by simp [DataW.weightsEach, hm]))
    exact ⟨⟨p0, c0, p1, c1, p2, c2, p3, c3, p4, c4⟩, ⟨l0, l1, l2, l3, l4⟩, rfl, ⟨r0, r1, r2, r3, r4, k0, k1, k2, k3, k4, b0, b1, b2, b3, b4, q0, q1⟩⟩
end Go.Proofs.YtigpaaelggnffaaGreatDoor.RowK
