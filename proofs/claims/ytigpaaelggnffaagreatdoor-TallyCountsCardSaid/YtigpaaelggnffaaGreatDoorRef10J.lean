/- The document's chapter 10: tesseraref10.Bytes, Joined. -/
import Derived.Test.YtigpaaelggnffaaGreatDoorRef10
import Derived.Test.YtigpaaelggnffaaGreatDoorSpanPure
import Derived.Deep.LoopGhost
namespace Go.Proofs.YtigpaaelggnffaaGreatDoor.Bpe
open Go.RowKit Go.Proofs.YtigpaaelggnffaaGreatDoor.Lib Go.Proofs.YtigpaaelggnffaaGreatDoor.Sl Go.Proofs.YtigpaaelggnffaaGreatDoor.Chain
set_option linter.unusedVariables false
set_option linter.unusedSimpArgs false

/-! ### Bytes -/
structure RbSt (w wr : World) (s : ByteArray) (k : Nat) (p : Option Addr) (c : Nat) : Prop where
  kl : k ≤ s.size
  row : Arr wr 3 1 p k c (Chain.ints ((bytesL s).take k))
  far : ∀ b, blkOf p = some b → w.heap.size ≤ b
  ext : Ext (fun _ => False) w wr
theorem RbSt.step {w wr w1 : World} {s : ByteArray} {k : Nat} {p p1 : Option Addr} {c c1 : Nat} {x : Int} (h : RbSt w wr s k p c) (hx : (bytesL s)[k]? = some x) (hA : Arr w1 3 1 p1 (k + 1) c1 (Chain.ints ((bytesL s).take k) ++ [.int .i64 x])) (hx1 : Ext (fun b => blkOf p = some b) wr w1) (hm : Moved wr p p1) : RbSt w w1 s (k + 1) p1 c1 := by
  have hk := (List.getElem?_eq_some_iff.1 hx).1
  rw [bytesL_length] at hk
  refine ⟨hk, ?_, fun b hb => ?_, h.ext.trans hx1 (fun i hi e => by have := h.far i e; omega)⟩
  · rw [List.take_add_one, hx]
    unfold Chain.ints at *
    rw [List.map_append]
    exact hA
  · rcases hm b hb with hh | hh
    · exact h.far b hh
    · have := h.ext.size; omega
def RBytesEnd (w : World) (s : ByteArray) (e : Ending) (w' : World) : Prop :=
  ∃ p c, e = .returned (.slice p s.size c) ∧ Arr w' 3 1 p s.size c (Chain.ints (bytesL s)) ∧ Ext (fun _ => False) w w' ∧ ∀ b, blkOf p = some b → w.heap.size ≤ b
set_option maxRecDepth 100000 in
set_option maxHeartbeats 1000000 in
theorem ref10bytes_any (w : World) (s : ByteArray) (hs : s.size ≤ 1048576) :
    Calls Tryz.prog 95 #[.string s] w fun e w' => RBytesEnd w s e w' := by
  go_enter Tryz.func95, Tryz.ntmps95
  go_wp2_with fail
  go_loopw [3, 4] (fun l i wr => ∃ (k : Nat) (p : Option Addr) (c : Nat), i = .int .i64 k ∧ l = .slice p k c ∧ RbSt w wr s k p c) (fun _ i _ => s.size - (intOf i).toNat)
  case atStart => exact ⟨0, none, 0, rfl, rfl, Nat.zero_le _, arr_nil _ _ _, (fun b hb => by cases hb), Ext.refl _ _⟩
  case round =>
    obtain ⟨k, p, c, rfl, rfl, hst⟩ := hrel
    have ST := Lib.hid hst
    have hk := hst.kl
    have hA0 := hst.row
    clear hst
    by_cases hlt : k < s.size
    · have i1 : (k : Int) < (s.size : Int) := by omega
      obtain ⟨x, hx, hxx, hx0, hx1⟩ := bytes_at hlt
      have T := Lib.hid (fun w1 p1 c1 hA hx1 hm => ST.out.step (w1 := w1) (p1 := p1) (c1 := c1) hx hA hx1 hm)
      clear hx
      obtain ⟨ys, hys⟩ : ∃ ys, Chain.ints ((bytesL s).take k) = ys := ⟨_, rfl⟩
      rw [hys] at T hA0
      have HA := Lib.hid hA0
      clear hys hA0
      go_wp2_with (at_builtin; refine arr_append1 rfl (.tmp 11) (.tmp 16) 62 3 1 8 (.int .i64 0) rfl Tryz.underlying62 infoI rfl (by decide) (by decide) p k c ys [.int .i64 x] rfl _ rfl (by simp) rfl (by simp [Value.oneCell']) HA.out (by omega) ?_; intro p1 c1 w1 hA1 hx1 hm1; have R := Lib.hid (T.out w1 p1 c1 hA1 hx1 hm1); clear hA1 hx1 hm1)
      go_roundw
      case rel => exact ⟨k + 1, p1, c1, by go_num, rfl, R.out⟩
      case measure => simp [intOf]; omega
    · obtain rfl : k = s.size := by omega
      clear hA0
      go_wp2_with fail
      go_ret
      refine ⟨p, c, rfl, ?_, ST.out.ext, ST.out.far⟩
      have := ST.out.row
      rwa [List.take_of_length_le (by rw [bytesL_length]; omega)] at this

/-! ### Joined -/
def eQ : En (Nat × Nat) := ⟨2, fun x => [.int .i64 (x.1 : Int), .int .i64 (x.2 : Int)], by decide, fun _ => rfl, by simp [Value.oneCell']⟩
theorem infoQ : (Tryz.prog.info? 211).map (fun i => (i.zero, i.size, i.bytes)) = some (some (.agg #[.int .i64 0, .int .i64 0]), 2, 16) := by kernel_rfl
theorem flatI (l : List Int) : flat eI l = Chain.ints l := by
  induction l with
  | nil => rfl
  | cons x l ih => rw [flat_cons, ih]; rfl
theorem flatI_set (l : List Int) (i : Nat) (v : Int) : (flat eI l).set i (.int .i64 v) = flat eI (l.set i v) := by
  rw [flatI, flatI]; unfold Chain.ints; rw [List.map_set]
/-- Taking numbers out of the midst of a row of the call's own: append(l[:m], l[u:]...). -/
theorem delI_step {ops : Array Oper} {o : Oper} {a : Act} {K : Act → World → Prop} {Q : Exit → Act → World → Prop} {E : Prop} {W : World} (hw : Region.wanted o (yielded ops a.tmps) = true) (s x : Operand)
    (ho : o.op = .call { callee := .builtin .append, args := #[s, x], argTypes := #[62, 62] }) {A m u c mc : Nat} {q : Option Addr} {ys : List Int}
    (hs : a.eval s = .slice (some ⟨A, 0, none⟩) m c) (hx : a.eval x = .slice q (ys.length - u) mc) (hq : q = some ⟨A, u, none⟩ ∨ ∃ z, q = some z ∧ ys.length ≤ u)
    (hA : Arr W 3 1 (some ⟨A, 0, none⟩) ys.length c (flat eI ys)) (hm : m ≤ ys.length) (hu : u ≤ ys.length) (hb : ys.length ≤ 1099511627776)
    (h : ∀ p1 c1 w1, Arr w1 3 1 p1 (m + (ys.length - u)) c1 (flat eI (ys.take m ++ ys.drop u)) → Ext (fun k => blkOf (some (⟨A, 0, none⟩ : Addr)) = some k) W w1 → Moved W (some ⟨A, 0, none⟩) p1 → K (a.put o.dst (.slice p1 (m + (ys.length - u)) c1)) w1) :
    if Region.wanted o (yielded ops a.tmps) = true then Oper.wp Tryz.prog o a W K Q else E := by
  have FL : (flat eI ys).length = ys.length := by rw [flat_length]; show ys.length * 1 = _; omega
  have NL : ((flat eI ys).drop u).length = (ys.length - u) * 1 := by rw [List.length_drop, FL]; omega
  refine arr_append_step hw s x 62 3 1 8 (.int .i64 0) ho Tryz.underlying62 infoI rfl (by decide) (by decide) (some ⟨A, 0, none⟩) m c ((flat eI ys).take (m * 1)) hs q (ys.length - u) mc hx ((flat eI ys).drop u) NL ?_ ?_ (fun v hv => flat_cells eI ys v (List.mem_of_mem_drop hv)) (arr_take hA hm) (by omega) ?_
  · intro ad hqa j v hv
    rcases hq with rfl | ⟨z, rfl, hz⟩
    · injection hqa with hqa
      subst hqa
      rw [List.getElem?_drop] at hv
      have hlt := (List.getElem?_eq_some_iff.1 hv).1
      rw [Addr.add_lit, arr_cell hA _ (by omega)]
      exact hv
    · have h9 := (List.getElem?_eq_some_iff.1 hv).1
      omega
  · intro h0
    rcases hq with rfl | ⟨z, rfl, _⟩ <;> cases h0
  · intro p1 c1 w1 hA1 hx1 hm1
    refine h p1 c1 w1 ?_ hx1 hm1
    have e1 : flat eI (ys.take m ++ ys.drop u) = (flat eI ys).take (m * 1) ++ (flat eI ys).drop u := by
      rw [flatI, flatI]
      unfold Chain.ints
      rw [List.map_append, List.map_take, List.map_drop, Nat.mul_one]
    rw [e1]
    exact hA1
structure JdM (w wr : World) (L : Pl) (d : Dat) (l : List Int) (p : Option Addr) (c : Nat) (st : List (Nat × Nat)) (sp : Option Addr) (sc : Nat) : Prop where
  row : Arr wr 3 1 p l.length c (flat eI l)
  stp : Arr wr 211 2 sp st.length sc (flat eQ st)
  box : wr.heap[w.heap.size]? = some (.cells (dataCells L d) 26 (0, 0))
  far : ∀ k, blkOf p = some k → w.heap.size < k
  sfar : ∀ k, blkOf sp = some k → w.heap.size < k ∧ blkOf p ≠ some k
  ext : Ext (fun _ => False) w wr
section
variable {w wr w' : World} {L : Pl} {d : Dat} {l : List Int} {p : Option Addr} {c : Nat} {st : List (Nat × Nat)} {sp : Option Addr} {sc : Nat}
theorem JdM.on (h : JdM w wr L d l p c st sp sc) (hx : Ext (fun _ => False) wr w') : JdM w w' L d l p c st sp sc :=
  ⟨arr_ext h.row hx (fun _ _ h => h), arr_ext h.stp hx (fun _ _ h => h), hx.obj h.box (fun h => h), h.far, h.sfar, h.ext.trans hx (fun _ _ h => h)⟩
theorem JdM.set {a : Nat} (h : JdM w wr L d l (some ⟨a, 0, none⟩) c st sp sc) (i : Nat) (v : Int) : JdM w (wr.setCell ⟨a, i, none⟩ (.int .i64 v)) L d (l.set i v) (some ⟨a, 0, none⟩) c st sp sc := by
  have hx : Ext (fun k => k = a) wr (wr.setCell ⟨a, i, none⟩ (.int .i64 v)) := (Ext.refl (fun k => k = a) wr).setCell (p := ⟨a, i, none⟩) (fun _ => rfl) _
  have hf := h.far a rfl
  refine ⟨?_, arr_ext h.stp hx (fun k hk e => (h.sfar k hk).2 (by rw [e]; rfl)), hx.obj h.box (fun e => by omega), h.far, h.sfar, h.ext.trans hx (fun j hj e => by omega)⟩
  have := arr_set h.row i (.int .i64 v)
  rw [flatI_set] at this
  rw [List.length_set]
  exact this
theorem JdM.moved {l2 : List Int} {p2 : Option Addr} {c2 n2 : Nat} (h : JdM w wr L d l p c st sp sc) (hn : n2 = l2.length) (hA : Arr w' 3 1 p2 n2 c2 (flat eI l2)) (hx : Ext (fun k => blkOf p = some k) wr w') (hm : Moved wr p p2) : JdM w w' L d l2 p2 c2 st sp sc := by
  subst hn
  have hs := h.ext.size
  have hb := blk_lt h.box
  refine ⟨hA, arr_ext h.stp hx (fun k hk e => (h.sfar k hk).2 e), hx.obj h.box (fun e => by have := h.far _ e; omega), fun k hk => ?_, fun k hk => ⟨(h.sfar k hk).1, fun e => ?_⟩, h.ext.trans hx (fun j hj e => by have := h.far j e; omega)⟩
  · rcases hm k hk with hh | hh
    · exact h.far k hh
    · omega
  · rcases hm k e with hh | hh
    · exact (h.sfar k hk).2 hh
    · have := arr_lt h.stp hk
      omega
theorem JdM.push {sp2 : Option Addr} {sc2 : Nat} {x : Nat × Nat} (h : JdM w wr L d l p c st sp sc) (hA : Arr w' 211 2 sp2 (st.length + 1) sc2 (flat eQ st ++ [.int .i64 (x.1 : Int), .int .i64 (x.2 : Int)])) (hx : Ext (fun k => blkOf sp = some k) wr w') (hm : Moved wr sp sp2) : JdM w w' L d l p c (st ++ [x]) sp2 sc2 := by
  have hb := blk_lt h.box
  refine ⟨arr_ext h.row hx (fun k hk e => (h.sfar k e).2 hk), ?_, hx.obj h.box (fun e => by have := (h.sfar _ e).1; omega), h.far, fun k hk => ?_, h.ext.trans hx (fun j hj e => by have := (h.sfar j e).1; omega)⟩
  · rw [List.length_append, flat_append, flat_one]
    exact hA
  · rcases hm k hk with hh | hh
    · exact h.sfar k hh
    · refine ⟨by omega, fun e => ?_⟩
      have := arr_lt h.row e
      omega
end
def RJoinEnd (w : World) (d : Dat) (ids : List Int) (e : Ending) (w' : World) : Prop :=
  ∃ p c sp sc, e = .returned (.tuple #[.slice p (joinT d.ms ids).1.length c, .slice sp (joinT d.ms ids).2.length sc]) ∧ Arr w' 3 1 p (joinT d.ms ids).1.length c (flat eI (joinT d.ms ids).1) ∧ Arr w' 211 2 sp (joinT d.ms ids).2.length sc (flat eQ (joinT d.ms ids).2) ∧ Ext (fun _ => False) w w' ∧
    (∀ k, blkOf p = some k → w.heap.size ≤ k) ∧ ∀ k, blkOf sp = some k → w.heap.size ≤ k
theorem step_td {l : List Int} {i : Nat} {id : Int} : stepT l i id = (l.set i id).take (i + 1) ++ (l.set i id).drop (i + 2) := by
  unfold stepT
  rw [List.eraseIdx_eq_take_drop_succ]
set_option maxRecDepth 100000 in
set_option maxHeartbeats 4000000 in
theorem ref10joined_any (w : World) (L : Pl) (d : Dat) (p : Option Addr) (c : Nat) (ids : List Int) (h : DR w L d) (hm : d.ms.length ≤ 1099511627776) (hl : Rd eI w p ids) (hn : ids.length ≤ 1048576) :
    Calls Tryz.prog 94 #[.agg #[.slice L.p0 d.ws.length L.c0, .slice L.p1 d.ms.length L.c1, .slice L.p2 d.ls.length L.c2, .slice L.p3 d.ns.length L.c3, .slice L.p4 d.ss.length L.c4], .slice p ids.length c] w fun e w' => RJoinEnd w d ids e w' := by
  have R := Lib.hid h
  have I := Lib.hid hl
  have HP := Lib.hid (show p = none → ids.length = 0 from fun h => by rw [h] at hl; rw [hl.none_]; rfl)
  clear h hl
  go_enter Tryz.func94, Tryz.ntmps94
  obtain ⟨W0, hW0⟩ : ∃ W0, w.alloc (.cells #[.slice L.p0 d.ws.length L.c0, .slice L.p1 d.ms.length L.c1, .slice L.p2 d.ls.length L.c2, .slice L.p3 d.ns.length L.c3, .slice L.p4 d.ss.length L.c4] 26) = W0 := ⟨_, rfl⟩
  have Y0 := Lib.hid (show Ext (fun _ => False) w W0 ∧ W0.heap[w.heap.size]? = some (.cells (dataCells L d) 26 (0, 0)) ∧ W0.heap.size = w.heap.size + 1 from by
    rw [← hW0]; exact ⟨(Ext.refl _ _).alloc _, alloc_at _ _ _ rfl, by simp⟩)
  have HW := Lib.hid hW0
  clear hW0
  go_upto_region 1 with (fail)
  rw [HW.out]
  go_wp2_with (at_builtin; (refine arr_append rfl (.tmp 11) (.tmp 12) 62 3 1 8 (.int .i64 0) rfl Tryz.underlying62 infoI rfl (by decide) (by decide) (some ⟨W0.heap.size, 0, none⟩) 0 0 [] rfl p ids.length c rfl (flat eI ids) (flat_length eI ids) ((I.out.on (Y0.out.1.alloc _)).src) HP.out (flat_cells eI ids) (arr_empty W0 3 1) (by omega) ?_); intro p1 c1 w1 hA hx hm1)
  have S0 := Lib.hid (show JdM w w1 L d ids p1 c1 [] none 0 from by
    have hs := Y0.out.2.2
    have hx2 : Ext (fun _ => False) W0 w1 := ((Ext.refl (fun _ => False) W0).alloc (.cells #[] 3)).trans hx (fun i hi e => by injection e with e; have : W0.heap.size = i := e; omega)
    refine ⟨by rw [List.nil_append, Nat.zero_add] at hA; exact hA, arr_nil _ _ _, hx2.obj Y0.out.2.1 (fun h => h), fun k hk => ?_, (fun k hk => by cases hk), Y0.out.1.trans hx2 (fun _ _ h => h)⟩
    rcases hm1 k hk with hh | hh
    · injection hh with hh
      have : W0.heap.size = k := hh
      omega
    · simp at hh
      omega)
  clear hA hx hm1 Y0
  go_wp2_with fail
  go_loopg [6, 7] ids.length (fun g v6 v7 wr => ∃ l p c st sp sc, v6 = .slice p l.length c ∧ v7 = .slice sp st.length sc ∧ JdM w wr L d l p c st sp sc ∧ joinT d.ms ids = ((joinT d.ms l).1, st ++ (joinT d.ms l).2) ∧ l.length = g ∧ l.length + st.length = ids.length)
  case atStart => exact ⟨ids, p1, c1, [], none, 0, rfl, rfl, S0.out, rfl, rfl, rfl⟩
  case round =>
    obtain ⟨l, p2, c2, st, sp, sc, rfl, rfl, hM, hj, hg, hlen⟩ := hrel
    have M := Lib.hid hM
    have J := Lib.hid hj
    have G := Lib.hid hg
    have LN := Lib.hid hlen
    have hb2 := hM.box
    have b0 := blk_cell hb2 0
    have b1 := blk_cell hb2 1
    have b2 := blk_cell hb2 2
    have b3 := blk_cell hb2 3
    have b4 := blk_cell hb2 4
    simp [dataCells] at b0 b1 b2 b3 b4
    have NX := Lib.hid (ref10next_any wr L d p2 c2 l (R.out.on hM.ext) hm (Rd.of_arr hM.row) (by omega))
    clear hM hj hg hlen hb2 S0
    go_wp2_with fail
    refine NX.out.mono ?_
    rintro e w2 ⟨rfl, hx2⟩
    cases hnx : nextT d.ms l with
    | none =>
      have E := Lib.hid (show joinT d.ms ids = (l, st) from by rw [J.out, joinT_none hnx, List.append_nil])
      have M2 := Lib.hid (M.out.on hx2)
      clear hx2 b0 b1 b2 b3 b4 NX hnx
      simp only [bestV]
      go_wp2_with fail
      go_ret2
      refine ⟨p2, c2, sp, sc, by rw [E.out]; rfl, by rw [E.out]; exact arr_ext M2.out.row (by repeat (first | exact Ext.refl _ _ | refine Ext.drew ?_ | refine Ext.alloc ?_ _)) (fun _ _ h => h), by rw [E.out]; exact arr_ext M2.out.stp (by repeat (first | exact Ext.refl _ _ | refine Ext.drew ?_ | refine Ext.alloc ?_ _)) (fun _ _ h => h), by exact M2.out.ext.alloc _, fun k hk => by have := M2.out.far k hk; omega, fun k hk => by have := (M2.out.sfar k hk).1; omega⟩
    | some t =>
      obtain ⟨r, i, id⟩ := t
      have hlt := (nextT_some hnx).1.lt
      have JN := Lib.hid (show joinT d.ms ids = ((joinT d.ms (stepT l i id)).1, (st ++ [(r, i)]) ++ (joinT d.ms (stepT l i id)).2) from by rw [J.out, joinT_some hnx]; simp)
      have SL := Lib.hid (stepT_length (l := l) (i := i) (id := id) (by omega))
      obtain ⟨a, rfl⟩ := arr_some M.out.row (by omega)
      have M2 := Lib.hid (M.out.on hx2)
      clear b0 b1 b2 b3 b4 NX hnx
      simp only [bestV]
      go_upto_region 4 with (fail)
      obtain ⟨W2, hW2⟩ : ∃ W2, w2.alloc (.cells #[.int .i64 (r : Int), .int .i64 (i : Int)] 211) = W2 := ⟨_, rfl⟩
      obtain ⟨xb, hxb⟩ : ∃ xb, w2.heap.size = xb := ⟨_, rfl⟩
      have M3 := Lib.hid (show JdM w W2 L d l (some ⟨a, 0, none⟩) c2 st sp sc from by rw [← hW2]; exact M2.out.on ((Ext.refl _ _).alloc _))
      have XB := Lib.hid (show W2.heap[xb]? = some (.cells #[.int .i64 (r : Int), .int .i64 (i : Int)] 211 (0, 0)) from by rw [← hW2, ← hxb]; exact heap_alloc_new w2 _)
      have XN := Lib.hid (show xb ≠ a ∧ w.heap.size ≤ xb ∧ blkOf sp ≠ some xb from by
        have h1 := arr_lt M2.out.row (k := a) rfl
        have h2 := M2.out.ext.size
        refine ⟨by omega, by omega, fun e => ?_⟩
        have := arr_lt M2.out.stp e
        omega)
      have x0 := blk_cell XB.out 0
      have x1 := blk_cell XB.out 1
      simp at x0 x1
      rw [hW2, hxb]
      clear hW2 hxb hx2
      obtain ⟨u0, hu0⟩ : ∃ u, W2.cell? ⟨a, i, none⟩ = some u := ⟨_, (arr_cell M3.out.row _ (by omega)).trans (List.getElem?_eq_getElem (by have := arr_len M3.out.row; omega))⟩
      have hf0 := arr_frozen M3.out.row i
      have i1 : (i : Int) < (l.length : Int) := by omega
      go_upto_region 7 with (fail)
      obtain ⟨W3, hW3⟩ : ∃ W3, W2.setCell ⟨a, i, none⟩ (.int .i64 id) = W3 := ⟨_, rfl⟩
      have M4 := Lib.hid (show JdM w W3 L d (l.set i id) (some ⟨a, 0, none⟩) c2 st sp sc from by rw [← hW3]; exact M3.out.set i id)
      have XB3 := Lib.hid (show W3.heap[xb]? = some (.cells #[.int .i64 (r : Int), .int .i64 (i : Int)] 211 (0, 0)) from by rw [← hW3]; exact blk_far XB.out XN.out.1 _)
      rw [hW3]
      have x1 := blk_cell XB3.out 1
      simp at x1
      clear hW3 x0 hu0 hf0
      obtain ⟨ys, hys⟩ : ∃ ys, l.set i id = ys := ⟨_, rfl⟩
      have LY : ys.length = l.length := by rw [← hys, List.length_set]
      rw [hys] at M4
      have ST := Lib.hid (show stepT l i id = ys.take (i + 1) ++ ys.drop (i + 2) from by rw [step_td, hys])
      rw [← LY]
      rw [← LY] at hlt i1 LN SL G
      clear LY hys M3 M2 M XB
      obtain ⟨m, hm'⟩ : ∃ m, i + 1 = m := ⟨_, rfl⟩
      obtain ⟨u, hu⟩ : ∃ u, i + 2 = u := ⟨_, rfl⟩
      rw [hm', hu] at ST
      have hw1 : IntKind.i64.wrap ((i : Int) + 1) = (m : Int) := by rw [IntWalk.i64_in _ (by have := LN.out; omega)]; omega
      have hw2 : IntKind.i64.wrap ((i : Int) + 2) = (u : Int) := by rw [IntWalk.i64_in _ (by have := LN.out; omega)]; omega
      have CAP := (arr_cap M4.out.row).1
      have m1 : (m : Int) ≤ (c2 : Int) := by omega
      have m0 : (0 : Int) ≤ (m : Int) := by omega
      have u1 : (u : Int) ≤ (ys.length : Int) := by omega
      have u0' : (0 : Int) ≤ (u : Int) := by omega
      have c1' : (ys.length : Int) ≤ (c2 : Int) := by omega
      have BD : m ≤ ys.length ∧ u ≤ ys.length ∧ ys.length ≤ 1099511627776 := ⟨by omega, by omega, by have := LN.out; omega⟩
      have BDH := Lib.hid BD
      have HOn := Lib.hid (fun n (hx : Ext (fun _ => False) W3 n) => (M4.out.on hx).row)
      have LEN : m + (ys.length - u) = (ys.take m ++ ys.drop u).length := by rw [List.length_append, List.length_take, List.length_drop]; omega
      have LENH := Lib.hid LEN
      have FIN := Lib.hid (fun n (hx : Ext (fun _ => False) W3 n) p7 c7 w7 hA7 hx7 hm7 => (M4.out.on hx).moved (l2 := ys.take m ++ ys.drop u) (p2 := p7) (c2 := c7) (w' := w7) LEN hA7 hx7 hm7)
      have XBn := Lib.hid (fun n (hx : Ext (fun _ => False) W3 n) w7 (hx7 : Ext (fun k => blkOf (some (⟨a, 0, none⟩ : Addr)) = some k) n w7) => hx7.obj (hx.obj XB3.out (fun h => h)) (fun h => XN.out.1 (by injection h with h; exact h.symm)))
      clear BD LEN CAP
      by_cases hcap : c2 = u
      · have QQH := Lib.hid (show ys.length ≤ u by omega)
        subst hcap
        go_region_law (first | (refine delI_step (c := c2) (mc := 0) (m := m) (u := c2) (A := a) (q := some ⟨a, 0, none⟩) (ys := ys) (by kernel_rfl) (.tmp 34) (.tmp 39) rfl (by kernel_rfl) (by kernel_rfl) (.inr ⟨_, rfl, QQH.out⟩) (HOn.out _ (by repeat (first | exact Ext.refl _ _ | refine Ext.drew ?_ | refine Ext.drewN ?_ _ | refine Ext.alloc ?_ _))) BDH.out.1 BDH.out.2.1 BDH.out.2.2 ?_; intro p7 c7 w7 hA7 hx7 hm7; have P7 := Lib.hid (FIN.out _ (by repeat (first | exact Ext.refl _ _ | refine Ext.drew ?_ | refine Ext.drewN ?_ _ | refine Ext.alloc ?_ _)) p7 c7 w7 hA7 hx7 hm7); have X7 := Lib.hid (XBn.out _ (by repeat (first | exact Ext.refl _ _ | refine Ext.drew ?_ | refine Ext.drewN ?_ _ | refine Ext.alloc ?_ _)) w7 hx7); clear hA7 hx7 hm7))
        all_goals
          have x0 := blk_cell X7.out 0
          have x1 := blk_cell X7.out 1
          simp at x0 x1
          have LN2 := LN.out
          go_wp2_with (at_builtin; refine arr_append1 rfl (.tmp 41) (.tmp 43) 182 211 2 16 (.agg #[.int .i64 0, .int .i64 0]) rfl Tryz.underlying182 infoQ rfl (by decide) (by decide) sp st.length sc (flat eQ st) [.int .i64 (r : Int), .int .i64 (i : Int)] rfl _ rfl (by simp) rfl (by simp [Value.oneCell']) P7.out.stp (by omega) ?_; intro p8 c8 w8 hA8 hx8 hm8; have P8 := Lib.hid (P7.out.push (x := (r, i)) hA8 hx8 hm8); clear hA8 hx8 hm8)
          go_roundg (ys.take m ++ ys.drop c2).length
          case measure => rw [← LENH.out, ← G.out]; omega
          case rel => exact ⟨ys.take m ++ ys.drop c2, p7, c7, st ++ [(r, i)], p8, c8, by rw [LENH.out], by rw [List.length_append]; rfl, P8.out, by rw [← ST.out]; exact JN.out, rfl, by rw [← LENH.out, List.length_append, List.length_singleton]; omega⟩
      · go_region_law (first | (refine delI_step (c := c2) (mc := c2 - u) (m := m) (u := u) (A := a) (q := some ⟨a, u, none⟩) (ys := ys) (by kernel_rfl) (.tmp 34) (.tmp 39) rfl (by kernel_rfl) (by kernel_rfl) (.inl rfl) (HOn.out _ (by repeat (first | exact Ext.refl _ _ | refine Ext.drew ?_ | refine Ext.drewN ?_ _ | refine Ext.alloc ?_ _))) BDH.out.1 BDH.out.2.1 BDH.out.2.2 ?_; intro p7 c7 w7 hA7 hx7 hm7; have P7 := Lib.hid (FIN.out _ (by repeat (first | exact Ext.refl _ _ | refine Ext.drew ?_ | refine Ext.drewN ?_ _ | refine Ext.alloc ?_ _)) p7 c7 w7 hA7 hx7 hm7); have X7 := Lib.hid (XBn.out _ (by repeat (first | exact Ext.refl _ _ | refine Ext.drew ?_ | refine Ext.drewN ?_ _ | refine Ext.alloc ?_ _)) w7 hx7); clear hA7 hx7 hm7))
        all_goals
          have x0 := blk_cell X7.out 0
          have x1 := blk_cell X7.out 1
          simp at x0 x1
          have LN2 := LN.out
          go_wp2_with (at_builtin; refine arr_append1 rfl (.tmp 41) (.tmp 43) 182 211 2 16 (.agg #[.int .i64 0, .int .i64 0]) rfl Tryz.underlying182 infoQ rfl (by decide) (by decide) sp st.length sc (flat eQ st) [.int .i64 (r : Int), .int .i64 (i : Int)] rfl _ rfl (by simp) rfl (by simp [Value.oneCell']) P7.out.stp (by omega) ?_; intro p8 c8 w8 hA8 hx8 hm8; have P8 := Lib.hid (P7.out.push (x := (r, i)) hA8 hx8 hm8); clear hA8 hx8 hm8)
          go_roundg (ys.take m ++ ys.drop u).length
          case measure => rw [← LENH.out, ← G.out]; omega
          case rel => exact ⟨ys.take m ++ ys.drop u, p7, c7, st ++ [(r, i)], p8, c8, by rw [LENH.out], by rw [List.length_append]; rfl, P8.out, by rw [← ST.out]; exact JN.out, rfl, by rw [← LENH.out, List.length_append, List.length_singleton]; omega⟩
end Go.Proofs.YtigpaaelggnffaaGreatDoor.Bpe
