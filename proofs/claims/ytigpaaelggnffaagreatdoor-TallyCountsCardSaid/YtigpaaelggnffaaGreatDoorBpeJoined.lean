/- Merged of Run, Next, All, BpeJoinP, BpeJoined. -/
import Derived.Test.YtigpaaelggnffaaGreatDoorItems
import Derived.Test.YtigpaaelggnffaaGreatDoorRight
import Derived.Test.YtigpaaelggnffaaGreatDoorHeapBa
import Derived.Test.YtigpaaelggnffaaGreatDoorBpeLeft
import Derived.RangeFuncNested
import Derived.Scope
import Derived.ControlIn
import Derived.Deep.LoopGhost
/- cut.run: the first items of one kind. -/
namespace Go.Proofs.YtigpaaelggnffaaGreatDoor.Cut
open Go.RowKit Go.Shelf Go.Proofs.YtigpaaelggnffaaGreatDoor.Lib Go.Proofs.YtigpaaelggnffaaGreatDoor.Sl Go.Proofs.YtigpaaelggnffaaGreatDoor.Chain Go.Proofs.YtigpaaelggnffaaGreatDoorW.PrintLast
set_option linter.unusedVariables false
set_option linter.unusedSimpArgs false
attribute [local go_sem] Oper.semAt_some

/-! ### In plain words -/
def sumN (l : List Item) : Nat := (l.map Item.n).sum
def lastN (l : List Item) : Nat := (l.getLast?.map Item.n).getD 0
def headK (d : Dat) (l : List Item) : Int := (l.head?.map (kindI d)).getD 0
def SameK (d : Dat) (l : List Item) : Prop := ∀ x ∈ l, kindI d x = headK d l
theorem sumN_snoc (l : List Item) (x : Item) : sumN (l ++ [x]) = sumN l + x.n := by simp [sumN]
theorem lastN_snoc (l : List Item) (x : Item) : lastN (l ++ [x]) = x.n := by simp [lastN]
theorem headK_snoc (d : Dat) {l : List Item} (x : Item) (h : l ≠ []) : headK d (l ++ [x]) = headK d l := by
  cases l with
  | nil => exact absurd rfl h
  | cons y t => rfl
theorem SameK.snoc {d : Dat} {l : List Item} {x : Item} (h : SameK d l) (hl : l ≠ []) (hx : kindI d x = headK d l) : SameK d (l ++ [x]) := by
  intro y hy
  rw [headK_snoc d x hl]
  rcases List.mem_append.1 hy with hy | hy
  · exact h y hy
  · obtain rfl : y = x := by simpa using hy
    exact hx
theorem SameK.one (d : Dat) (x : Item) : SameK d [x] := fun y hy => by
  obtain rfl : y = x := by simpa using hy
  rfl
theorem runGo_same {d : Dat} {k : Int} : ∀ {t u : List Item} {n last : Nat}, (∀ x ∈ t, kindI d x = k) → (∀ x, u.head? = some x → kindI d x ≠ k) → runGo d k (t ++ u) n last = (n + sumN t, (t.getLast?.map Item.n).getD last) := by
  intro t
  induction t with
  | nil =>
    intro u n last _ hu
    cases u with
    | nil => simp [runGo, sumN]
    | cons x u =>
      have := hu x rfl
      simp [runGo, sumN, this]
  | cons x t ih =>
    intro u n last ht hu
    have hx := ht x (.head _)
    rw [List.cons_append]
    unfold runGo
    rw [if_pos hx, ih (fun y hy => ht y (.tail _ hy)) hu]
    simp only [sumN, List.map_cons, List.sum_cons, Prod.mk.injEq]
    refine ⟨by omega, ?_⟩
    cases t with
    | nil => rfl
    | cons y t => rfl
theorem runT_is {d : Dat} {s : ByteArray} {l u : List Item} (he : items s = l ++ u) (hl : l ≠ []) (hs : SameK d l) (hu : ∀ x, u.head? = some x → kindI d x ≠ headK d l) : runT d s = (sumN l, lastN l, headK d l) := by
  cases l with
  | nil => exact absurd rfl hl
  | cons x t =>
    unfold runT
    rw [he, List.cons_append]
    simp only
    have := runGo_same (d := d) (k := kindI d x) (t := t) (u := u) (n := x.n) (last := x.n) (fun y hy => hs y (.tail _ hy)) hu
    rw [this]
    refine Prod.ext (by simp [sumN]) (Prod.ext ?_ rfl)
    unfold lastN
    cases t with
    | nil => rfl
    | cons y t => rfl
/-! ### The walk -/
theorem items_in (N : Nat) (s : ByteArray) (w : World) :
    CallsIn Fence.wide N Tryz.prog 125 #[.string s] w fun e w' => e = .returned (.func (.func 150) #[] #[.pointer (some ⟨w.heap.size, 0, none⟩)]) ∧ w' = w.alloc (.cells #[.string s] 9) := by
  refine callsIn_of_wp Tryz.func125 rfl trivial ?_ rfl
  simp only [Tryz.ntmps125, List.size_toArray, List.length_cons, List.length_nil, Nat.reduceAdd, Nat.reduceSub, Array.replicate_succ, Array.replicate_zero, List.push_toArray, List.append_toArray, List.nil_append, List.cons_append]
  gi_wp2
  go_ret
  exact ⟨rfl, rfl⟩
theorem items_stops (N : Nat) (hn : 1 ≤ N) (Bs : Nat) (V : Nat → Prop) (s : ByteArray) (hs : s.size ≤ 140737488351232) (w : World) (hV : ∀ k, V k → k < w.heap.size) (hL : ItSt V s Bs w) :
    SeqStopsK Fence.wide N Tryz.prog 150 #[.pointer (some ⟨Bs, 0, none⟩)] (fun x : It s => #[itV x.1]) (KeepC V) (fun ys => ys.map Subtype.val = items s) (fun pre => pre.map Subtype.val <+: items s) (items s).length w := fun l J Jx W hW hJ _ hY h0 =>
  items1_in N hn l Bs V s hs J Jx hY (fun pre A B hj hx => hJ pre A B none hj (ext_grown hx) (fun r e => by cases e)) W (fun k hk => Nat.lt_of_lt_of_le (hV k hk) hW.size) (hL.on ⟨hW.os, hW.tape, hW.output, hW.size, fun k hk _ => hW.block k hk⟩) h0
theorem kind_any {w : World} {a : Nat} {p0 p1 p2 : Option Addr} {c0 c1 c2 : Nat} {d : Dat} (H : TabAt 512 w a p0 p1 p2 c0 c1 c2 d.ls d.ns d.ss) (o0 : Ok d.ls) (o1 : Ok d.ns) (o2 : Ok d.ss) (x : Item) :
    Calls Tryz.prog 127 #[.pointer (some ⟨a, 0, none⟩), itV x] w fun e w' => e = .returned (.int .i64 (kindI d x)) ∧ Ext (fun _ => False) w w' := by
  obtain ⟨k, n, r, bad⟩ := x
  have X1 := Lib.hid (show Ext (fun _ => False) w (w.alloc (.cells #[.int .i64 (k : Int), .int .i64 (n : Int), .int .i32 (r : Int), .bool bad] 219)) from (Ext.refl _ _).alloc _)
  have OF := Lib.hid (of_any _ a p0 p1 p2 c0 c1 c2 d.ls d.ns d.ss (r : Int) (H.on X1.out) o0 o1 o2)
  have KI := Lib.hid (show kindI d ⟨k, n, r, bad⟩ = if bad = true then 4 else kindOf d.ls d.ns d.ss (r : Int) from rfl)
  unfold itV
  simp only
  rw [KI.out]
  clear H KI
  cases bad with
  | true =>
    go_enter Tryz.func127, Tryz.ntmps127
    go_wp2_with fail
    go_ret
    exact ⟨rfl, X1.out⟩
  | false =>
    obtain ⟨K, hK⟩ : ∃ K, kindOf d.ls d.ns d.ss (r : Int) = K := ⟨_, rfl⟩
    rw [hK] at OF
    rw [show (if false = true then (4 : Int) else kindOf d.ls d.ns d.ss (r : Int)) = K from by rw [← hK]; rfl]
    clear hK
    go_enter Tryz.func127, Tryz.ntmps127
    go_wp2_with fail
    refine OF.out.mono ?_
    rintro e w1 ⟨rfl, hx⟩
    have X2 := Lib.hid (X1.out.trans hx (fun _ _ h => h))
    clear hx
    go_wp2_with fail
    go_ret
    exact ⟨rfl, X2.out⟩
theorem table_any {w : World} {m tp : Nat} (h : w.cell? ⟨m, 5, none⟩ = some (.pointer (some ⟨tp, 0, none⟩))) :
    Calls Tryz.prog 126 #[.pointer (some ⟨m, 0, none⟩)] w fun e w' => e = .returned (.pointer (some ⟨tp, 0, none⟩)) ∧ w = w' := by
  go_enter Tryz.func126, Tryz.ntmps126
  go_wp2
  go_ret
  exact ⟨rfl, rfl⟩
/-- A model whose classes are in order. -/
structure IsCut (w : World) (m : Nat) (d : Dat) : Prop where
  model : IsModel w m d
  o0 : Ok d.ls
  o1 : Ok d.ns
  o2 : Ok d.ss
theorem IsCut.on {w w' : World} {m : Nat} {d : Dat} (h : IsCut w m d) (hx : Ext (fun _ => False) w w') : IsCut w' m d := { h with model := h.model.on hx }
theorem IsCut.parts {w : World} {m : Nat} {d : Dat} (h : IsCut w m d) : ∃ tp p0 p1 p2 c0 c1 c2, w.cell? ⟨m, 5, none⟩ = some (.pointer (some ⟨tp, 0, none⟩)) ∧ TabAt 512 w tp p0 p1 p2 c0 c1 c2 d.ls d.ns d.ss := by
  obtain ⟨⟨L, tp, mp, q0, q1, q2, d0, d1, d2, hM⟩, _⟩ := h
  exact ⟨tp, q0, q1, q2, d0, d1, d2, blk_cell hM.blk.blk 5, hM.tab⟩
/-- What a loop over the items knows. -/
structure RunI (d : Dat) (w : World) (m : Nat) {s : ByteArray} (pre : List (It s)) (W : World) : Prop where
  ext : Ext (fun _ => False) w W
  b2 : Boxed W w.heap.size 27 (.pointer (some ⟨m, 0, none⟩))
  b4 : Boxed W (w.heap.size + 1) 3 (.int .i64 (sumN (pre.map Subtype.val)))
  b5 : Boxed W (w.heap.size + 1 + 1) 3 (.int .i64 (lastN (pre.map Subtype.val)))
  b6 : Boxed W (w.heap.size + 1 + 1 + 1) 3 (.int .i64 (headK d (pre.map Subtype.val)))
  same : SameK d (pre.map Subtype.val)
theorem ext_row {w A B : World} {row : Option Nat} (h : Ext (fun _ => False) w A) (hg : A.grownBy B row) (hr : ∀ r, row = some r → w.heap.size ≤ r) : Ext (fun _ => False) w B :=
  h.trans (T := fun k => row = some k) ⟨hg.os, hg.tape, hg.output, hg.size, fun k hk hn => hg.block k hk (fun e => hn e.symm)⟩ (fun i hi e => by have := hr i e; omega)
theorem boxed_row {A B : World} {row : Option Nat} {b t : Nat} {v : Value} (h : Boxed A b t v) (hg : A.grownBy B row) (hr : ∀ r, row = some r → ∃ o : Obj, A.heap[r]? = some o ∧ o.isCells = false) : Boxed B b t v :=
  h.kept hg (fun e => by obtain ⟨o, ho, hc⟩ := hr b e.symm; rw [show A.heap[b]? = _ from h] at ho; cases ho; cases hc)
theorem RunI.own {d : Dat} {w : World} {m B : Nat} {s : ByteArray} (hB : w.heap.size ≤ B) : OwnFrom B (fun (pre : List (It s)) W => RunI d w m pre W) := fun pre A C row h hg hr =>
  ⟨ext_row h.ext hg (fun r e => Nat.le_trans hB (hr r e).1), boxed_row h.b2 hg (fun r e => (hr r e).2), boxed_row h.b4 hg (fun r e => (hr r e).2), boxed_row h.b5 hg (fun r e => (hr r e).2), boxed_row h.b6 hg (fun r e => (hr r e).2), h.same⟩
theorem RunI.on {d : Dat} {w : World} {m : Nat} {s : ByteArray} {pre : List (It s)} {A B : World} (h : RunI d w m pre A) (hx : Ext (fun _ => False) A B) : RunI d w m pre B :=
  ⟨h.ext.trans hx (fun _ _ h => h), hx.obj h.b2 (fun h => h), hx.obj h.b4 (fun h => h), hx.obj h.b5 (fun h => h), hx.obj h.b6 (fun h => h), h.same⟩
theorem boxed_far {W : World} {b b' t : Nat} {v u : Value} (h : Boxed W b t v) (hne : b ≠ b') : Boxed (W.setCell ⟨b', 0, none⟩ u) b t v := blk_far (p := ⟨b', 0, none⟩) h hne u
theorem RunI.put {d : Dat} {w : World} {m : Nat} {s : ByteArray} {pre : List (It s)} {x : It s} {A : World} {z : Int} (he : Ext (fun _ => False) w A)
    (b2 : Boxed A w.heap.size 27 (.pointer (some ⟨m, 0, none⟩))) (b4 : ∃ v, Boxed A (w.heap.size + 1) 3 v) (b5 : ∃ v, Boxed A (w.heap.size + 1 + 1) 3 v) (b6 : Boxed A (w.heap.size + 1 + 1 + 1) 3 (.int .i64 (headK d ((pre ++ [x]).map Subtype.val))))
    (hs : SameK d ((pre ++ [x]).map Subtype.val)) (hz : z = sumN (pre.map Subtype.val) + x.1.n) :
    RunI d w m (pre ++ [x]) ((A.setCell ⟨w.heap.size + 1, 0, none⟩ (.int .i64 z)).setCell ⟨w.heap.size + 1 + 1, 0, none⟩ (.int .i64 x.1.n)) := by
  obtain ⟨v4, b4⟩ := b4
  obtain ⟨v5, b5⟩ := b5
  refine ⟨(he.setCell (fun h => absurd h (show ¬ (w.heap.size + 1 < w.heap.size) by omega)) _).setCell (fun h => absurd h (show ¬ (w.heap.size + 1 + 1 < w.heap.size) by omega)) _, boxed_far (boxed_far b2 (by omega)) (by omega), ?_, ?_, boxed_far (boxed_far b6 (by omega)) (by omega), hs⟩
  · have := boxed_far (u := .int .i64 x.1.n) (b4.set (.int .i64 z)) (show w.heap.size + 1 ≠ w.heap.size + 1 + 1 by omega)
    rw [List.map_append, List.map_cons, List.map_nil, sumN_snoc]
    rw [show ((sumN (pre.map Subtype.val) + x.1.n : Nat) : Int) = z from by omega]
    exact this
  · rw [List.map_append, List.map_cons, List.map_nil, lastN_snoc]
    exact (boxed_far b5 (by omega)).set _
theorem RunI.more {d : Dat} {w : World} {m : Nat} {s : ByteArray} {pre : List (It s)} {x : It s} {A : World} {z : Int} (h : RunI d w m pre A) (hp : pre ≠ []) (hk : kindI d x.1 = headK d (pre.map Subtype.val)) (hz : z = sumN (pre.map Subtype.val) + x.1.n) :
    RunI d w m (pre ++ [x]) ((A.setCell ⟨w.heap.size + 1, 0, none⟩ (.int .i64 z)).setCell ⟨w.heap.size + 1 + 1, 0, none⟩ (.int .i64 x.1.n)) := by
  have hp' : pre.map Subtype.val ≠ [] := fun e => hp (List.map_eq_nil_iff.1 e)
  refine RunI.put h.ext h.b2 ⟨_, h.b4⟩ ⟨_, h.b5⟩ ?_ ?_ hz
  · rw [List.map_append, List.map_cons, List.map_nil, headK_snoc d _ hp']
    exact h.b6
  · rw [List.map_append, List.map_cons, List.map_nil]
    exact h.same.snoc hp' hk
theorem RunI.first {d : Dat} {w : World} {m : Nat} {s : ByteArray} {x : It s} {A : World} {z : Int} (h : RunI d w m ([] : List (It s)) A) (hz : z = x.1.n) :
    RunI d w m ([] ++ [x]) (((A.setCell ⟨w.heap.size + 1 + 1 + 1, 0, none⟩ (.int .i64 (kindI d x.1))).setCell ⟨w.heap.size + 1, 0, none⟩ (.int .i64 z)).setCell ⟨w.heap.size + 1 + 1, 0, none⟩ (.int .i64 x.1.n)) :=
  RunI.put (h.ext.setCell (fun h => absurd h (show ¬ (w.heap.size + 1 + 1 + 1 < w.heap.size) by omega)) _) (boxed_far h.b2 (by omega)) ⟨_, boxed_far h.b4 (by omega)⟩ ⟨_, boxed_far h.b5 (by omega)⟩ (h.b6.set _) (SameK.one d x.1) (by simp [sumN]; exact hz)
theorem sumN_le {s : ByteArray} (pre : List (It s)) : sumN (pre.map Subtype.val) ≤ 4 * pre.length := by
  induction pre with
  | nil => exact Nat.zero_le _
  | cons x t ih =>
    have := x.2.2.1
    simp only [sumN, List.map_cons, List.sum_cons, List.length_cons] at ih ⊢
    omega
theorem sumN_pos {s : ByteArray} {pre : List (It s)} (h : pre ≠ []) : 1 ≤ sumN (pre.map Subtype.val) := by
  cases pre with
  | nil => exact absurd rfl h
  | cons x t =>
    have := x.2.1
    simp only [sumN, List.map_cons, List.sum_cons]
    omega
theorem items_le (s : ByteArray) : (items s).length ≤ s.size := by
  have go : ∀ (f k : Nat), (itemsGo s f k).length ≤ f := by
    intro f
    induction f with
    | zero => intro k; exact Nat.le_refl _
    | succ f ih =>
      intro k
      unfold itemsGo
      split
      · have := ih (k + (itemAt s k).n); simp only [List.length_cons]; omega
      · exact Nat.zero_le _
  exact go _ _
def RunV (w : World) (k : Nat) : Prop := k = w.heap.size + 1 ∨ k = w.heap.size + 1 + 1 ∨ k = w.heap.size + 1 + 1 + 1
def RunX (d : Dat) (w : World) (m : Nat) {s : ByteArray} (c : Code) (pre : List (It s)) (W : World) : Prop :=
  c = .exit 0 ∧ ∃ (p0 : List (It s)) (x : It s), pre = p0 ++ [x] ∧ RunI d w m p0 W ∧ p0 ≠ [] ∧ kindI d x.1 ≠ headK d (p0.map Subtype.val)
/-- A part of the code, told by its last frame and what holds of its last world. -/
theorem wp_cut0 {P : Program} {c : Code} {K : Act → World → Prop} {Q' : Exit → Act → World → Prop} {a : Act} {w : World} (A : Act) (M : World → Prop)
    (h1 : c.wp P (Exit.then (fun a' w' => a' = A ∧ M w') (fun _ _ _ => False)) a w) (h2 : ∀ w', M w' → K A w') : c.wp P (Exit.then K Q') a w := by
  refine wp_mono h1 (fun e a' w' h => ?_)
  cases e with
  | normal =>
    obtain ⟨rfl, hM⟩ := h
    exact h2 _ hM
  | _ => exact (h : False).elim
set_option maxRecDepth 100000 in
set_option maxHeartbeats 4000000 in
theorem run_any {w : World} {m : Nat} {d : Dat} (hm : IsCut w m d) (hT : Tabs w) (s : ByteArray) (h0 : 0 < s.size) (hs : s.size ≤ 1048576) :
    Calls Tryz.prog 110 #[.pointer (some ⟨m, 0, none⟩), .string s] w fun e w' => e = .returned (.tuple #[.int .i64 (runT d s).1, .int .i64 (runT d s).2.1, .int .i64 (runT d s).2.2]) ∧ Ext (fun _ => False) w w' := by
  obtain ⟨N1, hN1⟩ : ∃ N1 : Int, ((runT d s).1 : Int) = N1 := ⟨_, rfl⟩
  obtain ⟨N2, hN2⟩ : ∃ N2 : Int, ((runT d s).2.1 : Int) = N2 := ⟨_, rfl⟩
  obtain ⟨N3, hN3⟩ : ∃ N3 : Int, (runT d s).2.2 = N3 := ⟨_, rfl⟩
  have HN := Lib.hid (And.intro hN1 (And.intro hN2 hN3))
  rw [hN1, hN2, hN3]
  clear hN1 hN2 hN3
  refine (callsIn_wide (n := 3)).1 ?_
  refine callsIn_of_wp_marks Tryz.func110 rfl trivial ?_ rfl
  simp only [Tryz.ntmps110, List.size_toArray, List.length_cons, List.length_nil, Nat.reduceAdd, Nat.reduceSub, Array.replicate_succ, Array.replicate_zero, List.push_toArray, List.append_toArray, List.nil_append, List.cons_append]
  gi_wp2
  refine wpIn_wide.2 ?_
  refine wp_scope_straight ?_
  refine (wpIn_wide (n := 3)).1 ?_
  gi_wp2
  refine wpIn_label ?_
  gi_wp2
  refine ⟨trivial, (items_in 2 s _).mono ?_⟩
  rintro e w' ⟨rfl, rfl⟩
  have hbd : ∀ (v1 v2 v3 v4 v5 : Value) (t1 t2 t3 t4 t5 : Nat), let W0 := ((((w.alloc (.cells #[v1] t1)).alloc (.cells #[v2] t2)).alloc (.cells #[v3] t3)).alloc (.cells #[v4] t4)).alloc (.cells #[v5] t5);
      Ext (fun _ => False) w W0 ∧ W0.heap.size = w.heap.size + 1 + 1 + 1 + 1 + 1 ∧ Boxed W0 w.heap.size t1 v1 ∧ Boxed W0 (w.heap.size + 1) t2 v2 ∧ Boxed W0 (w.heap.size + 1 + 1) t3 v3 ∧ Boxed W0 (w.heap.size + 1 + 1 + 1) t4 v4 ∧ Boxed W0 (w.heap.size + 1 + 1 + 1 + 1) t5 v5 := by
    intro v1 v2 v3 v4 v5 t1 t2 t3 t4 t5
    have n2 := Boxed.new (w.alloc (.cells #[v1] t1)) t2 v2
    have n3 := Boxed.new ((w.alloc (.cells #[v1] t1)).alloc (.cells #[v2] t2)) t3 v3
    have n4 := Boxed.new (((w.alloc (.cells #[v1] t1)).alloc (.cells #[v2] t2)).alloc (.cells #[v3] t3)) t4 v4
    have n5 := Boxed.new ((((w.alloc (.cells #[v1] t1)).alloc (.cells #[v2] t2)).alloc (.cells #[v3] t3)).alloc (.cells #[v4] t4)) t5 v5
    simp only [World.size_alloc] at n2 n3 n4 n5
    exact ⟨((((((Ext.refl _ w).alloc _).alloc _).alloc _).alloc _).alloc _), by simp, ((((Boxed.new w t1 v1).alloc _).alloc _).alloc _).alloc _, ((n2.alloc _).alloc _).alloc _, (n3.alloc _).alloc _, n4.alloc _, n5⟩
  obtain ⟨X0, SZ, B2, B4, B5, B6, BS⟩ := hbd (.pointer (some ⟨m, 0, none⟩)) (.int .i64 0) (.int .i64 0) (.int .i64 0) (.string s) 27 3 3 3 9
  clear hbd
  gi_wp2
  obtain ⟨W0, hW0⟩ : ∃ W0, ((((w.alloc (.cells #[.pointer (some ⟨m, 0, none⟩)] 27)).alloc (.cells #[.int .i64 0] 3)).alloc (.cells #[.int .i64 0] 3)).alloc (.cells #[.int .i64 0] 3)).alloc (.cells #[.string s] 9) = W0 := ⟨_, rfl⟩
  rw [hW0] at X0 SZ B2 B4 B5 B6 BS ⊢
  clear hW0
  have T0 := hT.on X0
  have TL := fun k (hk : TabBlk k) => hT.lt hk
  have I0 : RunI d w m (s := s) [] W0 := ⟨X0, B2, B4, B5, B6, fun x hx => by cases hx⟩
  refine wpIn_rangeFunc_ownH rfl (by decide) (gf := 150) (lb := #[.pointer (some ⟨w.heap.size + 1 + 1 + 1 + 1, 0, none⟩)]) rfl trivial (enters_of Tryz.func150 (by kernel_rfl) rfl)
    (items_stops 2 (by decide) (w.heap.size + 1 + 1 + 1 + 1) (RunV w) s (by omega) W0 (fun k hk => by unfold RunV at hk; omega) ⟨BS.cell, fun h => by unfold RunV at h; omega, T0, fun k hk h => by have := TL k hk; unfold RunV at h; omega⟩)
    KeepC.trans (fun W l o o' _ h hc _ => keepC_b W l o o' h hc) (Below.refl _ _) (fun _ => rfl)
    (fun pre W => RunI d w m pre W) (fun c pre W => RunX d w m c pre W) (RunI.own (by omega)) (fun c => ?ownx) I0
    (fun x a' W => ∃ Bx, w.heap.size + 1 + 1 + 1 < Bx ∧ W.heap[Bx]? = some (.cells #[.int .i64 x.1.at_, .int .i64 x.1.n, .int .i32 x.1.r, .bool x.1.bad] 219 (0, 0)) ∧ a' = { tmps := #[.pointer (some ⟨m, 0, none⟩), .string s, .pointer (some ⟨w.heap.size, 0, none⟩), undef, .pointer (some ⟨w.heap.size + 1, 0, none⟩), .pointer (some ⟨w.heap.size + 1 + 1, 0, none⟩), .pointer (some ⟨w.heap.size + 1 + 1 + 1, 0, none⟩), .pointer (some ⟨Bx, 0, none⟩), undef, .string s, .func (.func 150) #[] #[.pointer (some ⟨w.heap.size + 1 + 1 + 1 + 1, 0, none⟩)], .agg #[.int .i64 x.1.at_, .int .i64 x.1.n, .int .i32 x.1.r, .bool x.1.bad], undef, undef, undef, undef, undef, undef, undef, undef, undef, undef, undef, undef, undef, undef, undef, undef, undef, undef, undef, undef, undef], defers := [] })
    ?hax ?assign ?body ?done ?stop
  case ownx =>
    rintro pre A C row ⟨hc, p0, x, hp, hI, h1, h2⟩ hg hr
    exact ⟨hc, p0, x, hp, RunI.own (B := W0.heap.size) (by omega) p0 A C row hI hg hr, h1, h2⟩
  case hax =>
    rintro x a' _ A C row ⟨Bx, h1, h2, h3⟩ hg hr
    exact ⟨Bx, h1, (hg.block Bx (blk_lt h2) (fun e => by obtain ⟨o, ho, hc⟩ := (hr Bx e.symm).2; rw [h2] at ho; cases ho; cases hc)).trans h2, h3⟩
  case assign =>
    rintro l pre x W K hI hK
    simp only [itV]
    gi_wp2
    have hz := hI.ext.size
    exact hK _ _ ((KeepsOthers.alloc _ _).from _) (KeepC.ext ((Ext.refl (fun _ => False) W).alloc _) (fun _ h _ => h.elim)) (hI.on ((Ext.refl _ W).alloc _)) ⟨W.heap.size, by have := hI.b6.lt; omega, heap_alloc_new W _, rfl⟩
  case body =>
    rintro l pre x a' W hl ⟨r, hr⟩ hI ⟨Bx, hBx, bX, rfl⟩ hlt
    have PA := hm.on hI.ext
    obtain ⟨tp, p0, p1, p2, c0, c1, c2, m5, tb⟩ := PA.parts
    have TA := Lib.hid (show Calls Tryz.prog 126 #[.pointer (some ⟨m, 0, none⟩)] W.drew fun e w' => e = .returned (.pointer (some ⟨tp, 0, none⟩)) ∧ Ext (fun _ => False) W w' from
      (table_any (w := W.drew) m5).mono fun e w' ⟨h1, h2⟩ => ⟨h1, h2 ▸ (Ext.refl _ W).drew⟩)
    have KA := Lib.hid (show ∀ w', Ext (fun _ => False) W w' → Calls Tryz.prog 127 #[.pointer (some ⟨tp, 0, none⟩), .agg #[.int .i64 x.1.at_, .int .i64 x.1.n, .int .i32 x.1.r, .bool x.1.bad]] w' fun e w'' => e = .returned (.int .i64 (kindI d x.1)) ∧ Ext (fun _ => False) W w'' from fun w' hx =>
      (kind_any (tb.on hx) hm.o0 hm.o1 hm.o2 x.1).mono fun e w'' ⟨h1, h2⟩ => ⟨h1, hx.trans h2 (fun _ _ h => h)⟩)
    have CE := Lib.hid (show ∀ w', Ext (fun _ => False) W w' → (w'.cell? ⟨w.heap.size, 0, none⟩ = some (.pointer (some ⟨m, 0, none⟩)) ∧ w'.cell? ⟨Bx, 0, none⟩ = some (.int .i64 x.1.at_) ∧ w'.cell? ⟨Bx, 1, none⟩ = some (.int .i64 x.1.n) ∧ w'.cell? ⟨Bx, 2, none⟩ = some (.int .i32 x.1.r) ∧ w'.cell? ⟨Bx, 3, none⟩ = some (.bool x.1.bad)) from fun w' hx =>
      have b := hx.obj bX (fun h => h)
      ⟨Boxed.cell (hx.obj hI.b2 (fun h => h)), blk_cell b 0, blk_cell b 1, blk_cell b 2, blk_cell b 3⟩)
    have HI := Lib.hid hI
    have BX := Lib.hid bX
    have HM := Lib.hid hm
    clear PA m5 tb hI bX BS B6 B5 B4 B2 hT T0 I0 hm hr
    gi_wp2
    refine startW_ (m := 5) (S := fun w' => w'.cell? ⟨w.heap.size, 0, none⟩ = some (.pointer (some ⟨m, 0, none⟩)) ∧ w'.cell? ⟨Bx, 0, none⟩ = some (.int .i64 x.1.at_) ∧ w'.cell? ⟨Bx, 1, none⟩ = some (.int .i64 x.1.n) ∧ w'.cell? ⟨Bx, 2, none⟩ = some (.int .i32 x.1.r) ∧ w'.cell? ⟨Bx, 3, none⟩ = some (.bool x.1.bad)) (ds := []) (ls 5 0) (by kernel_rfl) rfl (fun ⟨_, _, h⟩ => h) rfl rfl (CE.out _ ((Ext.refl _ W).drew)) (fun hHeld => ?_)
    refine take_ (i := 0) (N := some 12) (v := ?_) (a' := ?_) (ls 5 1) rfl rfl (by kernel_rfl) (fun _ _ _ h => h) (Or.inl ⟨by rfl, ?_⟩) hHeld ?_ ?_
    rotate_left
    · rintro w' ⟨s0, s1, s2, s3, s4⟩; go_simp; with_reducible rfl
    rotate_left
    · simp only [Act.put, List.setIfInBounds_toArray, List.set_cons_zero, List.set_cons_succ, i64_w, i32_w]; rfl
    refine take_ (i := 2) (N := some 14) (v := ?_) (a' := ?_) (ls 5 5) rfl rfl (by kernel_rfl) (fun _ _ _ h => h) (Or.inl ⟨by rfl, ?_⟩) hHeld ?_ ?_
    rotate_left
    · rintro w' ⟨s0, s1, s2, s3, s4⟩; go_simp; with_reducible rfl
    rotate_left
    · simp only [Act.put, List.setIfInBounds_toArray, List.set_cons_zero, List.set_cons_succ, i64_w, i32_w]; rfl
    refine one_ (i := 1) (N := some 13) (ls 5 7) rfl rfl (by kernel_rfl) (by decide) (fun K hK => ?_)
    refine goes_ Tryz.func126 (by kernel_rfl) rfl #[.pointer (some ⟨m, 0, none⟩)] (by rfl) rfl rfl (by (try simp only [List.map_toArray, List.map_cons, List.map_nil]); first | done | rfl) ?_
    refine TA.out.mono ?_
    rintro e W1 ⟨rfl, x1⟩
    refine ⟨_, rfl, ?_⟩
    refine hK.out _ _ (CE.out _ x1) (fun hHeld => ?_)
    clear hK K
    refine norm_ (a' := ?_) ?_ ?_
    rotate_left
    · simp only [Act.put, List.setIfInBounds_toArray, List.set_cons_zero, List.set_cons_succ, i64_w, i32_w]; rfl
    refine one_ (i := 3) (N := some 15) (ls 5 15) rfl rfl (by kernel_rfl) (by decide) (fun K hK => ?_)
    refine goes_ Tryz.func127 (by kernel_rfl) rfl #[.pointer (some ⟨tp, 0, none⟩), .agg #[.int .i64 x.1.at_, .int .i64 x.1.n, .int .i32 x.1.r, .bool x.1.bad]] (by rfl) rfl rfl (by (try simp only [List.map_toArray, List.map_cons, List.map_nil]); first | done | rfl) ?_
    refine (KA.out _ x1).mono ?_
    rintro e W3 ⟨rfl, x3⟩
    refine ⟨_, rfl, ?_⟩
    refine hK.out _ _ (CE.out _ x3) (fun hHeld => ?_)
    clear hK K
    refine norm_ (a' := ?_) ?_ ?_
    rotate_left
    · simp only [Act.put, List.setIfInBounds_toArray, List.set_cons_zero, List.set_cons_succ, i64_w, i32_w]; rfl
    refine pure_ (i := 4) (N := some 8) (v := ?_) (a' := ?_) (ls 5 31) rfl rfl (by kernel_rfl) (fun _ _ _ h => h) (Or.inl ⟨by rfl, ?_⟩) ?_ ?_
    rotate_left
    · intro w'; go_simp; with_reducible rfl
    rotate_left
    · simp only [Act.put, List.setIfInBounds_toArray, List.set_cons_zero, List.set_cons_succ, i64_w, i32_w]; rfl
    refine done_ (by kernel_rfl) ?_
    have R3 := HI.out.on x3
    have R := Lib.hid R3
    have b3 := x3.obj BX.out (fun h => h)
    have z1 := blk_cell b3 1
    have q4 := R3.b4.cell
    have q5 := R3.b5.cell
    have q6 := R3.b6.cell
    have g4 := R3.b4.frozen
    have g5 := R3.b5.frozen
    have g6 := R3.b6.frozen
    have l4 := R3.b4.lt
    have l5 := R3.b5.lt
    have l6 := R3.b6.lt
    simp at z1
    have KO := Lib.hid (show KeepsOthers W W3 from ⟨x3.size, fun k o hk _ => x3.obj hk (fun h => h)⟩)
    have KC := Lib.hid (show KeepC (RunV w) W W3 from KeepC.ext x3 (fun _ h _ => h.elim))
    have n1 := x.2.1
    have n2 := x.2.2.1
    have sl := sumN_le pre
    have il := items_le s
    have i4 : (sumN (pre.map Subtype.val) : Int) ≤ 4194304 := by omega
    have i5 : (0 : Int) ≤ (x.1.n : Int) := by omega
    have i6 : (x.1.n : Int) ≤ 4 := by omega
    clear R3 b3 hHeld x3 x1 il
    by_cases hp : pre = []
    · subst hp
      have F := Lib.hid (fun z (hz : z = (x.1.n : Int)) => R.out.first (x := x) (z := z) hz)
      have e4 : sumN (([] : List (It s)).map Subtype.val) = 0 := rfl
      rw [e4, Int.natCast_zero] at q4
      have KV := Lib.hid (show ∀ a b c, KeepC (RunV w) W (((W3.setCell ⟨w.heap.size + 1 + 1 + 1, 0, none⟩ a).setCell ⟨w.heap.size + 1, 0, none⟩ b).setCell ⟨w.heap.size + 1 + 1, 0, none⟩ c) from fun a b c => KC.out.trans (KeepC.ext ((((Ext.refl (RunV w) W3).setCell (fun _ => .inr (.inr rfl)) a).setCell (fun _ => .inl rfl) b).setCell (fun _ => .inr (.inl rfl)) c) (fun _ h _ => h)))
      obtain ⟨k3, hk3⟩ : ∃ k3, kindI d x.1 = k3 := ⟨_, rfl⟩
      obtain ⟨nx, hnx⟩ : ∃ nx, x.1.n = nx := ⟨_, rfl⟩
      rw [hk3] at F ⊢
      rw [hnx] at F z1 i5 i6
      clear R i4 sl n1 n2
      gi_wp2
      exact ⟨(((KO.out.trans (KeepsOthers.setCell _ _ _)).trans (KeepsOthers.setCell _ _ _)).trans (KeepsOthers.setCell _ _ _)).from _, KV.out _ _ _, F.out _ (by omega)⟩
    · have hs1 := sumN_pos hp
      have d1 : ((sumN (pre.map Subtype.val) : Int) == 0) = false := beq_eq_false_iff_ne.2 (by omega)
      have KV := Lib.hid (show ∀ b c, KeepC (RunV w) W ((W3.setCell ⟨w.heap.size + 1, 0, none⟩ b).setCell ⟨w.heap.size + 1 + 1, 0, none⟩ c) from fun b c => KC.out.trans (KeepC.ext (((Ext.refl (RunV w) W3).setCell (fun _ => .inl rfl) b).setCell (fun _ => .inr (.inl rfl)) c) (fun _ h _ => h)))
      by_cases hk : kindI d x.1 = headK d (pre.map Subtype.val)
      · have F := Lib.hid (fun z (hz : z = (sumN (pre.map Subtype.val) : Int) + x.1.n) => R.out.more (x := x) (z := z) hp hk hz)
        have d2 : (kindI d x.1 != headK d (pre.map Subtype.val)) = false := by rw [bne_eq_false_iff_eq]; exact hk
        obtain ⟨k3, hk3⟩ : ∃ k3, kindI d x.1 = k3 := ⟨_, rfl⟩
        obtain ⟨k4, hk4⟩ : ∃ k4, headK d (pre.map Subtype.val) = k4 := ⟨_, rfl⟩
        obtain ⟨sn, hsn⟩ : ∃ sn, sumN (pre.map Subtype.val) = sn := ⟨_, rfl⟩
        obtain ⟨nx, hnx⟩ : ∃ nx, x.1.n = nx := ⟨_, rfl⟩
        rw [hk3] at d2 ⊢
        rw [hk4] at d2 q6
        rw [hsn] at F q4 d1 i4
        rw [hnx] at F z1 i5 i6
        clear R sl n1 n2 hk hk3 hk4 hsn hnx hs1
        gi_wp2
        exact ⟨((KO.out.trans (KeepsOthers.setCell _ _ _)).trans (KeepsOthers.setCell _ _ _)).from _, KV.out _ _, F.out _ (by omega)⟩
      · have NX := Lib.hid (show RunX d w m (.exit 0) (pre ++ [x]) W3 from ⟨rfl, pre, x, rfl, R.out, hp, hk⟩)
        have d2 : (kindI d x.1 != headK d (pre.map Subtype.val)) = true := by rw [bne_iff_ne]; exact hk
        obtain ⟨k3, hk3⟩ : ∃ k3, kindI d x.1 = k3 := ⟨_, rfl⟩
        obtain ⟨k4, hk4⟩ : ∃ k4, headK d (pre.map Subtype.val) = k4 := ⟨_, rfl⟩
        obtain ⟨sn, hsn⟩ : ∃ sn, sumN (pre.map Subtype.val) = sn := ⟨_, rfl⟩
        rw [hk3] at d2 ⊢
        rw [hk4] at d2 q6
        rw [hsn] at q4 d1 i4
        clear R sl n1 n2 hk hk3 hk4 hs1 hsn
        gi_wp2
        exact ⟨KO.out.from _, NX.out⟩
  case done =>
    rintro D ys W hBD hys hI hK
    obtain ⟨it, hit⟩ := items_cons h0
    have hne : ys ≠ [] := fun e => by subst e; rw [hit] at hys; cases hys
    have hR := runT_is (d := d) (s := s) (l := ys.map Subtype.val) (u := []) (by rw [List.append_nil, hys]) (fun e => hne (List.map_eq_nil_iff.1 e)) hI.same (fun x h => by cases h)
    have B4 := Lib.hid (show Boxed W (w.heap.size + 1) 3 (.int .i64 N1) from by rw [← HN.out.1, hR]; exact hI.b4)
    have B5 := Lib.hid (show Boxed W (w.heap.size + 1 + 1) 3 (.int .i64 N2) from by rw [← HN.out.2.1, hR]; exact hI.b5)
    have B6 := Lib.hid (show Boxed W (w.heap.size + 1 + 1 + 1) 3 (.int .i64 N3) from by rw [← HN.out.2.2, hR]; exact hI.b6)
    have XE := Lib.hid hI.ext
    clear hR hit hys hne hI
    have EXC := Lib.hid (show KeepsOthers W W ∧ Ext (fun _ => False) w W from ⟨KeepsOthers.refl _, XE.out⟩)
    have q4 := B4.out.cell
    have q5 := B5.out.cell
    have q6 := B6.out.cell
    have g4 := B4.out.frozen
    have g5 := B5.out.frozen
    have g6 := B6.out.frozen
    have l4 := B4.out.lt
    have l5 := B5.out.lt
    have l6 := B6.out.lt
    have HK := Lib.hid hK
    have NL := Lib.hid (show D ≠ w.heap.size + 1 ∧ D ≠ w.heap.size + 1 + 1 ∧ D ≠ w.heap.size + 1 + 1 + 1 from by omega)
    clear hK
    gi_wp2
    refine wpIn_wide.2 ?_
    refine wp_cut0 ({ tmps := #[.pointer (some ⟨m, 0, none⟩), .string s, .pointer (some ⟨w.heap.size, 0, none⟩), undef, .pointer (some ⟨w.heap.size + 1, 0, none⟩), .pointer (some ⟨w.heap.size + 1 + 1, 0, none⟩), .pointer (some ⟨w.heap.size + 1 + 1 + 1, 0, none⟩), undef, undef, .string s, .func (.func 150) #[] #[.pointer (some ⟨w.heap.size + 1 + 1 + 1 + 1, 0, none⟩)], undef, undef, undef, undef, undef, undef, undef, undef, undef, undef, undef, undef, undef, undef, undef, undef, undef, undef, undef, .int .i64 N1, .int .i64 N2, .int .i64 N3], defers := [{ target := .collected D, args := #[] }] }) (fun w' => Boxed w' (w.heap.size + 1) 3 (.int .i64 N1) ∧ Boxed w' (w.heap.size + 1 + 1) 3 (.int .i64 N2) ∧ Boxed w' (w.heap.size + 1 + 1 + 1) 3 (.int .i64 N3) ∧ Ext (fun _ => False) w w' ∧ w'.heap[D]? = some (.deferred (some []))) ?_ ?_
    · have K1 := Lib.hid (B4.out.set (.int .i64 N1))
      have K2 := Lib.hid (boxed_far (b' := w.heap.size + 1) (u := .int .i64 N1) B5.out (by omega))
      have K3 := Lib.hid (boxed_far (b' := w.heap.size + 1) (u := .int .i64 N1) B6.out (by omega))
      have L1 := Lib.hid (boxed_far (b' := w.heap.size + 1 + 1) (u := .int .i64 N2) K1.out (by omega))
      have L2 := Lib.hid (K2.out.set (.int .i64 N2))
      have L3 := Lib.hid (boxed_far (b' := w.heap.size + 1 + 1) (u := .int .i64 N2) K3.out (by omega))
      have M1 := Lib.hid (boxed_far (b' := w.heap.size + 1 + 1 + 1) (u := .int .i64 N3) L1.out (by omega))
      have M2 := Lib.hid (boxed_far (b' := w.heap.size + 1 + 1 + 1) (u := .int .i64 N3) L2.out (by omega))
      have M3 := Lib.hid (L3.out.set (.int .i64 N3))
      refine start_ (n := 6) (S := fun w' => w'.cell? ⟨w.heap.size + 1, 0, none⟩ = some (.int .i64 N1) ∧ w'.cell? ⟨w.heap.size + 1 + 1, 0, none⟩ = some (.int .i64 N2) ∧ w'.cell? ⟨w.heap.size + 1 + 1 + 1, 0, none⟩ = some (.int .i64 N3)) (ds := []) (ls 6 0) (by kernel_rfl) rfl rfl ⟨q4, q5, q6⟩ (fun hHeld => ?_)
      refine take_ (i := 0) (N := some 30) (v := ?_) (a' := ?_) (ls 6 1) rfl rfl (by kernel_rfl) (fun _ _ _ h => h) (Or.inl ⟨by rfl, ?_⟩) hHeld ?_ ?_
      rotate_left
      · rintro w' ⟨s0, s1, s2⟩; go_simp; with_reducible rfl
      rotate_left
      · simp only [Act.put, List.setIfInBounds_toArray, List.set_cons_zero, List.set_cons_succ, i64_w, i32_w]; rfl
      refine take_ (i := 1) (N := some 31) (v := ?_) (a' := ?_) (ls 6 3) rfl rfl (by kernel_rfl) (fun _ _ _ h => h) (Or.inl ⟨by rfl, ?_⟩) hHeld ?_ ?_
      rotate_left
      · rintro w' ⟨s0, s1, s2⟩; go_simp; with_reducible rfl
      rotate_left
      · simp only [Act.put, List.setIfInBounds_toArray, List.set_cons_zero, List.set_cons_succ, i64_w, i32_w]; rfl
      refine take_ (i := 2) (N := some 32) (v := ?_) (a' := ?_) (ls 6 7) rfl rfl (by kernel_rfl) (fun _ _ _ h => h) (Or.inl ⟨by rfl, ?_⟩) hHeld ?_ ?_
      rotate_left
      · rintro w' ⟨s0, s1, s2⟩; go_simp; with_reducible rfl
      rotate_left
      · simp only [Act.put, List.setIfInBounds_toArray, List.set_cons_zero, List.set_cons_succ, i64_w, i32_w]; rfl
      refine one_ (i := 3) (N := none) (ls 6 15) rfl rfl (by kernel_rfl) (by decide) (fun K hK => ?_)
      refine skip_ (w1 := ?_) (by rfl) rfl ?_ ?_
      rotate_left 1
      · go_simp; rfl
      refine hK.out _ _ ⟨K1.out.cell, K2.out.cell, K3.out.cell⟩ (fun hHeld => ?_)
      clear hK K
      refine one_ (i := 4) (N := none) (ls 6 31) rfl rfl (by kernel_rfl) (by decide) (fun K hK => ?_)
      refine skip_ (w1 := ?_) (by rfl) rfl ?_ ?_
      rotate_left 1
      · go_simp; rfl
      refine hK.out _ _ ⟨L1.out.cell, L2.out.cell, L3.out.cell⟩ (fun hHeld => ?_)
      clear hK K
      refine one_ (i := 5) (N := none) (ls 6 63) rfl rfl (by kernel_rfl) (by decide) (fun K hK => ?_)
      refine skip_ (w1 := ?_) (by rfl) rfl ?_ ?_
      rotate_left 1
      · go_simp; rfl
      refine hK.out _ _ ⟨M1.out.cell, M2.out.cell, M3.out.cell⟩ (fun hHeld => ?_)
      clear hK K
      refine done_ (by kernel_rfl) ?_
      exact ⟨rfl, M1.out, M2.out, M3.out, (((XE.out.drew.setCell (fun h => absurd h (show ¬ (w.heap.size + 1 < w.heap.size) by omega)) _).setCell (fun h => absurd h (show ¬ (w.heap.size + 1 + 1 < w.heap.size) by omega)) _).setCell (fun h => absurd h (show ¬ (w.heap.size + 1 + 1 + 1 < w.heap.size) by omega)) _), by
        have hkk := HK.out
        exact blk_far (p := ⟨w.heap.size + 1 + 1 + 1, 0, none⟩) (blk_far (p := ⟨w.heap.size + 1 + 1, 0, none⟩) (blk_far (p := ⟨w.heap.size + 1, 0, none⟩) hkk NL.out.1 _) NL.out.2.1 _) NL.out.2.2 _⟩
    · rintro w' ⟨c4, c5, c6, cx, ck⟩
      have q4 := c4.cell
      have q5 := c5.cell
      have q6 := c6.cell
      gi_wp2
      show LeavesInM Fence.wide 3 _ _ _ _ [{ target := .collected D, args := #[] }] .returning w'
      refine Bpe.leaves_mark1 ck (fun w2 hw => ?_)
      have r4 := (hw.cell (p := ⟨w.heap.size + 1, 0, none⟩) c4.lt (fun h => NL.out.1 h.symm)).trans q4
      have r5 := (hw.cell (p := ⟨w.heap.size + 1 + 1, 0, none⟩) c5.lt (fun h => NL.out.2.1 h.symm)).trans q5
      have r6 := (hw.cell (p := ⟨w.heap.size + 1 + 1 + 1, 0, none⟩) c6.lt (fun h => NL.out.2.2 h.symm)).trans q6
      exact ⟨.tuple #[.int .i64 N1, .int .i64 N2, .int .i64 N3], by simp [results, Tryz.f110, go_sem, r4, r5, r6], rfl, cx.trans hw (fun i hi h => by omega)⟩
  case stop =>
    rintro D c pre W hBD hpre ⟨rfl, p0, x, rfl, hI, hne, hkx⟩ hK
    obtain ⟨u, hu⟩ := hpre
    rw [List.map_append, List.append_assoc] at hu
    have hR := runT_is (d := d) (s := s) (l := p0.map Subtype.val) (u := [x].map Subtype.val ++ u) hu.symm (fun e => hne (List.map_eq_nil_iff.1 e)) hI.same (fun y h => by
      simp only [List.map_cons, List.map_nil, List.cons_append, List.nil_append, List.head?_cons, Option.some.injEq] at h
      subst h
      exact hkx)
    have B4 := Lib.hid (show Boxed W (w.heap.size + 1) 3 (.int .i64 N1) from by rw [← HN.out.1, hR]; exact hI.b4)
    have B5 := Lib.hid (show Boxed W (w.heap.size + 1 + 1) 3 (.int .i64 N2) from by rw [← HN.out.2.1, hR]; exact hI.b5)
    have B6 := Lib.hid (show Boxed W (w.heap.size + 1 + 1 + 1) 3 (.int .i64 N3) from by rw [← HN.out.2.2, hR]; exact hI.b6)
    have XE := Lib.hid hI.ext
    clear hR hu hne hkx hI
    have EXC := Lib.hid (show KeepsOthers W W ∧ Ext (fun _ => False) w W from ⟨KeepsOthers.refl _, XE.out⟩)
    have q4 := B4.out.cell
    have q5 := B5.out.cell
    have q6 := B6.out.cell
    have g4 := B4.out.frozen
    have g5 := B5.out.frozen
    have g6 := B6.out.frozen
    have l4 := B4.out.lt
    have l5 := B5.out.lt
    have l6 := B6.out.lt
    have HK := Lib.hid hK
    have NL := Lib.hid (show D ≠ w.heap.size + 1 ∧ D ≠ w.heap.size + 1 + 1 ∧ D ≠ w.heap.size + 1 + 1 + 1 from by omega)
    clear hK
    gi_wp2
    refine wpIn_wide.2 ?_
    refine wp_cut0 ({ tmps := #[.pointer (some ⟨m, 0, none⟩), .string s, .pointer (some ⟨w.heap.size, 0, none⟩), undef, .pointer (some ⟨w.heap.size + 1, 0, none⟩), .pointer (some ⟨w.heap.size + 1 + 1, 0, none⟩), .pointer (some ⟨w.heap.size + 1 + 1 + 1, 0, none⟩), undef, undef, .string s, .func (.func 150) #[] #[.pointer (some ⟨w.heap.size + 1 + 1 + 1 + 1, 0, none⟩)], undef, undef, undef, undef, undef, undef, undef, undef, undef, undef, undef, undef, undef, undef, undef, undef, undef, undef, undef, .int .i64 N1, .int .i64 N2, .int .i64 N3], defers := [{ target := .collected D, args := #[] }] }) (fun w' => Boxed w' (w.heap.size + 1) 3 (.int .i64 N1) ∧ Boxed w' (w.heap.size + 1 + 1) 3 (.int .i64 N2) ∧ Boxed w' (w.heap.size + 1 + 1 + 1) 3 (.int .i64 N3) ∧ Ext (fun _ => False) w w' ∧ w'.heap[D]? = some (.deferred (some []))) ?_ ?_
    · have K1 := Lib.hid (B4.out.set (.int .i64 N1))
      have K2 := Lib.hid (boxed_far (b' := w.heap.size + 1) (u := .int .i64 N1) B5.out (by omega))
      have K3 := Lib.hid (boxed_far (b' := w.heap.size + 1) (u := .int .i64 N1) B6.out (by omega))
      have L1 := Lib.hid (boxed_far (b' := w.heap.size + 1 + 1) (u := .int .i64 N2) K1.out (by omega))
      have L2 := Lib.hid (K2.out.set (.int .i64 N2))
      have L3 := Lib.hid (boxed_far (b' := w.heap.size + 1 + 1) (u := .int .i64 N2) K3.out (by omega))
      have M1 := Lib.hid (boxed_far (b' := w.heap.size + 1 + 1 + 1) (u := .int .i64 N3) L1.out (by omega))
      have M2 := Lib.hid (boxed_far (b' := w.heap.size + 1 + 1 + 1) (u := .int .i64 N3) L2.out (by omega))
      have M3 := Lib.hid (L3.out.set (.int .i64 N3))
      refine start_ (n := 6) (S := fun w' => w'.cell? ⟨w.heap.size + 1, 0, none⟩ = some (.int .i64 N1) ∧ w'.cell? ⟨w.heap.size + 1 + 1, 0, none⟩ = some (.int .i64 N2) ∧ w'.cell? ⟨w.heap.size + 1 + 1 + 1, 0, none⟩ = some (.int .i64 N3)) (ds := []) (ls 6 0) (by kernel_rfl) rfl rfl ⟨q4, q5, q6⟩ (fun hHeld => ?_)
      refine take_ (i := 0) (N := some 30) (v := ?_) (a' := ?_) (ls 6 1) rfl rfl (by kernel_rfl) (fun _ _ _ h => h) (Or.inl ⟨by rfl, ?_⟩) hHeld ?_ ?_
      rotate_left
      · rintro w' ⟨s0, s1, s2⟩; go_simp; with_reducible rfl
      rotate_left
      · simp only [Act.put, List.setIfInBounds_toArray, List.set_cons_zero, List.set_cons_succ, i64_w, i32_w]; rfl
      refine take_ (i := 1) (N := some 31) (v := ?_) (a' := ?_) (ls 6 3) rfl rfl (by kernel_rfl) (fun _ _ _ h => h) (Or.inl ⟨by rfl, ?_⟩) hHeld ?_ ?_
      rotate_left
      · rintro w' ⟨s0, s1, s2⟩; go_simp; with_reducible rfl
      rotate_left
      · simp only [Act.put, List.setIfInBounds_toArray, List.set_cons_zero, List.set_cons_succ, i64_w, i32_w]; rfl
      refine take_ (i := 2) (N := some 32) (v := ?_) (a' := ?_) (ls 6 7) rfl rfl (by kernel_rfl) (fun _ _ _ h => h) (Or.inl ⟨by rfl, ?_⟩) hHeld ?_ ?_
      rotate_left
      · rintro w' ⟨s0, s1, s2⟩; go_simp; with_reducible rfl
      rotate_left
      · simp only [Act.put, List.setIfInBounds_toArray, List.set_cons_zero, List.set_cons_succ, i64_w, i32_w]; rfl
      refine one_ (i := 3) (N := none) (ls 6 15) rfl rfl (by kernel_rfl) (by decide) (fun K hK => ?_)
      refine skip_ (w1 := ?_) (by rfl) rfl ?_ ?_
      rotate_left 1
      · go_simp; rfl
      refine hK.out _ _ ⟨K1.out.cell, K2.out.cell, K3.out.cell⟩ (fun hHeld => ?_)
      clear hK K
      refine one_ (i := 4) (N := none) (ls 6 31) rfl rfl (by kernel_rfl) (by decide) (fun K hK => ?_)
      refine skip_ (w1 := ?_) (by rfl) rfl ?_ ?_
      rotate_left 1
      · go_simp; rfl
      refine hK.out _ _ ⟨L1.out.cell, L2.out.cell, L3.out.cell⟩ (fun hHeld => ?_)
      clear hK K
      refine one_ (i := 5) (N := none) (ls 6 63) rfl rfl (by kernel_rfl) (by decide) (fun K hK => ?_)
      refine skip_ (w1 := ?_) (by rfl) rfl ?_ ?_
      rotate_left 1
      · go_simp; rfl
      refine hK.out _ _ ⟨M1.out.cell, M2.out.cell, M3.out.cell⟩ (fun hHeld => ?_)
      clear hK K
      refine done_ (by kernel_rfl) ?_
      exact ⟨rfl, M1.out, M2.out, M3.out, (((XE.out.drew.setCell (fun h => absurd h (show ¬ (w.heap.size + 1 < w.heap.size) by omega)) _).setCell (fun h => absurd h (show ¬ (w.heap.size + 1 + 1 < w.heap.size) by omega)) _).setCell (fun h => absurd h (show ¬ (w.heap.size + 1 + 1 + 1 < w.heap.size) by omega)) _), by
        have hkk := HK.out
        exact blk_far (p := ⟨w.heap.size + 1 + 1 + 1, 0, none⟩) (blk_far (p := ⟨w.heap.size + 1 + 1, 0, none⟩) (blk_far (p := ⟨w.heap.size + 1, 0, none⟩) hkk NL.out.1 _) NL.out.2.1 _) NL.out.2.2 _⟩
    · rintro w' ⟨c4, c5, c6, cx, ck⟩
      have q4 := c4.cell
      have q5 := c5.cell
      have q6 := c6.cell
      gi_wp2
      show LeavesInM Fence.wide 3 _ _ _ _ [{ target := .collected D, args := #[] }] .returning w'
      refine Bpe.leaves_mark1 ck (fun w2 hw => ?_)
      have r4 := (hw.cell (p := ⟨w.heap.size + 1, 0, none⟩) c4.lt (fun h => NL.out.1 h.symm)).trans q4
      have r5 := (hw.cell (p := ⟨w.heap.size + 1 + 1, 0, none⟩) c5.lt (fun h => NL.out.2.1 h.symm)).trans q5
      have r6 := (hw.cell (p := ⟨w.heap.size + 1 + 1 + 1, 0, none⟩) c6.lt (fun h => NL.out.2.2 h.symm)).trans q6
      exact ⟨.tuple #[.int .i64 N1, .int .i64 N2, .int .i64 N3], by simp [results, Tryz.f110, go_sem, r4, r5, r6], rfl, cx.trans hw (fun i hi h => by omega)⟩
end Go.Proofs.YtigpaaelggnffaaGreatDoor.Cut

/- cut.short, cut.sort, cut.next: the first pre-token of a text. -/
namespace Go.Proofs.YtigpaaelggnffaaGreatDoor.Cut
open Go.RowKit Go.Proofs.YtigpaaelggnffaaGreatDoor.Lib Go.Proofs.YtigpaaelggnffaaGreatDoor.Sl
set_option linter.unusedVariables false
set_option linter.unusedSimpArgs false

theorem prefix_any (s p : ByteArray) (b : Bool) (h : decide (p.data.toList <+: s.data.toList) = b) (w : World) : Calls Tryz.prog 124 #[.string s, .string p] w fun e w' => e = .returned (.bool b) ∧ w = w' := by
  refine (Tryz.strings_HasPrefix s p w).mono ?_
  rintro e w' ⟨rfl, rfl⟩
  refine ⟨?_, rfl⟩
  rw [← h]
  congr 2
  unfold Go.Lib.hasPrefix
  rw [Bool.eq_iff_iff, List.isPrefixOf_iff_prefix]
  simp
theorem shortGo_step {l p : List UInt8} {t : List (List UInt8)} (b : Bool) (h : decide (p <+: l) = b) : shortGo l (p :: t) = if b = true then p.length else shortGo l t := by
  subst h
  by_cases h : p <+: l
  · simp [shortGo, h]
  · simp [shortGo, h]
set_option maxRecDepth 100000 in
set_option maxHeartbeats 8000000 in
theorem short_any (s : ByteArray) (w : World) :
    Calls Tryz.prog 109 #[.string s] w fun e w' => e = .returned (.int .i64 (shortT s)) ∧ Ext (fun _ => False) w w' := by
  have B0 : (w.alloc (.cells #[.string ⟨#[39, 115]⟩, .string ⟨#[39, 116]⟩, .string ⟨#[39, 109]⟩, .string ⟨#[39, 100]⟩, .string ⟨#[39, 114, 101]⟩, .string ⟨#[39, 118, 101]⟩, .string ⟨#[39, 108, 108]⟩] 9)).heap[w.heap.size]? = some (.cells #[.string ⟨#[39, 115]⟩, .string ⟨#[39, 116]⟩, .string ⟨#[39, 109]⟩, .string ⟨#[39, 100]⟩, .string ⟨#[39, 114, 101]⟩, .string ⟨#[39, 118, 101]⟩, .string ⟨#[39, 108, 108]⟩] 9 (0, 0)) := heap_alloc_new w _
  have c0 := blk_cell B0 0
  have c1 := blk_cell B0 1
  have c2 := blk_cell B0 2
  have c3 := blk_cell B0 3
  have c4 := blk_cell B0 4
  have c5 := blk_cell B0 5
  have c6 := blk_cell B0 6
  simp at c0 c1 c2 c3 c4 c5 c6
  have X := Lib.hid (show Ext (fun _ => False) w (w.alloc (.cells #[.string ⟨#[39, 115]⟩, .string ⟨#[39, 116]⟩, .string ⟨#[39, 109]⟩, .string ⟨#[39, 100]⟩, .string ⟨#[39, 114, 101]⟩, .string ⟨#[39, 118, 101]⟩, .string ⟨#[39, 108, 108]⟩] 9)) from (Ext.refl _ _).alloc _)
  obtain ⟨N, hN⟩ : ∃ N, shortT s = N := ⟨_, rfl⟩
  rw [hN]
  have HN0 := Lib.hid (show shortGo s.data.toList (shorts.drop 0) = N from hN)
  clear B0 hN
  go_enter Tryz.func109, Tryz.ntmps109
  go_wp2_with fail
  go_loop [7] (fun i => ∃ k : Nat, k ≤ 7 ∧ i = .int .i64 k ∧ shortGo s.data.toList (shorts.drop k) = N) (fun i => 7 - (intOf i).toNat)
  case atStart => exact ⟨0, by omega, rfl, HN0.out⟩
  case round =>
    obtain ⟨k, hk, rfl, hN⟩ := hrel
    have HN := Lib.hid hN
    clear hN HN0
    rcases (by omega : k = 0 ∨ k = 1 ∨ k = 2 ∨ k = 3 ∨ k = 4 ∨ k = 5 ∨ k = 6 ∨ k = 7) with rfl | rfl | rfl | rfl | rfl | rfl | rfl | rfl
    · obtain ⟨b, hb⟩ : ∃ b, decide ((⟨#[39, 115]⟩ : ByteArray).data.toList <+: s.data.toList) = b := ⟨_, rfl⟩
      have PR := Lib.hid (fun w => prefix_any s ⟨#[39, 115]⟩ b hb w)
      have ST := Lib.hid (show shortGo s.data.toList (shorts.drop 0) = if b = true then 2 else shortGo s.data.toList (shorts.drop 1) from shortGo_step (p := [39, 115]) b hb)
      clear hb
      cases b with
      | true =>
        have HZ := Lib.hid (show (2 : Int) = (N : Int) from by have := HN.out; rw [ST.out] at this; rw [← this]; rfl)
        go_wp2_with fail
        refine (PR.out _).mono ?_
        rintro e w' ⟨rfl, rfl⟩
        go_wp2_with fail
        go_ret
        exact ⟨ret_int HZ.out, X.out⟩
      | false =>
        have HZ := Lib.hid (show shortGo s.data.toList (shorts.drop 1) = N from by have := HN.out; rw [ST.out] at this; exact this)
        go_wp2_with fail
        refine (PR.out _).mono ?_
        rintro e w' ⟨rfl, rfl⟩
        go_wp2_with fail
        go_round
        case rel => exact ⟨1, by omega, rfl, HZ.out⟩
        case measure => simp [intOf]
    · obtain ⟨b, hb⟩ : ∃ b, decide ((⟨#[39, 116]⟩ : ByteArray).data.toList <+: s.data.toList) = b := ⟨_, rfl⟩
      have PR := Lib.hid (fun w => prefix_any s ⟨#[39, 116]⟩ b hb w)
      have ST := Lib.hid (show shortGo s.data.toList (shorts.drop 1) = if b = true then 2 else shortGo s.data.toList (shorts.drop 2) from shortGo_step (p := [39, 116]) b hb)
      clear hb
      cases b with
      | true =>
        have HZ := Lib.hid (show (2 : Int) = (N : Int) from by have := HN.out; rw [ST.out] at this; rw [← this]; rfl)
        go_wp2_with fail
        refine (PR.out _).mono ?_
        rintro e w' ⟨rfl, rfl⟩
        go_wp2_with fail
        go_ret
        exact ⟨ret_int HZ.out, X.out⟩
      | false =>
        have HZ := Lib.hid (show shortGo s.data.toList (shorts.drop 2) = N from by have := HN.out; rw [ST.out] at this; exact this)
        go_wp2_with fail
        refine (PR.out _).mono ?_
        rintro e w' ⟨rfl, rfl⟩
        go_wp2_with fail
        go_round
        case rel => exact ⟨2, by omega, rfl, HZ.out⟩
        case measure => simp [intOf]
    · obtain ⟨b, hb⟩ : ∃ b, decide ((⟨#[39, 109]⟩ : ByteArray).data.toList <+: s.data.toList) = b := ⟨_, rfl⟩
      have PR := Lib.hid (fun w => prefix_any s ⟨#[39, 109]⟩ b hb w)
      have ST := Lib.hid (show shortGo s.data.toList (shorts.drop 2) = if b = true then 2 else shortGo s.data.toList (shorts.drop 3) from shortGo_step (p := [39, 109]) b hb)
      clear hb
      cases b with
      | true =>
        have HZ := Lib.hid (show (2 : Int) = (N : Int) from by have := HN.out; rw [ST.out] at this; rw [← this]; rfl)
        go_wp2_with fail
        refine (PR.out _).mono ?_
        rintro e w' ⟨rfl, rfl⟩
        go_wp2_with fail
        go_ret
        exact ⟨ret_int HZ.out, X.out⟩
      | false =>
        have HZ := Lib.hid (show shortGo s.data.toList (shorts.drop 3) = N from by have := HN.out; rw [ST.out] at this; exact this)
        go_wp2_with fail
        refine (PR.out _).mono ?_
        rintro e w' ⟨rfl, rfl⟩
        go_wp2_with fail
        go_round
        case rel => exact ⟨3, by omega, rfl, HZ.out⟩
        case measure => simp [intOf]
    · obtain ⟨b, hb⟩ : ∃ b, decide ((⟨#[39, 100]⟩ : ByteArray).data.toList <+: s.data.toList) = b := ⟨_, rfl⟩
      have PR := Lib.hid (fun w => prefix_any s ⟨#[39, 100]⟩ b hb w)
      have ST := Lib.hid (show shortGo s.data.toList (shorts.drop 3) = if b = true then 2 else shortGo s.data.toList (shorts.drop 4) from shortGo_step (p := [39, 100]) b hb)
      clear hb
      cases b with
      | true =>
        have HZ := Lib.hid (show (2 : Int) = (N : Int) from by have := HN.out; rw [ST.out] at this; rw [← this]; rfl)
        go_wp2_with fail
        refine (PR.out _).mono ?_
        rintro e w' ⟨rfl, rfl⟩
        go_wp2_with fail
        go_ret
        exact ⟨ret_int HZ.out, X.out⟩
      | false =>
        have HZ := Lib.hid (show shortGo s.data.toList (shorts.drop 4) = N from by have := HN.out; rw [ST.out] at this; exact this)
        go_wp2_with fail
        refine (PR.out _).mono ?_
        rintro e w' ⟨rfl, rfl⟩
        go_wp2_with fail
        go_round
        case rel => exact ⟨4, by omega, rfl, HZ.out⟩
        case measure => simp [intOf]
    · obtain ⟨b, hb⟩ : ∃ b, decide ((⟨#[39, 114, 101]⟩ : ByteArray).data.toList <+: s.data.toList) = b := ⟨_, rfl⟩
      have PR := Lib.hid (fun w => prefix_any s ⟨#[39, 114, 101]⟩ b hb w)
      have ST := Lib.hid (show shortGo s.data.toList (shorts.drop 4) = if b = true then 3 else shortGo s.data.toList (shorts.drop 5) from shortGo_step (p := [39, 114, 101]) b hb)
      clear hb
      cases b with
      | true =>
        have HZ := Lib.hid (show (3 : Int) = (N : Int) from by have := HN.out; rw [ST.out] at this; rw [← this]; rfl)
        go_wp2_with fail
        refine (PR.out _).mono ?_
        rintro e w' ⟨rfl, rfl⟩
        go_wp2_with fail
        go_ret
        exact ⟨ret_int HZ.out, X.out⟩
      | false =>
        have HZ := Lib.hid (show shortGo s.data.toList (shorts.drop 5) = N from by have := HN.out; rw [ST.out] at this; exact this)
        go_wp2_with fail
        refine (PR.out _).mono ?_
        rintro e w' ⟨rfl, rfl⟩
        go_wp2_with fail
        go_round
        case rel => exact ⟨5, by omega, rfl, HZ.out⟩
        case measure => simp [intOf]
    · obtain ⟨b, hb⟩ : ∃ b, decide ((⟨#[39, 118, 101]⟩ : ByteArray).data.toList <+: s.data.toList) = b := ⟨_, rfl⟩
      have PR := Lib.hid (fun w => prefix_any s ⟨#[39, 118, 101]⟩ b hb w)
      have ST := Lib.hid (show shortGo s.data.toList (shorts.drop 5) = if b = true then 3 else shortGo s.data.toList (shorts.drop 6) from shortGo_step (p := [39, 118, 101]) b hb)
      clear hb
      cases b with
      | true =>
        have HZ := Lib.hid (show (3 : Int) = (N : Int) from by have := HN.out; rw [ST.out] at this; rw [← this]; rfl)
        go_wp2_with fail
        refine (PR.out _).mono ?_
        rintro e w' ⟨rfl, rfl⟩
        go_wp2_with fail
        go_ret
        exact ⟨ret_int HZ.out, X.out⟩
      | false =>
        have HZ := Lib.hid (show shortGo s.data.toList (shorts.drop 6) = N from by have := HN.out; rw [ST.out] at this; exact this)
        go_wp2_with fail
        refine (PR.out _).mono ?_
        rintro e w' ⟨rfl, rfl⟩
        go_wp2_with fail
        go_round
        case rel => exact ⟨6, by omega, rfl, HZ.out⟩
        case measure => simp [intOf]
    · obtain ⟨b, hb⟩ : ∃ b, decide ((⟨#[39, 108, 108]⟩ : ByteArray).data.toList <+: s.data.toList) = b := ⟨_, rfl⟩
      have PR := Lib.hid (fun w => prefix_any s ⟨#[39, 108, 108]⟩ b hb w)
      have ST := Lib.hid (show shortGo s.data.toList (shorts.drop 6) = if b = true then 3 else shortGo s.data.toList (shorts.drop 7) from shortGo_step (p := [39, 108, 108]) b hb)
      clear hb
      cases b with
      | true =>
        have HZ := Lib.hid (show (3 : Int) = (N : Int) from by have := HN.out; rw [ST.out] at this; rw [← this]; rfl)
        go_wp2_with fail
        refine (PR.out _).mono ?_
        rintro e w' ⟨rfl, rfl⟩
        go_wp2_with fail
        go_ret
        exact ⟨ret_int HZ.out, X.out⟩
      | false =>
        have HZ := Lib.hid (show shortGo s.data.toList (shorts.drop 7) = N from by have := HN.out; rw [ST.out] at this; exact this)
        go_wp2_with fail
        refine (PR.out _).mono ?_
        rintro e w' ⟨rfl, rfl⟩
        go_wp2_with fail
        go_round
        case rel => exact ⟨7, by omega, rfl, HZ.out⟩
        case measure => simp [intOf]
    · have HZ := Lib.hid (show (0 : Int) = (N : Int) from by have := HN.out; rw [← this]; rfl)
      go_wp2_with fail
      go_ret
      exact ⟨ret_int HZ.out, X.out⟩
theorem sort_any (k : Int) (w : World) : Calls Tryz.prog 111 #[.int .i64 k] w fun e w' => e = .returned (.int .i64 (sortT k)) ∧ w = w' := by
  by_cases h1 : k = 1
  · subst h1
    go_enter Tryz.func111, Tryz.ntmps111
    go_wp2
    go_ret
    exact ⟨rfl, rfl⟩
  · have d1 : (k == 1) = false := beq_eq_false_iff_ne.2 h1
    by_cases h2 : k = 2
    · subst h2
      go_enter Tryz.func111, Tryz.ntmps111
      go_wp2
      go_ret
      exact ⟨rfl, rfl⟩
    · have d2 : (k == 2) = false := beq_eq_false_iff_ne.2 h2
      have E := Lib.hid (show sortT k = 4 from by unfold sortT; rw [if_neg h1, if_neg h2])
      clear h1 h2
      go_enter Tryz.func111, Tryz.ntmps111
      go_wp2
      go_ret
      exact ⟨by rw [E.out]; rfl, rfl⟩
theorem head_byte {s : ByteArray} (h : 0 < s.size) : s.data.toList.head? = some 32 ↔ ((s[0]'h).toNat : Int) = 32 := by
  have e : s.data.toList.head? = some (s[0]'h) := by
    rw [List.head?_eq_getElem?, List.getElem?_eq_getElem (by rw [Array.length_toList]; exact h)]
    rfl
  rw [e, Option.some.injEq]
  constructor
  · intro h; rw [h]; rfl
  · intro h; exact UInt8.toNat_inj.1 (by have : (s[0]).toNat = 32 := by omega
                                         exact this)
set_option maxRecDepth 100000 in
set_option maxHeartbeats 8000000 in
theorem next_any {w : World} {m : Nat} {d : Dat} (hm : IsCut w m d) (hT : Tabs w) (s : ByteArray) (h0 : 0 < s.size) (hs : s.size ≤ 1048576) :
    Calls Tryz.prog 78 #[.pointer (some ⟨m, 0, none⟩), .string s] w fun e w' => e = .returned (.tuple #[.int .i64 (nextT d s).1, .int .i64 (nextT d s).2]) ∧ Ext (fun _ => False) w w' := by
  have HM := Lib.hid hm
  have HT := Lib.hid hT
  have SA := Lib.hid (short_any s w)
  have RA := Lib.hid (fun w' (hx : Ext (fun _ => False) w w') => run_any (hm.on hx) (hT.on hx) s h0 hs)
  have RB := Lib.hid (fun w' (hx : Ext (fun _ => False) w w') (h1 : 1 < s.size) => run_any (hm.on hx) (hT.on hx) (s.extract 1 s.size) (by rw [ByteArray.size_extract]; omega) (by rw [ByteArray.size_extract]; omega))
  have bd := runT_bd (d := d) h0
  have hb := head_byte h0
  have bs := shortGo_bd (l := s.data.toList) shorts
  rw [Array.length_toList] at bs
  obtain ⟨n1, hn1⟩ : ∃ n, (runT d s).1 = n := ⟨_, rfl⟩
  obtain ⟨n2, hn2⟩ : ∃ n, (runT d s).2.1 = n := ⟨_, rfl⟩
  obtain ⟨n3, hn3⟩ : ∃ n, (runT d s).2.2 = n := ⟨_, rfl⟩
  obtain ⟨m1, hm1⟩ : ∃ n, (runT d (s.extract 1 s.size)).1 = n := ⟨_, rfl⟩
  obtain ⟨m2, hm2⟩ : ∃ n, (runT d (s.extract 1 s.size)).2.1 = n := ⟨_, rfl⟩
  obtain ⟨m3, hm3⟩ : ∃ n, (runT d (s.extract 1 s.size)).2.2 = n := ⟨_, rfl⟩
  obtain ⟨sh, hsh⟩ : ∃ n, shortT s = n := ⟨_, rfl⟩
  have NX := Lib.hid (show nextT d s = if 0 < sh then (sh, 1) else if n3 ≠ 3 then (n1, sortT n3) else if s.data.toList.head? = some 32 ∧ n1 = 1 ∧ 1 < s.size then (1 + m1, sortT m3) else if n1 < s.size ∧ n2 < n1 then (n1 - n2, 5) else (n1, 5) from by unfold nextT; rw [hsh, hn1, hn2, hn3, hm1, hm3])
  have MB : 1 < s.size → m1 ≤ s.size := fun h => by
    have := (runT_bd (d := d) (s := s.extract 1 s.size) (by rw [ByteArray.size_extract]; omega)).2.1
    rw [hm1, ByteArray.size_extract] at this
    omega
  rw [hsh] at SA
  rw [hn1, hn2, hn3] at RA
  rw [hm1, hm2, hm3] at RB
  rw [hn1, hn2] at bd
  have HB := Lib.hid hb
  have hb1 := bd.1
  have hb2 := bd.2.1
  have hb3 := bd.2.2.1
  have hb4 := bd.2.2.2
  have hsb : sh ≤ s.size := hsh ▸ bs
  clear hm hT hn1 hn2 hn3 hm1 hm2 hm3 hsh hb bd bs
  by_cases c1 : 0 < sh
  · have E := Lib.hid (show nextT d s = (sh, 1) from by rw [NX.out, if_pos c1])
    rw [E.out]
    have i1 : (0 : Int) < (sh : Int) := by omega
    clear c1
    go_enter Tryz.func78, Tryz.ntmps78
    go_wp2_with fail
    refine SA.out.mono ?_
    rintro e w1 ⟨rfl, hx⟩
    have X1 := Lib.hid hx
    clear hx
    go_wp2_with fail
    go_ret2
    exact ⟨rfl, X1.out⟩
  · have i1 : ¬ (0 : Int) < (sh : Int) := by omega
    have NX2 := Lib.hid (show nextT d s = if n3 ≠ 3 then (n1, sortT n3) else if s.data.toList.head? = some 32 ∧ n1 = 1 ∧ 1 < s.size then (1 + m1, sortT m3) else if n1 < s.size ∧ n2 < n1 then (n1 - n2, 5) else (n1, 5) from by rw [NX.out, if_neg c1])
    clear c1 NX
    by_cases c2 : n3 = 3
    · have d2 : (n3 != 3) = false := by rw [bne_eq_false_iff_eq]; exact c2
      have NX3 := Lib.hid (show nextT d s = if s.data.toList.head? = some 32 ∧ n1 = 1 ∧ 1 < s.size then (1 + m1, sortT m3) else if n1 < s.size ∧ n2 < n1 then (n1 - n2, 5) else (n1, 5) from by rw [NX2.out, if_neg (fun h => h c2)])
      clear NX2 c2
      by_cases c3 : s.data.toList.head? = some 32 ∧ n1 = 1 ∧ 1 < s.size
      · have E := Lib.hid (show nextT d s = (1 + m1, sortT m3) from by rw [NX3.out, if_pos c3])
        rw [E.out]
        obtain ⟨c31, rfl, c33⟩ := c3
        have e0 := HB.out.1 c31
        have d3 : (((s[0]'h0).toNat : Int) == 32) = true := beq_iff_eq.2 e0
        have i3 : (1 : Int) < (s.size : Int) := by omega
        have RB2 := Lib.hid (fun w' hx => RB.out w' hx c33)
        have mb := MB c33
        clear c31 e0 NX3 RB MB
        go_enter Tryz.func78, Tryz.ntmps78
        go_wp2_with fail
        refine SA.out.mono ?_
        rintro e w1 ⟨rfl, hx⟩
        have X1 := Lib.hid hx
        clear hx
        go_wp2_with fail
        refine (RA.out _ X1.out).mono ?_
        rintro e w2 ⟨rfl, hx⟩
        have X2 := Lib.hid (X1.out.trans hx (fun _ _ h => h))
        clear hx
        go_wp2_with fail
        refine (RB2.out _ X2.out).mono ?_
        rintro e w3 ⟨rfl, hx⟩
        have X3 := Lib.hid (X2.out.trans hx (fun _ _ h => h))
        clear hx
        go_wp2_with fail
        refine (sort_any m3 _).mono ?_
        rintro e w4 ⟨rfl, rfl⟩
        go_wp2_with fail
        go_ret2
        exact ⟨by simp, X3.out⟩
      · have NX4 := Lib.hid (show nextT d s = if n1 < s.size ∧ n2 < n1 then (n1 - n2, 5) else (n1, 5) from by rw [NX3.out, if_neg c3])
        have KA : (((s[0]'h0).toNat : Int) == 32) = false ∨ ((((s[0]'h0).toNat : Int) == 32) = true ∧ ((n1 : Int) == 1) = false) ∨ ((((s[0]'h0).toNat : Int) == 32) = true ∧ ((n1 : Int) == 1) = true ∧ ¬ (1 : Int) < (s.size : Int)) := by
          by_cases g1 : ((s[0]'h0).toNat : Int) = 32
          · have g1' : (((s[0]'h0).toNat : Int) == 32) = true := beq_iff_eq.2 g1
            by_cases g2 : (n1 : Int) = 1
            · exact .inr (.inr ⟨g1', beq_iff_eq.2 g2, fun h => c3 ⟨HB.out.2 g1, by omega, by omega⟩⟩)
            · exact .inr (.inl ⟨g1', beq_eq_false_iff_ne.2 g2⟩)
          · exact .inl (beq_eq_false_iff_ne.2 g1)
        have KB : (n1 < s.size ∧ n2 < n1 ∧ Hid (nextT d s = (n1 - n2, 5))) ∨ (n1 < s.size ∧ ¬ n2 < n1 ∧ Hid (nextT d s = (n1, 5))) ∨ (¬ n1 < s.size ∧ Hid (nextT d s = (n1, 5))) := by
          by_cases g1 : n1 < s.size
          · by_cases g2 : n2 < n1
            · exact .inl ⟨g1, g2, Lib.hid (by rw [NX4.out, if_pos ⟨g1, g2⟩])⟩
            · exact .inr (.inl ⟨g1, g2, Lib.hid (by rw [NX4.out, if_neg (fun h => g2 h.2)])⟩)
          · exact .inr (.inr ⟨g1, Lib.hid (by rw [NX4.out, if_neg (fun h => g1 h.1)])⟩)
        clear c3 NX3 NX4 RB MB
        rcases KA with d3 | ⟨d3, d4⟩ | ⟨d3, d4, d5⟩ <;> rcases KB with ⟨e1, e2, E⟩ | ⟨e1, e2, E⟩ | ⟨e1, E⟩
        all_goals
          rw [E.out]
          go_enter Tryz.func78, Tryz.ntmps78
          go_wp2_with fail
          refine SA.out.mono ?_
          rintro e w1 ⟨rfl, hx⟩
          have X1 := Lib.hid hx
          clear hx
          go_wp2_with fail
          all_goals
            refine (RA.out _ X1.out).mono ?_
            rintro e w2 ⟨rfl, hx⟩
            have X2 := Lib.hid (X1.out.trans hx (fun _ _ h => h))
            clear hx
            go_wp2_with fail
            all_goals (go_ret2; exact ⟨by first | rfl | (show Ending.returned (.tuple #[.int .i64 ((n1 : Int) - (n2 : Int)), .int .i64 5]) = _; rw [Int.natCast_sub (by omega)]), X2.out⟩)
    · have d2 : (n3 != 3) = true := by rw [bne_iff_ne]; exact c2
      have E := Lib.hid (show nextT d s = (n1, sortT n3) from by rw [NX2.out, if_pos c2])
      rw [E.out]
      clear c2 NX2
      go_enter Tryz.func78, Tryz.ntmps78
      go_wp2_with fail
      refine SA.out.mono ?_
      rintro e w1 ⟨rfl, hx⟩
      have X1 := Lib.hid hx
      clear hx
      go_wp2_with fail
      refine (RA.out _ X1.out).mono ?_
      rintro e w2 ⟨rfl, hx⟩
      have X2 := Lib.hid (X1.out.trans hx (fun _ _ h => h))
      clear hx
      go_wp2_with fail
      refine (sort_any n3 _).mono ?_
      rintro e w3 ⟨rfl, rfl⟩
      go_wp2_with fail
      go_ret2
      exact ⟨rfl, X2.out⟩
end Go.Proofs.YtigpaaelggnffaaGreatDoor.Cut

/- cut.All: the iterator over a text's pre-tokens. -/
namespace Go.Proofs.YtigpaaelggnffaaGreatDoor.Cut
open Go.RowKit Go.Shelf Go.Proofs.YtigpaaelggnffaaGreatDoor.Lib Go.Proofs.YtigpaaelggnffaaGreatDoor.Sl Go.Proofs.YtigpaaelggnffaaGreatDoor.Chain Go.Proofs.YtigpaaelggnffaaGreatDoorW.PrintLast
set_option linter.unusedVariables false
set_option linter.unusedSimpArgs false
attribute [local go_sem] Oper.semAt_some

/-- What a round keeps: all rows that are there, but V's; what lay below w. -/
structure KeepW (w : World) (V : Nat → Prop) (A B : World) : Prop where
  cells : KeepC V A B
  old : Ext (fun _ => False) w A → Ext (fun _ => False) w B
theorem KeepW.trans {w : World} {V : Nat → Prop} {A B C : World} (h : KeepW w V A B) (k : KeepW w V B C) : KeepW w V A C := ⟨h.cells.trans k.cells, fun x => k.old (h.old x)⟩
theorem keepW_b {w : World} {V : Nat → Prop} (W : World) (l : Nat) (o o' : Obj) (hl : w.heap.size ≤ l) (h : W.heap[l]? = some o) (hc : o.isCells = false) : KeepW w V W (W.putObj l o') :=
  ⟨keepC_b W l o o' h hc, fun hx => ext_row hx (grownBy_putObj' W l o') (fun r e => by cases e; exact hl)⟩
/-- The pre-tokens of a text, as the loops over them know them. -/
abbrev Tk (s : ByteArray) : Type := { x : Tok // x.a < x.b ∧ x.b ≤ s.size }
def tkOf {d : Dat} {s : ByteArray} {k : Nat} (h : k < s.size) : Tk s := ⟨tokAt d s k, (tokAt_bd h).1, (tokAt_bd h).2⟩
def tkV (x : Tok) : Value := .agg #[.int .i64 x.a, .int .i64 x.b, .int .i64 x.so]
theorem all_in (N : Nat) (m : Nat) (s : ByteArray) (w : World) :
    CallsIn Fence.wide N Tryz.prog 57 #[.pointer (some ⟨m, 0, none⟩), .string s] w fun e w' => e = .returned (.func (.func 77) #[] #[.pointer (some ⟨w.heap.size, 0, none⟩), .pointer (some ⟨w.heap.size + 1, 0, none⟩)]) ∧ w' = (w.alloc (.cells #[.pointer (some ⟨m, 0, none⟩)] 27)).alloc (.cells #[.string s] 9) := by
  refine callsIn_of_wp Tryz.func57 rfl trivial ?_ rfl
  simp only [Tryz.ntmps57, List.size_toArray, List.length_cons, List.length_nil, Nat.reduceAdd, Nat.reduceSub, Array.replicate_succ, Array.replicate_zero, List.push_toArray, List.append_toArray, List.nil_append, List.cons_append]
  gi_wp2
  go_ret
  exact ⟨rfl, rfl⟩
set_option maxRecDepth 100000 in
set_option maxHeartbeats 4000000 in
theorem all1_in (N : Nat) (hn : 1 ≤ N) (l m Bm Bs : Nat) (V : Nat → Prop) (w : World) (d : Dat) (s : ByteArray) (hs : s.size ≤ 1048576) (hm : IsCut w m d) (hT : Tabs w) (J Jx : List (Tk s) → World → Prop)
    (hY : ∀ (pre : List (Tk s)) (x : Tk s) W, J pre W → pre.length < (toks d s).length → YieldAt Fence.wide (N - 1) Tryz.prog l #[tkV x.1] W fun e W' =>
      (e = .returned (.bool true) ∧ J (pre ++ [x]) W' ∧ KeepW w V W W') ∨ (e = .returned (.bool false) ∧ Jx (pre ++ [x]) W'))
    (hJ : ∀ pre A B, J pre A → Ext (fun _ => False) A B → J pre B)
    (W : World) (hVm : ¬ V Bm) (hVs : ¬ V Bs) (b0 : W.cell? ⟨Bm, 0, none⟩ = some (.pointer (some ⟨m, 0, none⟩))) (b1 : W.cell? ⟨Bs, 0, none⟩ = some (.string s)) (hx : Ext (fun _ => False) w W) (h0 : J [] W) :
    CallsIn Fence.wide N Tryz.prog 77 #[.func (.yield l) #[] #[], .pointer (some ⟨Bm, 0, none⟩), .pointer (some ⟨Bs, 0, none⟩)] W fun e W' => (∃ v, e = .returned v) ∧
      ((∃ ys : List (Tk s), ys.map Subtype.val = toks d s ∧ J ys W') ∨ (∃ pre : List (Tk s), pre.map Subtype.val <+: toks d s ∧ Jx pre W')) := by
  refine callsIn_of_wp Tryz.func77 rfl trivial ?_ rfl
  simp only [Tryz.ntmps77, List.size_toArray, List.length_cons, List.length_nil, Nat.reduceAdd, Nat.reduceSub, Array.replicate_succ, Array.replicate_zero, List.push_toArray, List.append_toArray, List.nil_append, List.cons_append]
  have i0 : ¬ (1048576 : Int) < (s.size : Int) := by omega
  gi_wp2
  gi_loopw [4] (fun i wr => ∃ (k f : Nat) (pre : List (Tk s)), i = .int .i64 k ∧ toks d s = pre.map Subtype.val ++ toksGo d s f k ∧ s.size - k ≤ f ∧ k ≤ s.size ∧ (wr.cell? ⟨Bm, 0, none⟩ = some (.pointer (some ⟨m, 0, none⟩)) ∧ wr.cell? ⟨Bs, 0, none⟩ = some (.string s)) ∧ Ext (fun _ => False) w wr ∧ J pre wr)
    (fun i wr => s.size - (intOf i).toNat)
  case atStart => exact ⟨0, s.size, [], rfl, rfl, Nat.le_refl _, Nat.zero_le _, ⟨b0, b1⟩, hx, h0⟩
  case round =>
    obtain ⟨k, f, pre, rfl, hit, hf, hk, ⟨c0, c1⟩, hex, hj⟩ := hrel
    have EX := Lib.hid hex
    have HJ := Lib.hid hj
    have HB := Lib.hid (And.intro (World.block_lt_of_cell? _ _ c0) (World.block_lt_of_cell? _ _ c1))
    by_cases hlt : k < s.size
    · have i1 : (k : Int) < (s.size : Int) := by omega
      obtain ⟨f', hf1, hf2⟩ := toksGo_cons (d := d) hlt hf
      have hbd := tokAt_bd (d := d) hlt
      rw [hf1] at hit
      have HIT := Lib.hid hit
      have PL := Lib.hid (show pre.length < (toks d s).length from by rw [hit, List.length_append, List.length_map, List.length_cons]; omega)
      have NX := Lib.hid (fun w' (hx : Ext (fun _ => False) w w') => next_any (hm.on hx) (hT.on hx) (s.extract k s.size) (by rw [ByteArray.size_extract]; omega) (by rw [ByteArray.size_extract]; omega))
      have TO := Lib.hid (show tkV (tokAt d s k) = .agg #[.int .i64 (k : Int), .int .i64 ((k + (nextT d (s.extract k s.size)).1 : Nat) : Int), .int .i64 (nextT d (s.extract k s.size)).2] from rfl)
      have TB : (tokAt d s k).b = k + (nextT d (s.extract k s.size)).1 := rfl
      obtain ⟨n1, hn1⟩ : ∃ n, (nextT d (s.extract k s.size)).1 = n := ⟨_, rfl⟩
      obtain ⟨n2, hn2⟩ : ∃ n, (nextT d (s.extract k s.size)).2 = n := ⟨_, rfl⟩
      rw [hn1, hn2] at NX TO
      rw [hn1] at TB
      have HTB := Lib.hid TB
      have nb : (k : Int) + (n1 : Int) ≤ (s.size : Int) := by have := hbd.2; rw [TB] at this; omega
      have nb0 : (0 : Int) ≤ (n1 : Int) := by omega
      have nb1 : 0 < n1 := by have := hbd.1; rw [TB] at this; omega
      have kk : (k : Int) ≤ (s.size : Int) := by omega
      clear hj hit hf1 hex hn1 hn2 TB hbd
      gi_wp2
      refine wpIn_wide.2 ?_
      refine start_ (n := 10) (S := fun w' => w'.cell? ⟨Bm, 0, none⟩ = some (.pointer (some ⟨m, 0, none⟩)) ∧ w'.cell? ⟨Bs, 0, none⟩ = some (.string s)) (ds := []) (ls 10 0) (by kernel_rfl) rfl rfl ⟨c0, c1⟩ (fun hHeld => ?_)
      refine pure_ (i := 2) (N := some 21) (v := ?_) (a' := ?_) (ls 10 4) rfl rfl (by kernel_rfl) (fun _ _ _ h => h) (Or.inl ⟨by rfl, ?_⟩) ?_ ?_
      rotate_left
      · intro w'; go_simp; with_reducible rfl
      rotate_left
      · simp only [Act.put, List.setIfInBounds_toArray, List.set_cons_zero, List.set_cons_succ, i64_w, i32_w]; rfl
      refine take_ (i := 0) (N := some 19) (v := ?_) (a' := ?_) (ls 10 5) rfl rfl (by kernel_rfl) (fun _ _ _ h => h) (Or.inl ⟨by rfl, ?_⟩) hHeld ?_ ?_
      rotate_left
      · rintro w' ⟨s0, s1⟩; go_simp; with_reducible rfl
      rotate_left
      · simp only [Act.put, List.setIfInBounds_toArray, List.set_cons_zero, List.set_cons_succ, i64_w, i32_w]; rfl
      refine take_ (i := 1) (N := some 20) (v := ?_) (a' := ?_) (ls 10 7) rfl rfl (by kernel_rfl) (fun _ _ _ h => h) (Or.inl ⟨by rfl, ?_⟩) hHeld ?_ ?_
      rotate_left
      · rintro w' ⟨s0, s1⟩; go_simp; with_reducible rfl
      rotate_left
      · simp only [Act.put, List.setIfInBounds_toArray, List.set_cons_zero, List.set_cons_succ, i64_w, i32_w]; rfl
      refine pure_ (i := 3) (N := some 22) (v := ?_) (a' := ?_) (ls 10 15) rfl rfl (by kernel_rfl) (fun _ _ _ h => h) (Or.inl ⟨by rfl, ?_⟩) ?_ ?_
      rotate_left
      · intro w'; go_simp; with_reducible rfl
      rotate_left
      · simp only [Act.put, List.setIfInBounds_toArray, List.set_cons_zero, List.set_cons_succ, i64_w, i32_w]; rfl
      refine one_ (i := 4) (N := some 23) (ls 10 31) rfl rfl (by kernel_rfl) (by decide) (fun K hK => ?_)
      refine goes_ Tryz.func78 (by kernel_rfl) rfl #[.pointer (some ⟨m, 0, none⟩), .string (s.extract k s.size)] (by rfl) rfl rfl (by (try simp only [List.map_toArray, List.map_cons, List.map_nil]); first | done | rfl) ?_
      refine (NX.out _ (EX.out.drew)).mono ?_
      rintro e w1 ⟨rfl, hx1⟩
      refine ⟨_, rfl, ?_⟩
      refine hK.out _ _ ⟨(hx1.cell (p := ⟨Bm, 0, none⟩) HB.out.1 (fun h => h)).trans c0, (hx1.cell (p := ⟨Bs, 0, none⟩) HB.out.2 (fun h => h)).trans c1⟩ (fun hHeld => ?_)
      clear hK K
      refine norm_ (a' := ?_) ?_ ?_
      rotate_left
      · simp only [Act.put, List.setIfInBounds_toArray, List.set_cons_zero, List.set_cons_succ, i64_w, i32_w]; rfl
      refine pure_ (i := 5) (N := some 18) (v := ?_) (a' := ?_) (ls 10 63) rfl rfl (by kernel_rfl) (fun _ _ _ h => h) (Or.inl ⟨by rfl, ?_⟩) ?_ ?_
      rotate_left
      · intro w'; go_simp; with_reducible rfl
      rotate_left
      · simp only [Act.put, List.setIfInBounds_toArray, List.set_cons_zero, List.set_cons_succ, i64_w, i32_w]; rfl
      refine pure_ (i := 6) (N := some 24) (v := ?_) (a' := ?_) (ls 10 127) rfl rfl (by kernel_rfl) (fun _ _ _ h => h) (Or.inl ⟨by rfl, ?_⟩) ?_ ?_
      rotate_left
      · intro w'; go_simp; with_reducible rfl
      rotate_left
      · simp only [Act.put, List.setIfInBounds_toArray, List.set_cons_zero, List.set_cons_succ, i64_w, i32_w]; rfl
      refine pure_ (i := 7) (N := some 25) (v := ?_) (a' := ?_) (ls 10 255) rfl rfl (by kernel_rfl) (fun _ _ _ h => h) (Or.inl ⟨by rfl, ?_⟩) ?_ ?_
      rotate_left
      · intro w'; go_simp; with_reducible rfl
      rotate_left
      · simp only [Act.put, List.setIfInBounds_toArray, List.set_cons_zero, List.set_cons_succ, i64_w, i32_w]; rfl
      refine pure_ (i := 8) (N := some 5) (v := ?_) (a' := ?_) (ls 10 511) rfl rfl (by kernel_rfl) (fun _ _ _ h => h) (Or.inl ⟨by rfl, ?_⟩) ?_ ?_
      rotate_left
      · intro w'; go_simp; with_reducible rfl
      rotate_left
      · simp only [Act.put, List.setIfInBounds_toArray, List.set_cons_zero, List.set_cons_succ, i64_w, i32_w]; rfl
      refine pure_ (i := 9) (N := some 6) (v := ?_) (a' := ?_) (ls 10 1023) rfl rfl (by kernel_rfl) (fun _ _ _ h => h) (Or.inl ⟨by rfl, ?_⟩) ?_ ?_
      rotate_left
      · intro w'; go_simp; with_reducible rfl
      rotate_left
      · simp only [Act.put, List.setIfInBounds_toArray, List.set_cons_zero, List.set_cons_succ, i64_w, i32_w]; rfl
      refine done_ (by kernel_rfl) ?_
      have X1 := Lib.hid (show Ext (fun _ => False) wr w1 from ((Ext.refl _ wr).drew).trans hx1 (fun _ _ h => h))
      obtain ⟨fn, tmps, assign, body, hy, hR⟩ := hY pre (tkOf (d := d) hlt) w1 (hJ _ _ _ HJ.out X1.out) PL.out
      have hy2 : (Instr.yield l #[.agg #[.int .i64 (k : Int), .int .i64 ((k : Int) + (n1 : Int)), .int .i64 n2]]).run Tryz.prog w1 = .ok (.round l fn tmps assign body) w1 := by
        have e : tkV (tkOf (d := d) hlt).1 = .agg #[.int .i64 (k : Int), .int .i64 ((k : Int) + (n1 : Int)), .int .i64 n2] := by
          have := TO.out
          rw [Int.natCast_add] at this
          exact this
        rw [← e]
        exact hy
      obtain ⟨h0', h1'⟩ := hHeld
      clear hy hx1 c0 c1 NX
      gi_wp2
      refine hR.mono ?_
      rintro e W3 (⟨rfl, hJ3, hk3⟩ | ⟨rfl, hJx3⟩)
      · have z0 := hk3.cells.cell h0' hVm
        have z1 := hk3.cells.cell h1' hVs
        have E3 := Lib.hid (hk3.old (EX.out.trans X1.out (fun _ _ h => h)))
        have HJ3 := Lib.hid hJ3
        clear hk3 hJ3
        gi_wp2
        go_roundw
        case rel => exact ⟨k + n1, f', pre ++ [tkOf (d := d) hlt], by go_num, by rw [HIT.out, List.map_append, List.append_assoc, ← HTB.out]; rfl, by rw [← HTB.out]; exact hf2, by omega, ⟨z0, z1⟩, E3.out, HJ3.out⟩
        case measure => simp [intOf]; omega
      · have HX3 := Lib.hid hJx3
        clear hJx3
        gi_wp2
        refine bodyPost_ret (results_none rfl _ _ _) rfl ?_
        exact ⟨⟨_, rfl⟩, .inr ⟨pre ++ [tkOf (d := d) hlt], ⟨toksGo d s f' (tokAt d s k).b, by rw [HIT.out, List.map_append, List.append_assoc]; rfl⟩, HX3.out⟩⟩
    · have i1 : ¬ (k : Int) < (s.size : Int) := by omega
      rw [toksGo_end (by omega)] at hit
      have HIT := Lib.hid hit
      clear hj hit hex
      gi_wp2
      go_end0
      exact ⟨⟨_, rfl⟩, .inl ⟨pre, by have := HIT.out; rw [List.append_nil] at this; exact this.symm, HJ.out⟩⟩
theorem all_stops (N : Nat) (hn : 1 ≤ N) (m Bm Bs : Nat) (V : Nat → Prop) (w w0 : World) (d : Dat) (s : ByteArray) (hs : s.size ≤ 1048576) (hm : IsCut w m d) (hT : Tabs w)
    (hVm : ¬ V Bm) (hVs : ¬ V Bs) (b0 : w0.cell? ⟨Bm, 0, none⟩ = some (.pointer (some ⟨m, 0, none⟩))) (b1 : w0.cell? ⟨Bs, 0, none⟩ = some (.string s)) (hx : Ext (fun _ => False) w w0) :
    SeqStopsK Fence.wide N Tryz.prog 77 #[.pointer (some ⟨Bm, 0, none⟩), .pointer (some ⟨Bs, 0, none⟩)] (fun x : Tk s => #[tkV x.1]) (KeepW w V) (fun ys => ys.map Subtype.val = toks d s) (fun pre => pre.map Subtype.val <+: toks d s) (toks d s).length w0 := fun l J Jx W hW hJ _ hY h0 => by
  have e : Ext (fun _ => False) w0 W := Ext.of_below hW
  exact all1_in N hn l m Bm Bs V w d s hs hm hT J Jx hY (fun pre A B hj hx => hJ pre A B none hj (ext_grown hx) (fun r e => by cases e)) W hVm hVs ((e.cell (p := ⟨Bm, 0, none⟩) (World.block_lt_of_cell? _ _ b0) (fun h => h)).trans b0) ((e.cell (p := ⟨Bs, 0, none⟩) (World.block_lt_of_cell? _ _ b1) (fun h => h)).trans b1) (hx.trans e (fun _ _ h => h)) h0
end Go.Proofs.YtigpaaelggnffaaGreatDoor.Cut

/- Joined, pure: what a step does to what is still to come. -/
namespace Go.Proofs.YtigpaaelggnffaaGreatDoor.Bpe
open Go.RowKit Go.Proofs.YtigpaaelggnffaaGreatDoor.Lib Go.Proofs.YtigpaaelggnffaaGreatDoor.Sl Go.Proofs.YtigpaaelggnffaaGreatDoor.Chain Go.Proofs.YtigpaaelggnffaaGreatDoor.ElBpe Go.Proofs.YtigpaaelggnffaaGreatDoor.HeapPure
set_option linter.unusedVariables false
set_option linter.unusedSimpArgs false

def okId (d : Dat) (id : Int) : Bool := decide (0 ≤ id) && decide (id < 256 + (d.ms.length : Int))
/-- What Joined tells. -/
def joinedT (d : Dat) (ids : List Int) : List Int × Int := if 1048576 < ids.length then ([], 3) else if ids.all (okId d) = true then ((joinT d.ms ids).1, 0) else ([], 24)
theorem step_join {ms : List Mrg} {n : Nat} {I : List Int} {al : Nat → Bool} {x : El} (hI : I.length = n) (hx : nextT ms (cur I al n) = some (x.f0.toNat, cnt al x.f1.toNat, x.f5)) (hv : Valid n I al x) :
    joinT ms (cur I al n) = ((joinT ms (cur (I.set x.f1.toNat x.f5) (cutAl al x.f2.toNat) n)).1, (x.f0.toNat, cnt al x.f1.toNat) :: (joinT ms (cur (I.set x.f1.toNat x.f5) (cutAl al x.f2.toNat) n)).2) ∧
      cnt (cutAl al x.f2.toNat) n + 1 = cnt al n := by
  refine ⟨by rw [joinT_some hx, cur_cut hv.1 hI], ?_⟩
  have := cnt_cut al x.f2.toNat hv.1.right n
  rw [if_pos hv.1.hn] at this
  exact this
end Go.Proofs.YtigpaaelggnffaaGreatDoor.Bpe

/- bpe.Joined. -/
namespace Go.Proofs.YtigpaaelggnffaaGreatDoor.Bpe
open Go.RowKit Go.Proofs.YtigpaaelggnffaaGreatDoor.Lib Go.Proofs.YtigpaaelggnffaaGreatDoor.Sl Go.Proofs.YtigpaaelggnffaaGreatDoor.Chain Go.Proofs.YtigpaaelggnffaaGreatDoor.ElBpe Go.Proofs.YtigpaaelggnffaaGreatDoor.HeapPure
set_option linter.unusedVariables false
set_option linter.unusedSimpArgs false

def JoinedEnd (w : World) (l : List Int) (y : Int) (e : Ending) (w' : World) : Prop :=
  ∃ p c, e = .returned (.tuple #[.slice p l.length c, .int .i64 y]) ∧ Arr w' 3 1 p l.length c (Chain.ints l) ∧ Ext (fun _ => False) w w' ∧ ∀ k, blkOf p = some k → w.heap.size ≤ k
/-- Where the merging stands. -/
def JoSt (w wr : World) (b : Nat) (d : Dat) (ids : List Int) (P : Pw) (g : Nat) : Prop :=
  ∃ I al H p2 c2, St w.heap.size wr b d ids.length I al H P p2 c2 ∧ Heap HeapB.less H ∧ BInv d.ms ids.length I al H ∧ (joinT d.ms (cur I al ids.length)).1 = (joinT d.ms ids).1 ∧ cnt al ids.length = g ∧ Ext (fun _ => False) w wr
set_option maxRecDepth 100000 in
set_option maxHeartbeats 2000000 in
theorem joined_any {w : World} {m : Nat} {d : Dat} (hm : IsModel w m d) (hd : RightD d) {p : Option Addr} {c : Nat} {ids : List Int} (hr : Rd eI w p ids) :
    Calls Tryz.prog 79 #[.pointer (some ⟨m, 0, none⟩), .slice p ids.length c] w fun e w' => JoinedEnd w (joinedT d ids).1 (joinedT d ids).2 e w' := by
  obtain ⟨ps, cs, hsz⟩ : ∃ p c, ∀ W, Ext (fun _ => False) w W → W.cell? ⟨m, 0, none⟩ = some (.slice p d.ws.length c) := by
    obtain ⟨L, tp, mp, q0, q1, q2, d0, d1, d2, hM⟩ := hm
    exact ⟨L.p0, L.c0, fun W hx => (hM.on hx).blk.c0⟩
  have hlen := hd.len
  have hfew := hd.few
  have SZ := Lib.hid (fun W hx => show Calls Tryz.prog 39 #[.pointer (some ⟨m, 0, none⟩)] W fun e w' => e = .returned (.int .i64 (256 + (d.ms.length : Int))) ∧ W = w' from by
    have := size_any W m ps d.ws.length cs (hsz W hx) (by omega)
    rwa [hlen] at this)
  have HM := Lib.hid hm
  have HD := Lib.hid hd
  have Q := Lib.hid hr
  have hq : ∀ W, (binOp .eql 27 (.pointer (some ⟨m, 0, none⟩)) (.pointer none)).run Tryz.prog W = .ok (.bool false) W := fun W => by kernel_rfl
  clear hsz hm hd hlen hr
  go_enter Tryz.func79, Tryz.ntmps79
  by_cases hbig : 1048576 < ids.length
  · have E := Lib.hid (show joinedT d ids = ([], 3) from if_pos hbig)
    have i0 : decide ((ids.length : Int) > 1048576) = true := decide_eq_true (by omega)
    clear hbig
    go_wp2_with fail
    go_ret2
    exact ⟨none, 0, by rw [E.out]; rfl, by rw [E.out]; exact arr_nil _ _ _, by repeat (first | exact Ext.refl _ _ | refine Ext.drew ?_ | refine Ext.drewN ?_ _ | refine Ext.alloc ?_ _), fun j hj => by cases hj⟩
  · have i0 : decide ((ids.length : Int) > 1048576) = false := decide_eq_false (by omega)
    have hle : ids.length ≤ 1048576 := by omega
    clear hbig
    go_wp2_with fail
    go_loopw [20] (fun i wr => ∃ k : Nat, i = .int .i64 k ∧ k ≤ ids.length ∧ wr = w ∧ (ids.take k).all (okId d) = true) (fun i _ => ids.length - (intOf i).toNat)
    case atStart => exact ⟨0, rfl, by omega, rfl, rfl⟩
    case round =>
      obtain ⟨k, rfl, hk, hwr, hv⟩ := hrel
      have hwr := hwr.symm
      subst hwr
      have HV := Lib.hid hv
      clear hv
      by_cases hlt : k < ids.length
      · have i1 : (k : Int) < (ids.length : Int) := by omega
        obtain ⟨x, hx⟩ : ∃ x, ids[k]? = some x := ⟨_, List.getElem?_eq_getElem hlt⟩
        obtain ⟨b, o, hp, hb, cx⟩ := Q.out.cellI hx
        have HX := Lib.hid hx
        clear hx
        have bad : okId d x = false → joinedT d ids = ([], 24) := by
          intro hb
          unfold joinedT
          rw [if_neg (by omega), if_neg]
          rw [List.all_eq_true]
          intro hall
          rw [hall x (List.mem_of_getElem? HX.out)] at hb
          cases hb
        have BAD := Lib.hid bad
        have next : okId d x = true → (ids.take (k + 1)).all (okId d) = true := by
          intro hb
          rw [List.take_add_one, HX.out, List.all_append, HV.out]
          simp [hb]
        have NEXT := Lib.hid next
        clear bad next
        rw [hp]
        by_cases h0 : x < 0
        · have E := Lib.hid (BAD.out (by unfold okId; rw [decide_eq_false (by omega)]; rfl))
          have d0 : decide (x < 0) = true := decide_eq_true h0
          clear h0
          go_wp2_with fail
          go_ret2
          exact ⟨none, 0, by rw [E.out]; rfl, by rw [E.out]; exact arr_nil _ _ _, Ext.refl _ _, fun j hj => by cases hj⟩
        · have d0 : decide (x < 0) = false := decide_eq_false h0
          by_cases h1 : 256 + (d.ms.length : Int) ≤ x
          · have E := Lib.hid (BAD.out (by unfold okId; rw [decide_eq_false (show ¬ x < 256 + (d.ms.length : Int) by omega), Bool.and_false]))
            have d1 : decide (x ≥ 256 + (d.ms.length : Int)) = true := decide_eq_true h1
            clear h0 h1
            go_wp2_with fail
            refine (SZ.out _ (Ext.refl _ _)).mono ?_
            rintro e w' ⟨rfl, rfl⟩
            go_wp2_with fail
            go_ret2
            exact ⟨none, 0, by rw [E.out]; rfl, by rw [E.out]; exact arr_nil _ _ _, Ext.refl _ _, fun j hj => by cases hj⟩
          · have OK := Lib.hid (NEXT.out (by unfold okId; rw [decide_eq_true (show 0 ≤ x by omega), decide_eq_true (show x < 256 + (d.ms.length : Int) by omega)]; rfl))
            have d1 : decide (x ≥ 256 + (d.ms.length : Int)) = false := decide_eq_false h1
            clear h0 h1
            go_wp2_with fail
            refine (SZ.out _ (Ext.refl _ _)).mono ?_
            rintro e w' ⟨rfl, rfl⟩
            go_wp2_with fail
            go_roundw
            case rel => exact ⟨k + 1, by go_num, hlt, trivial, OK.out⟩
            case measure => simp [intOf]; omega
      · have i1 : ¬ (k : Int) < (ids.length : Int) := by omega
        have E := Lib.hid (show joinedT d ids = ((joinT d.ms ids).1, 0) from by
          have hv := HV.out
          rw [List.take_of_length_le (by omega)] at hv
          unfold joinedT
          rw [if_neg (by omega), if_pos hv])
        clear HV
        go_wp2_with fail
        refine (begin_any HM.out HD.out.pn Q.out hle).mono ?_
        rintro e w1 ⟨b, P, p2, c2, H, rfl, _, hS, hH, hB, hx⟩
        have S0 := Lib.hid (show JoSt w w1 b d ids P ids.length from ⟨ids, allAl ids.length, H, p2, c2, hS, hH, hB, by rw [cur_all], cnt_all _ _ (Nat.le_refl _), hx⟩)
        clear hS hH hB hx
        go_wp2_with fail
        go_loopg [] ids.length (fun gk wr => JoSt w wr b d ids P gk)
        case atStart => exact S0.out
        case round =>
          obtain ⟨I, al, H1, p3, c3, hS, hH, hB, hj, hg, hx⟩ := hrel
          have ST := Lib.hid (And.intro hS (And.intro hB (And.intro hj (And.intro hg hx))))
          have SP := Lib.hid (step_any hS hH hB HD.out.pn hle)
          clear hS hH hB hj hg hx S0
          go_wp2_with fail
          refine SP.out.mono ?_
          rintro e w2 ⟨y2, h⟩
          have X2 := Lib.hid (show Ext (fun _ => False) w w2 from ST.out.2.2.2.2.trans y2 (fun i hi hk => by have := ST.out.1.own hk; omega))
          rcases h with ⟨hn, rfl, c4, H4, s4, k4, v4⟩ | ⟨x, hn, hv, hb, rfl, p4, c4, H4, s4, k4, v4, m4⟩
          · have S4 := Lib.hid s4
            have J := Lib.hid (show cur I al ids.length = (joinT d.ms ids).1 from by rw [← ST.out.2.2.1, joinT_none hn])
            clear s4 k4 v4 y2 hn
            go_wp2_with fail
            refine (left_any (S4.out.on (by repeat (first | exact Ext.refl _ _ | refine Ext.drew ?_ | refine Ext.alloc ?_ _ | refine Ext.setCell ?_ (fun h => by simp at h) _)))).mono ?_
            rintro e w5 ⟨p5, c5, rfl, a5, x5, f5⟩
            have A5 := Lib.hid a5
            have X5 := Lib.hid x5
            have F5 := Lib.hid f5
            clear a5 x5 f5
            go_wp2_with fail
            go_ret2
            have hl : (joinedT d ids).1.length = cnt al ids.length := by rw [E.out, ← J.out]; exact cur_length I al ids.length
            refine ⟨p5, c5, (by rw [hl, E.out]; rfl), (by rw [hl, E.out, ← J.out]; exact A5.out), ?_, fun k hk => ?_⟩
            · exact (X2.out.trans ((Ext.refl _ _).alloc _) (fun _ _ h => h)).trans X5.out (fun _ _ h => h)
            · have h1 := F5.out k hk
              have h2 := X2.out.size
              simp at h1
              omega
          · have SJ := Lib.hid (step_join ST.out.1.len hn hv)
            have NX := Lib.hid (show JoSt w w2 b d ids P (cnt (cutAl al x.f2.toNat) ids.length) from ⟨_, _, H4, p4, c4, s4, k4, v4, by rw [← ST.out.2.2.1, SJ.out.1], rfl, X2.out⟩)
            clear s4 k4 v4 m4 hb hv hn y2
            have hg2 := ST.out.2.2.2.1
            go_wp2_with fail
            go_roundg (cnt (cutAl al x.f2.toNat) ids.length)
            case measure => have := SJ.out.2; omega
            case rel =>
              obtain ⟨I', al', H', p', c', z1, z2, z3, z4, z5, z6⟩ := NX.out
              exact ⟨I', al', H', p', c', z1.on ((Ext.refl _ _).alloc _), z2, z3, z4, z5, z6.alloc _⟩
end Go.Proofs.YtigpaaelggnffaaGreatDoor.Bpe
