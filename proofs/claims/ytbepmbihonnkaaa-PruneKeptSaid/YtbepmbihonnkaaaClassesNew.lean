/- Merged of Classes, ClassesNew. -/
import Derived.Test.YtbepmbihonnkaaaSpans
import Derived.Test.YtbepmbihonnkaaaSpanPure
/- classes.Table: Of; New makes one of right lists, or tells what is wrong. -/
namespace Go.Proofs.Ytbepmbihonnkaaa.Sl
open Go.Proofs.Ytbepmbihonnkaaa.Lib
open Go.RowKit
set_option linter.unusedVariables false
set_option linter.unusedSimpArgs false

/-- A table at a. -/
structure TabAt (N : Nat) (w : World) (a : Nat) (p0 p1 p2 : Option Addr) (c0 c1 c2 : Nat) (ls ns ss : List Spn) : Prop where
  blk : w.heap[a]? = some (.cells #[.slice p0 ls.length c0, .slice p1 ns.length c1, .slice p2 ss.length c2] 134 (0, 0))
  r0 : Rd eP w p0 ls
  r1 : Rd eP w p1 ns
  r2 : Rd eP w p2 ss
  b0 : ls.length ≤ N
  b1 : ns.length ≤ N
  b2 : ss.length ≤ N
  k0 : ls.length ≤ c0
  k1 : ns.length ≤ c1
  k2 : ss.length ≤ c2
theorem TabAt.on {N : Nat} {w w' : World} {a : Nat} {p0 p1 p2 : Option Addr} {c0 c1 c2 : Nat} {ls ns ss : List Spn} (h : TabAt N w a p0 p1 p2 c0 c1 c2 ls ns ss) (hx : Ext (fun _ => False) w w') : TabAt N w' a p0 p1 p2 c0 c1 c2 ls ns ss :=
  { h with blk := hx.obj h.blk (fun h => h), r0 := h.r0.on hx, r1 := h.r1.on hx, r2 := h.r2.on hx }
theorem idx3 (p0 p1 p2 : Option Addr) (n0 n1 n2 c0 c1 c2 : Nat) : (∀ W, (Instr.index 132 (.agg #[.slice p0 n0 c0, .slice p1 n1 c1, .slice p2 n2 c2]) (.int .i64 0)).run Try.prog W = .ok (.slice p0 n0 c0) W) ∧
    (∀ W, (Instr.index 132 (.agg #[.slice p0 n0 c0, .slice p1 n1 c1, .slice p2 n2 c2]) (.int .i64 1)).run Try.prog W = .ok (.slice p1 n1 c1) W) ∧
    (∀ W, (Instr.index 132 (.agg #[.slice p0 n0 c0, .slice p1 n1 c1, .slice p2 n2 c2]) (.int .i64 2)).run Try.prog W = .ok (.slice p2 n2 c2) W) :=
  ⟨fun W => by kernel_rfl, fun W => by kernel_rfl, fun W => by kernel_rfl⟩
def kindOf (ls ns ss : List Spn) (r : Int) : Int := if inn ls r then 1 else if inn ns r then 2 else if inn ss r then 3 else 4

set_option maxRecDepth 100000 in
set_option maxHeartbeats 1000000 in
theorem of_any (w : World) (a : Nat) (p0 p1 p2 : Option Addr) (c0 c1 c2 : Nat) (ls ns ss : List Spn) (r : Int) (H : TabAt 512 w a p0 p1 p2 c0 c1 c2 ls ns ss) (o0 : Ok ls) (o1 : Ok ns) (o2 : Ok ss) :
    Calls Try.prog 76 #[.pointer (some ⟨a, 0, none⟩), .int .i32 r] w fun e w' => e = .returned (.int .i64 (kindOf ls ns ss r)) ∧ Ext (fun _ => False) w w' := by
  have e0 := blk_cell H.blk 0
  have e1 := blk_cell H.blk 1
  have e2 := blk_cell H.blk 2
  simp at e0 e1 e2
  have C0 : ∀ W, Ext (fun _ => False) w W → Calls Try.prog 91 #[.slice p0 ls.length c0, .int .i32 r] W fun e w' => e = .returned (.bool (inn ls r)) ∧ Ext (fun _ => False) W w' := fun W hx => in_any W p0 c0 ls r (H.r0.on hx) o0 (Nat.le_trans H.b0 (by decide))
  have C1 : ∀ W, Ext (fun _ => False) w W → Calls Try.prog 91 #[.slice p1 ns.length c1, .int .i32 r] W fun e w' => e = .returned (.bool (inn ns r)) ∧ Ext (fun _ => False) W w' := fun W hx => in_any W p1 c1 ns r (H.r1.on hx) o1 (Nat.le_trans H.b1 (by decide))
  have C2 : ∀ W, Ext (fun _ => False) w W → Calls Try.prog 91 #[.slice p2 ss.length c2, .int .i32 r] W fun e w' => e = .returned (.bool (inn ss r)) ∧ Ext (fun _ => False) W w' := fun W hx => in_any W p2 c2 ss r (H.r2.on hx) o2 (Nat.le_trans H.b2 (by decide))
  obtain ⟨j0, j1, j2⟩ := idx3 p0 p1 p2 ls.length ns.length ss.length c0 c1 c2
  clear H o0 o1 o2
  obtain ⟨K, eK⟩ : ∃ K, kindOf ls ns ss r = K := ⟨_, rfl⟩
  have EK := Lib.hid eK
  rw [eK]
  clear eK
  cases h0 : inn ls r with
  | true =>
    rw [h0] at C0
    have C0 := Lib.hid C0
    have hK := Lib.hid (show K = 1 by rw [← EK.out]; unfold kindOf; rw [h0]; rfl)
    clear C1 C2 h0
    go_enter Try.func76, Try.ntmps76
    go_wp2_with fail
    refine wp_loop_rounds 1 ?_
    rw [rounds_succ]
    go_wp2_with fail
    refine (C0.out _ (Ext.refl _ _)).mono ?_
    rintro e w1 ⟨rfl, hx1⟩
    go_wp2_with fail
    go_ret
    exact ⟨by rw [hK.out]; rfl, hx1⟩
  | false =>
    rw [h0] at C0
    have C0 := Lib.hid C0
    cases h1 : inn ns r with
    | true =>
      rw [h1] at C1
      have C1 := Lib.hid C1
      have hK := Lib.hid (show K = 2 by rw [← EK.out]; unfold kindOf; rw [h0, h1]; rfl)
      clear C2 h0 h1
      go_enter Try.func76, Try.ntmps76
      go_wp2_with fail
      refine wp_loop_rounds 2 ?_
      rw [rounds_succ]
      go_wp2_with fail
      refine (C0.out _ (Ext.refl _ _)).mono ?_
      rintro e w1 ⟨rfl, hx1⟩
      have HX1 := Lib.hid hx1
      clear hx1
      go_wp2_with fail
      rw [rounds_succ]
      go_wp2_with fail
      refine (C1.out _ HX1.out).mono ?_
      rintro e w2 ⟨rfl, hx2⟩
      go_wp2_with fail
      go_ret
      exact ⟨by rw [hK.out]; rfl, HX1.out.trans hx2 (fun _ _ h => h)⟩
    | false =>
      rw [h1] at C1
      have C1 := Lib.hid C1
      cases h2 : inn ss r with
      | true =>
        rw [h2] at C2
        have C2 := Lib.hid C2
        have hK := Lib.hid (show K = 3 by rw [← EK.out]; unfold kindOf; rw [h0, h1, h2]; rfl)
        clear h0 h1 h2
        go_enter Try.func76, Try.ntmps76
        go_wp2_with fail
        refine wp_loop_rounds 3 ?_
        rw [rounds_succ]
        go_wp2_with fail
        refine (C0.out _ (Ext.refl _ _)).mono ?_
        rintro e w1 ⟨rfl, hx1⟩
        have HX1 := Lib.hid hx1
        clear hx1
        go_wp2_with fail
        rw [rounds_succ]
        go_wp2_with fail
        refine (C1.out _ HX1.out).mono ?_
        rintro e w2 ⟨rfl, hx2⟩
        have HX2 := Lib.hid (HX1.out.trans hx2 (fun _ _ h => h))
        clear hx2
        go_wp2_with fail
        rw [rounds_succ]
        go_wp2_with fail
        refine (C2.out _ HX2.out).mono ?_
        rintro e w3 ⟨rfl, hx3⟩
        go_wp2_with fail
        go_ret
        exact ⟨by rw [hK.out]; rfl, HX2.out.trans hx3 (fun _ _ h => h)⟩
      | false =>
        rw [h2] at C2
        have C2 := Lib.hid C2
        have hK := Lib.hid (show K = 4 by rw [← EK.out]; unfold kindOf; rw [h0, h1, h2]; rfl)
        clear h0 h1 h2
        go_enter Try.func76, Try.ntmps76
        go_wp2_with fail
        refine wp_loop_rounds 4 ?_
        rw [rounds_succ]
        go_wp2_with fail
        refine (C0.out _ (Ext.refl _ _)).mono ?_
        rintro e w1 ⟨rfl, hx1⟩
        have HX1 := Lib.hid hx1
        clear hx1
        go_wp2_with fail
        rw [rounds_succ]
        go_wp2_with fail
        refine (C1.out _ HX1.out).mono ?_
        rintro e w2 ⟨rfl, hx2⟩
        have HX2 := Lib.hid (HX1.out.trans hx2 (fun _ _ h => h))
        clear hx2
        go_wp2_with fail
        rw [rounds_succ]
        go_wp2_with fail
        refine (C2.out _ HX2.out).mono ?_
        rintro e w3 ⟨rfl, hx3⟩
        have HX3 := Lib.hid (HX2.out.trans hx3 (fun _ _ h => h))
        clear hx3
        go_wp2_with fail
        rw [rounds_succ]
        go_wp2_with fail
        go_ret
        exact ⟨by rw [hK.out]; rfl, HX3.out⟩

theorem firstGo_false {f : Spn → Bool} {i : Nat} {l : List Spn} (h : (firstGo f i l).2 = false) : ∀ x ∈ l, f x = false := by
  induction l generalizing i with
  | nil => intro x hx; cases hx
  | cons y t ih =>
    unfold firstGo at h
    by_cases hf : f y = true
    · rw [if_pos hf] at h; cases h
    · rw [if_neg hf] at h
      intro x hx
      rcases List.mem_cons.1 hx with rfl | hx
      · simpa using hf
      · exact ih h x hx
theorem apart_inn {a b : List Spn} (h : meet a b = (0, false)) {r : Int} (hr : inn a r = true) : inn b r = false := by
  have h1 := firstGo_false (show (meet a b).2 = false by rw [h])
  unfold inn at hr ⊢
  rw [Bool.and_eq_true, List.any_eq_true] at hr
  obtain ⟨hv, x, hx, hxr⟩ := hr
  have h2 := List.any_eq_false.1 (h1 x hx)
  rw [hv, Bool.true_and, List.any_eq_false]
  intro y hy
  have h3 := h2 y hy
  simp [touch] at h3 hxr ⊢
  omega
theorem kind_blank {ls ns ss : List Spn} (h2 : meet ss ls = (0, false)) (h3 : meet ss ns = (0, false)) : (inn ss 32 = false ∨ inn ls 39 = true ∨ inn ns 39 = true ∨ inn ss 39 = true) ↔ ¬ (kindOf ls ns ss 32 = 3 ∧ kindOf ls ns ss 39 = 4) := by
  have a1 : inn ss 32 = true → inn ls 32 = false := apart_inn h2
  have a2 : inn ss 32 = true → inn ns 32 = false := apart_inn h3
  unfold kindOf
  cases e1 : inn ss 32
  · simp
    intro h
    split at h
    · omega
    · split at h <;> omega
  · rw [a1 e1, a2 e1]
    cases inn ls 39 <;> cases inn ns 39 <;> cases inn ss 39 <;> simp
/-- A store of what is there. -/
theorem ext_same {w : World} {p : Addr} {v : Value} (h : w.cell? p = some v) : Ext (fun _ => False) w (w.setCell p v) := by
  refine ⟨rfl, rfl, rfl, by simp [World.setCell], fun k hk _ => ?_⟩
  by_cases he : k = p.block
  · subst he
    unfold World.cell? at h
    unfold World.setCell
    simp only [Array.getElem?_modify, if_true]
    cases hb : w.heap[p.block]? with
    | none => rfl
    | some o =>
      rw [hb] at h
      cases o with
      | cells c e fr =>
        simp only [Option.map_some]
        simp only at h
        by_cases hs : p.spot.isSome
        · rw [if_pos hs] at h; cases h
        · rw [if_neg hs] at h ⊢
          congr 2
          apply Array.ext_getElem?
          intro i
          rw [Array.getElem?_setIfInBounds]
          split
          · rename_i e1
            subst e1
            have := (Array.getElem?_eq_some_iff.1 h).1
            rw [if_pos this, h]
          · rfl
      | _ => rfl
  · exact Below.heap_setCell _ _ _ _ he
end Go.Proofs.Ytbepmbihonnkaaa.Sl

/- classes.New. -/
namespace Go.Proofs.Ytbepmbihonnkaaa.Sl
open Go.Proofs.Ytbepmbihonnkaaa.Lib
open Go.RowKit
set_option linter.unusedVariables false
set_option linter.unusedSimpArgs false

def TabNew (w : World) (ls ns ss : List Spn) (e : Ending) (w' : World) : Prop :=
  Ext (fun _ => False) w w' ∧ (((check4 ls ns ss).1 ≠ 0 ∧ e = .returned (.tuple #[.pointer none, .agg #[.int .i64 (check4 ls ns ss).1, .int .i64 (check4 ls ns ss).2.1, .int .i64 (check4 ls ns ss).2.2]])) ∨
    ((check4 ls ns ss).1 = 0 ∧ ∃ a p0 p1 p2 c0 c1 c2, e = .returned (.tuple #[.pointer (some ⟨a, 0, none⟩), .agg #[.int .i64 0, .int .i64 0, .int .i64 0]]) ∧ TabAt 512 w' a p0 p1 p2 c0 c1 c2 ls ns ss ∧ w.heap.size ≤ a))
theorem TabNew.bad {w w' : World} {ls ns ss : List Spn} {y l r : Int} (h : check4 ls ns ss = (y, l, r)) (hy : y ≠ 0) (hx : Ext (fun _ => False) w w') :
    TabNew w ls ns ss (.returned (.tuple #[.pointer none, .agg #[.int .i64 y, .int .i64 l, .int .i64 r]])) w' :=
  ⟨hx, .inl ⟨by rw [h]; exact hy, by rw [h]⟩⟩
/-- What stands once the table is made. -/
structure NewSt4 (N : Nat) (w w1 : World) (a : Nat) (p0 p1 p2 : Option Addr) (c0 c1 c2 : Nat) (ls ns ss : List Spn) : Prop where
  ext : Ext (fun _ => False) w w1
  tab : TabAt N w1 a p0 p1 p2 c0 c1 c2 ls ns ss
  new : w.heap.size ≤ a
  ne : a ≠ w.heap.size
  res : w1.heap[w.heap.size]? = some (.cells #[.int .i64 0, .int .i64 0, .int .i64 0] 109 (0, 0))
theorem NewSt4.on {N : Nat} {w w1 w2 : World} {a : Nat} {p0 p1 p2 : Option Addr} {c0 c1 c2 : Nat} {ls ns ss : List Spn} (h : NewSt4 N w w1 a p0 p1 p2 c0 c1 c2 ls ns ss) (hx : Ext (fun _ => False) w1 w2) : NewSt4 N w w2 a p0 p1 p2 c0 c1 c2 ls ns ss :=
  ⟨h.ext.trans hx (fun _ _ h => h), h.tab.on hx, h.new, h.ne, hx.obj h.res (fun h => h)⟩

theorem NewSt4.facts {N : Nat} {w w1 : World} {a : Nat} {p0 p1 p2 : Option Addr} {c0 c1 c2 : Nat} {ls ns ss : List Spn} (h : NewSt4 N w w1 a p0 p1 p2 c0 c1 c2 ls ns ss) :
    w1.cell? ⟨a, 0, none⟩ = some (.slice p0 ls.length c0) ∧ w1.cell? ⟨a, 1, none⟩ = some (.slice p1 ns.length c1) ∧ w1.cell? ⟨a, 2, none⟩ = some (.slice p2 ss.length c2) ∧
    w1.cell? ⟨w.heap.size, 0, none⟩ = some (.int .i64 0) ∧ w1.cell? ⟨w.heap.size, 1, none⟩ = some (.int .i64 0) ∧ w1.cell? ⟨w.heap.size, 2, none⟩ = some (.int .i64 0) ∧
    w1.frozen? ⟨w.heap.size, 0, none⟩ = false ∧ w1.frozen? ⟨w.heap.size, 1, none⟩ = false ∧ w1.frozen? ⟨w.heap.size, 2, none⟩ = false :=
  ⟨blk_cell h.tab.blk 0, blk_cell h.tab.blk 1, blk_cell h.tab.blk 2, blk_cell h.res 0, blk_cell h.res 1, blk_cell h.res 2, blk_frozen h.res 0, blk_frozen h.res 1, blk_frozen h.res 2⟩
theorem NewSt4.bad {N : Nat} {w w1 : World} {a : Nat} {p0 p1 p2 : Option Addr} {c0 c1 c2 : Nat} {ls ns ss : List Spn} (h : NewSt4 N w w1 a p0 p1 p2 c0 c1 c2 ls ns ss) {u0 u1 u2 : Value} {y l r : Int} (hc : check4 ls ns ss = (y, l, r)) (hy : y ≠ 0) :
    TabNew w ls ns ss (.returned (.tuple #[.pointer none, .agg #[.int .i64 y, .int .i64 l, .int .i64 r]])) (((w1.setCell ⟨w.heap.size, 0, none⟩ u0).setCell ⟨w.heap.size, 1, none⟩ u1).setCell ⟨w.heap.size, 2, none⟩ u2) :=
  TabNew.bad hc hy (((h.ext.setCell (p := ⟨w.heap.size, 0, none⟩) (fun h => absurd h (Nat.lt_irrefl _)) _).setCell (p := ⟨w.heap.size, 1, none⟩) (fun h => absurd h (Nat.lt_irrefl _)) _).setCell (p := ⟨w.heap.size, 2, none⟩) (fun h => absurd h (Nat.lt_irrefl _)) _)
theorem meet_cases (a b : List Spn) : meet a b = (0, false) ∨ ∃ k : Nat, k < a.length ∧ meet a b = ((k : Int), true) := by
  rcases firstGo_cases (fun x => b.any (touch x)) 0 a with h | ⟨k, h1, h2⟩
  · exact .inl h
  · exact .inr ⟨k, h1, by rw [Nat.zero_add] at h2; exact h2⟩

set_option maxRecDepth 100000 in
set_option maxHeartbeats 4000000 in
theorem new4_any (w : World) (p0 p1 p2 : Option Addr) (c0 c1 c2 : Nat) (ls ns ss : List Spn) (r0 : Rd eP w p0 ls) (r1 : Rd eP w p1 ns) (r2 : Rd eP w p2 ss)
    (b0 : ls.length * 8 ≤ 140737488351232) (b1 : ns.length * 8 ≤ 140737488351232) (b2 : ss.length * 8 ≤ 140737488351232) :
    Calls Try.prog 55 #[.slice p0 ls.length c0, .slice p1 ns.length c1, .slice p2 ss.length c2] w fun e w' => TabNew w ls ns ss e w' := by
  have R0 := Lib.hid r0
  have R1 := Lib.hid r1
  have R2 := Lib.hid r2
  clear r0 r1 r2
  go_enter Try.func55, Try.ntmps55
  go_wp2_with fail
  have X0 := Lib.hid ((Ext.refl (fun _ => False) w).alloc (.cells #[.int .i64 0, .int .i64 0, .int .i64 0] 109))
  refine (cloneP _ p0 c0 ls (R0.out.on X0.out) b0).mono ?_
  rintro e w1 ⟨q0, d0, rfl, A0, hx1, n0⟩
  have A0 := Lib.hid A0
  have X1 := Lib.hid (X0.out.trans hx1 (fun _ _ h => h))
  have Y1 := Lib.hid hx1
  clear hx1
  go_wp2_with fail
  refine (cloneP _ p1 c1 ns (R1.out.on X1.out) b1).mono ?_
  rintro e w2 ⟨q1, d1, rfl, A1, hx2, n1⟩
  have A1 := Lib.hid A1
  have X2 := Lib.hid (X1.out.trans hx2 (fun _ _ h => h))
  have Y2 := Lib.hid (Y1.out.trans hx2 (fun _ _ h => h))
  have Z2 := Lib.hid hx2
  clear hx2
  go_wp2_with fail
  refine (cloneP _ p2 c2 ss (R2.out.on X2.out) b2).mono ?_
  rintro e w3 ⟨q2, d2, rfl, A2, hx3, n2⟩
  have A2 := Lib.hid A2
  have X3 := Lib.hid (X2.out.trans hx3 (fun _ _ h => h))
  have Y3 := Lib.hid (Y2.out.trans hx3 (fun _ _ h => h))
  have Z3 := Lib.hid hx3
  clear hx3 n0 n1 n2
  have s3 : w.heap.size < w3.heap.size := by have := Y3.out.size; simp at this; omega
  go_wp2_with fail
  obtain ⟨W, hW⟩ : ∃ W, w3.alloc (.cells #[.slice q0 ls.length d0, .slice q1 ns.length d1, .slice q2 ss.length d2] 134) = W := ⟨_, rfl⟩
  have S := Lib.hid (show NewSt4 17592186044416 w W w3.heap.size q0 q1 q2 d0 d1 d2 ls ns ss from by
    have hx4 : Ext (fun _ => False) w3 W := by rw [← hW]; exact (Ext.refl _ _).alloc _
    refine ⟨X3.out.trans hx4 (fun _ _ h => h), ⟨by rw [← hW]; exact heap_alloc_new w3 _, ?_, ?_, ?_, by omega, by omega, by omega, (arr_cap A0.out).1, (arr_cap A1.out).1, (arr_cap A2.out).1⟩, by omega, by omega, (Y3.out.trans hx4 (fun _ _ h => h)).obj (heap_alloc_new w _) (fun h => h)⟩
    · exact (Rd.of_arr (E := eP) A0.out).on ((Z2.out.trans Z3.out (fun _ _ h => h)).trans hx4 (fun _ _ h => h))
    · exact (Rd.of_arr (E := eP) A1.out).on (Z3.out.trans hx4 (fun _ _ h => h))
    · exact (Rd.of_arr (E := eP) A2.out).on hx4)
  rw [hW]
  clear hW X0 X1 X2 X3 Y1 Y2 Y3 Z2 Z3 A0 A1 A2 R0 R1 R2
  obtain ⟨a, ha⟩ : ∃ a, w3.heap.size = a := ⟨_, rfl⟩
  rw [ha] at S ⊢
  clear ha s3
  obtain ⟨j0, j1, j2⟩ := idx3 q0 q1 q2 ls.length ns.length ss.length d0 d1 d2
  obtain ⟨e0, e1, e2, f0, f1, f2, g0, g1, g2⟩ := S.out.facts
  refine wp_loop_rounds 4 ?_
  rw [rounds_succ]
  by_cases hA0 : 512 < ls.length
  · have i0 : (ls.length : Int) > 512 := by omega
    go_wp2_with fail
    exact bodyPost_ret (v := .tuple #[.pointer none, .agg #[.int .i64 4, .int .i64 1, .int .i64 512]]) (by simp [results, Try.f55, go_sem, f0, f1, f2]) rfl (S.out.bad (by unfold check4; rw [if_pos hA0]) (by decide))
  have k0 : (ls.length : Int) ≤ 512 := by omega
  go_wp2_with fail
  rw [rounds_succ]
  by_cases hA1 : 512 < ns.length
  · have i0 : (ns.length : Int) > 512 := by omega
    go_wp2_with fail
    exact bodyPost_ret (v := .tuple #[.pointer none, .agg #[.int .i64 4, .int .i64 2, .int .i64 512]]) (by simp [results, Try.f55, go_sem, f0, f1, f2]) rfl (S.out.bad (by unfold check4; rw [if_neg hA0]; rw [if_pos hA1]) (by decide))
  have k1 : (ns.length : Int) ≤ 512 := by omega
  go_wp2_with fail
  rw [rounds_succ]
  by_cases hA2 : 512 < ss.length
  · have i0 : (ss.length : Int) > 512 := by omega
    go_wp2_with fail
    exact bodyPost_ret (v := .tuple #[.pointer none, .agg #[.int .i64 4, .int .i64 3, .int .i64 512]]) (by simp [results, Try.f55, go_sem, f0, f1, f2]) rfl (S.out.bad (by unfold check4; rw [if_neg hA0]; rw [if_neg hA1]; rw [if_pos hA2]) (by decide))
  have k2 : (ss.length : Int) ≤ 512 := by omega
  go_wp2_with fail
  rw [rounds_succ]
  go_wp2_with fail
  have S := Lib.hid (show NewSt4 512 w W a q0 q1 q2 d0 d1 d2 ls ns ss from ⟨S.out.ext, { S.out.tab with b0 := by omega, b1 := by omega, b2 := by omega }, S.out.new, S.out.ne, S.out.res⟩)
  have q3 : ls.length ≤ 1099511627776 ∧ ns.length ≤ 1099511627776 ∧ ss.length ≤ 1099511627776 := by omega
  refine wp_loop_rounds 4 ?_
  rw [rounds_succ]
  by_cases hB0 : (right ls).2 = 0
  rotate_left
  · obtain ⟨y, hy⟩ : ∃ y, (right ls).2 = y := ⟨_, rfl⟩
    obtain ⟨r, hr⟩ : ∃ r, (right ls).1 = r := ⟨_, rfl⟩
    have C := right_any W q0 d0 ls S.out.tab.r0 S.out.tab.k0 q3.1
    rw [hy, hr] at C
    rw [hy] at hB0
    have C := Lib.hid C
    have HY := Lib.hid (And.intro hy hr)
    have hne : (y != 0) = true := by simpa using hB0
    have hwf := rightGo_why (i := 0) (prev := none) (l := ls)
    rw [show (rightGo 0 none ls).2 = y from hy] at hwf
    clear hy hr e0 e1 e2 f0 f1 f2 g0 g1 g2
    go_wp2_with fail
    refine C.out.mono ?_
    rintro e W1 ⟨rfl, hx⟩
    have S := Lib.hid (S.out.on hx)
    clear hx
    obtain ⟨e0, e1, e2, f0, f1, f2, g0, g1, g2⟩ := S.out.facts
    go_wp2_with fail
    exact bodyPost_ret (v := .tuple #[.pointer none, .agg #[.int .i64 y, .int .i64 1, .int .i64 r]]) (by simp [results, Try.f55, go_sem, f0, f1, f2]) rfl (S.out.bad (by unfold check4; rw [if_neg hA0, if_neg hA1, if_neg hA2]; rw [if_pos (by rw [HY.out.1]; exact hB0), HY.out.1, HY.out.2]) (hB0))
  have C := right_any W q0 d0 ls S.out.tab.r0 S.out.tab.k0 q3.1
  rw [show right ls = (0, 0) from rightGo_row hB0] at C
  have C := Lib.hid C
  have hB0 := Lib.hid hB0
  clear e0 e1 e2 f0 f1 f2 g0 g1 g2
  go_wp2_with fail
  refine C.out.mono ?_
  rintro e V0 ⟨rfl, hx⟩
  have S := Lib.hid (S.out.on hx)
  clear hx C
  obtain ⟨e0, e1, e2, f0, f1, f2, g0, g1, g2⟩ := S.out.facts
  go_wp2_with fail
  replace hB0 := hB0.out
  rw [rounds_succ]
  by_cases hB1 : (right ns).2 = 0
  rotate_left
  · obtain ⟨y, hy⟩ : ∃ y, (right ns).2 = y := ⟨_, rfl⟩
    obtain ⟨r, hr⟩ : ∃ r, (right ns).1 = r := ⟨_, rfl⟩
    have C := right_any V0 q1 d1 ns S.out.tab.r1 S.out.tab.k1 q3.2.1
    rw [hy, hr] at C
    rw [hy] at hB1
    have C := Lib.hid C
    have HY := Lib.hid (And.intro hy hr)
    have hne : (y != 0) = true := by simpa using hB1
    have hwf := rightGo_why (i := 0) (prev := none) (l := ns)
    rw [show (rightGo 0 none ns).2 = y from hy] at hwf
    clear hy hr e0 e1 e2 f0 f1 f2 g0 g1 g2
    go_wp2_with fail
    refine C.out.mono ?_
    rintro e W1 ⟨rfl, hx⟩
    have S := Lib.hid (S.out.on hx)
    clear hx
    obtain ⟨e0, e1, e2, f0, f1, f2, g0, g1, g2⟩ := S.out.facts
    go_wp2_with fail
    exact bodyPost_ret (v := .tuple #[.pointer none, .agg #[.int .i64 y, .int .i64 2, .int .i64 r]]) (by simp [results, Try.f55, go_sem, f0, f1, f2]) rfl (S.out.bad (by unfold check4; rw [if_neg hA0, if_neg hA1, if_neg hA2]; rw [if_neg (Decidable.not_not.2 hB0)]; rw [if_pos (by rw [HY.out.1]; exact hB1), HY.out.1, HY.out.2]) (hB1))
  have C := right_any V0 q1 d1 ns S.out.tab.r1 S.out.tab.k1 q3.2.1
  rw [show right ns = (0, 0) from rightGo_row hB1] at C
  have C := Lib.hid C
  have hB1 := Lib.hid hB1
  clear e0 e1 e2 f0 f1 f2 g0 g1 g2
  go_wp2_with fail
  refine C.out.mono ?_
  rintro e V1 ⟨rfl, hx⟩
  have S := Lib.hid (S.out.on hx)
  clear hx C
  obtain ⟨e0, e1, e2, f0, f1, f2, g0, g1, g2⟩ := S.out.facts
  go_wp2_with fail
  replace hB1 := hB1.out
  rw [rounds_succ]
  by_cases hB2 : (right ss).2 = 0
  rotate_left
  · obtain ⟨y, hy⟩ : ∃ y, (right ss).2 = y := ⟨_, rfl⟩
    obtain ⟨r, hr⟩ : ∃ r, (right ss).1 = r := ⟨_, rfl⟩
    have C := right_any V1 q2 d2 ss S.out.tab.r2 S.out.tab.k2 q3.2.2
    rw [hy, hr] at C
    rw [hy] at hB2
    have C := Lib.hid C
    have HY := Lib.hid (And.intro hy hr)
    have hne : (y != 0) = true := by simpa using hB2
    have hwf := rightGo_why (i := 0) (prev := none) (l := ss)
    rw [show (rightGo 0 none ss).2 = y from hy] at hwf
    clear hy hr e0 e1 e2 f0 f1 f2 g0 g1 g2
    go_wp2_with fail
    refine C.out.mono ?_
    rintro e W1 ⟨rfl, hx⟩
    have S := Lib.hid (S.out.on hx)
    clear hx
    obtain ⟨e0, e1, e2, f0, f1, f2, g0, g1, g2⟩ := S.out.facts
    go_wp2_with fail
    exact bodyPost_ret (v := .tuple #[.pointer none, .agg #[.int .i64 y, .int .i64 3, .int .i64 r]]) (by simp [results, Try.f55, go_sem, f0, f1, f2]) rfl (S.out.bad (by unfold check4; rw [if_neg hA0, if_neg hA1, if_neg hA2]; rw [if_neg (Decidable.not_not.2 hB0)]; rw [if_neg (Decidable.not_not.2 hB1)]; rw [if_pos (by rw [HY.out.1]; exact hB2), HY.out.1, HY.out.2]) (hB2))
  have C := right_any V1 q2 d2 ss S.out.tab.r2 S.out.tab.k2 q3.2.2
  rw [show right ss = (0, 0) from rightGo_row hB2] at C
  have C := Lib.hid C
  have hB2 := Lib.hid hB2
  clear e0 e1 e2 f0 f1 f2 g0 g1 g2
  go_wp2_with fail
  refine C.out.mono ?_
  rintro e V2 ⟨rfl, hx⟩
  have S := Lib.hid (S.out.on hx)
  clear hx C
  obtain ⟨e0, e1, e2, f0, f1, f2, g0, g1, g2⟩ := S.out.facts
  go_wp2_with fail
  replace hB2 := hB2.out
  rw [rounds_succ]
  go_wp2_with fail
  have o0 := Lib.hid (right_ok hB0)
  have o1 := Lib.hid (right_ok hB1)
  have o2 := Lib.hid (right_ok hB2)
  have N2 := Lib.hid (And.intro hB0 (And.intro hB1 hB2))
  clear hB0 hB1 hB2
  refine wp_loop_rounds 4 ?_
  rw [rounds_succ]
  go_wp2_with fail
  refine wp_loop_rounds 1 ?_
  rw [rounds_succ]
  go_wp2_with fail
  rw [rounds_succ]
  go_wp2_with fail
  refine wp_loop_rounds 2 ?_
  rw [rounds_succ]
  rcases meet_cases ns ls with hm1 | ⟨k, hk, hm1⟩
  rotate_left
  · have mk : mn (ns.length : Int) (k : Int) = k := by unfold mn; rw [if_pos (by omega)]
    have HM := Lib.hid hm1
    have C := meet_any V2 q1 q0 d1 d0 ns ls S.out.tab.r1 S.out.tab.r0 o1.out o0.out q3.2.1 q3.1
    rw [hm1] at C
    have C := Lib.hid C
    go_wp2_with fail
    clear e0 e1 e2 f0 f1 f2 g0 g1 g2
    refine C.out.mono ?_
    rintro e U1 ⟨rfl, hx⟩
    have S := Lib.hid (S.out.on hx)
    clear hx C
    obtain ⟨e0, e1, e2, f0, f1, f2, g0, g1, g2⟩ := S.out.facts
    go_wp2_with fail
    rw [rounds_succ]
    go_wp2_with fail
    exact bodyPost_ret (v := .tuple #[.pointer none, .agg #[.int .i64 16, .int .i64 2, .int .i64 k]]) (by simp [results, Try.f55, go_sem, f0, f1, f2]) rfl (S.out.bad (by unfold check4; rw [if_neg hA0, if_neg hA1, if_neg hA2]; rw [if_neg (Decidable.not_not.2 N2.out.1), if_neg (Decidable.not_not.2 N2.out.2.1), if_neg (Decidable.not_not.2 N2.out.2.2)]; rw [if_pos (by rw [HM.out]), HM.out]) (by decide))
  have M1 := Lib.hid hm1
  have C := meet_any V2 q1 q0 d1 d0 ns ls S.out.tab.r1 S.out.tab.r0 o1.out o0.out q3.2.1 q3.1
  rw [M1.out] at C
  have C := Lib.hid C
  go_wp2_with fail
  clear e0 e1 e2 f0 f1 f2 g0 g1 g2
  refine C.out.mono ?_
  rintro e U2 ⟨rfl, hx⟩
  have S := Lib.hid (S.out.on hx)
  clear hx C
  obtain ⟨e0, e1, e2, f0, f1, f2, g0, g1, g2⟩ := S.out.facts
  go_wp2_with fail
  clear hm1
  rw [rounds_succ]
  go_wp2_with fail
  rw [rounds_succ]
  go_wp2_with fail
  refine wp_loop_rounds 3 ?_
  rw [rounds_succ]
  rcases meet_cases ss ls with hm2 | ⟨k, hk, hm2⟩
  rotate_left
  · have mk : mn (ss.length : Int) (k : Int) = k := by unfold mn; rw [if_pos (by omega)]
    have M2 := Lib.hid hm2
    have C := meet_any U2 q2 q0 d2 d0 ss ls S.out.tab.r2 S.out.tab.r0 o2.out o0.out q3.2.2 q3.1
    rw [M2.out] at C
    have C := Lib.hid C
    go_wp2_with fail
    clear e0 e1 e2 f0 f1 f2 g0 g1 g2
    refine C.out.mono ?_
    rintro e U3 ⟨rfl, hx⟩
    have S := Lib.hid (S.out.on hx)
    clear hx C
    obtain ⟨e0, e1, e2, f0, f1, f2, g0, g1, g2⟩ := S.out.facts
    go_wp2_with fail
    clear hm2
    rw [rounds_succ]
    rcases meet_cases ss ns with hm3 | ⟨k2, hk2, hm3⟩
    · have M3 := Lib.hid hm3
      have C := meet_any U3 q2 q1 d2 d1 ss ns S.out.tab.r2 S.out.tab.r1 o2.out o1.out q3.2.2 q3.2.1
      rw [M3.out] at C
      have C := Lib.hid C
      go_wp2_with fail
      clear e0 e1 e2 f0 f1 f2 g0 g1 g2
      refine C.out.mono ?_
      rintro e U4 ⟨rfl, hx⟩
      have S := Lib.hid (S.out.on hx)
      clear hx C
      obtain ⟨e0, e1, e2, f0, f1, f2, g0, g1, g2⟩ := S.out.facts
      go_wp2_with fail
      rw [rounds_succ]
      go_wp2_with fail
      exact bodyPost_ret (v := .tuple #[.pointer none, .agg #[.int .i64 16, .int .i64 3, .int .i64 k]]) (by simp [results, Try.f55, go_sem, f0, f1, f2]) rfl (S.out.bad (by unfold check4; rw [if_neg hA0, if_neg hA1, if_neg hA2]; rw [if_neg (Decidable.not_not.2 N2.out.1), if_neg (Decidable.not_not.2 N2.out.2.1), if_neg (Decidable.not_not.2 N2.out.2.2)]; rw [if_neg (by rw [M1.out]; decide)]; rw [if_pos (by rw [M2.out]), if_neg (by rw [M3.out]; decide), M2.out]) (by decide))
    · have M3 := Lib.hid hm3
      have EM := Lib.hid (mn_eq (k : Int) (k2 : Int))
      have C := meet_any U3 q2 q1 d2 d1 ss ns S.out.tab.r2 S.out.tab.r1 o2.out o1.out q3.2.2 q3.2.1
      rw [M3.out] at C
      have C := Lib.hid C
      go_wp2_with fail
      clear e0 e1 e2 f0 f1 f2 g0 g1 g2
      refine C.out.mono ?_
      rintro e U5 ⟨rfl, hx⟩
      have S := Lib.hid (S.out.on hx)
      clear hx C
      obtain ⟨e0, e1, e2, f0, f1, f2, g0, g1, g2⟩ := S.out.facts
      go_wp2_with fail
      rw [rounds_succ]
      go_wp2_with fail
      exact bodyPost_ret (v := .tuple #[.pointer none, .agg #[.int .i64 16, .int .i64 3, .int .i64 (mn (k : Int) (k2 : Int))]]) (by simp [results, Try.f55, go_sem, f0, f1, f2]) rfl (S.out.bad (by unfold check4; rw [if_neg hA0, if_neg hA1, if_neg hA2]; rw [if_neg (Decidable.not_not.2 N2.out.1), if_neg (Decidable.not_not.2 N2.out.2.1), if_neg (Decidable.not_not.2 N2.out.2.2)]; rw [if_neg (by rw [M1.out]; decide)]; rw [if_pos (by rw [M2.out]), if_pos (by rw [M3.out]), M2.out, M3.out, EM.out]) (by decide))
  have M2 := Lib.hid hm2
  have C := meet_any U2 q2 q0 d2 d0 ss ls S.out.tab.r2 S.out.tab.r0 o2.out o0.out q3.2.2 q3.1
  rw [M2.out] at C
  have C := Lib.hid C
  go_wp2_with fail
  clear e0 e1 e2 f0 f1 f2 g0 g1 g2
  refine C.out.mono ?_
  rintro e U6 ⟨rfl, hx⟩
  have S := Lib.hid (S.out.on hx)
  clear hx C
  obtain ⟨e0, e1, e2, f0, f1, f2, g0, g1, g2⟩ := S.out.facts
  go_wp2_with fail
  clear hm2
  rw [rounds_succ]
  rcases meet_cases ss ns with hm3 | ⟨k, hk, hm3⟩
  rotate_left
  · have mk : mn (ss.length : Int) (k : Int) = k := by unfold mn; rw [if_pos (by omega)]
    have M3 := Lib.hid hm3
    have C := meet_any U6 q2 q1 d2 d1 ss ns S.out.tab.r2 S.out.tab.r1 o2.out o1.out q3.2.2 q3.2.1
    rw [M3.out] at C
    have C := Lib.hid C
    go_wp2_with fail
    clear e0 e1 e2 f0 f1 f2 g0 g1 g2
    refine C.out.mono ?_
    rintro e U7 ⟨rfl, hx⟩
    have S := Lib.hid (S.out.on hx)
    clear hx C
    obtain ⟨e0, e1, e2, f0, f1, f2, g0, g1, g2⟩ := S.out.facts
    go_wp2_with fail
    rw [rounds_succ]
    go_wp2_with fail
    exact bodyPost_ret (v := .tuple #[.pointer none, .agg #[.int .i64 16, .int .i64 3, .int .i64 k]]) (by simp [results, Try.f55, go_sem, f0, f1, f2]) rfl (S.out.bad (by unfold check4; rw [if_neg hA0, if_neg hA1, if_neg hA2]; rw [if_neg (Decidable.not_not.2 N2.out.1), if_neg (Decidable.not_not.2 N2.out.2.1), if_neg (Decidable.not_not.2 N2.out.2.2)]; rw [if_neg (by rw [M1.out]; decide)]; rw [if_neg (by rw [M2.out]; decide)]; rw [if_pos (by rw [M3.out]), M3.out]) (by decide))
  have M3 := Lib.hid hm3
  have C := meet_any U6 q2 q1 d2 d1 ss ns S.out.tab.r2 S.out.tab.r1 o2.out o1.out q3.2.2 q3.2.1
  rw [M3.out] at C
  have C := Lib.hid C
  go_wp2_with fail
  clear e0 e1 e2 f0 f1 f2 g0 g1 g2
  refine C.out.mono ?_
  rintro e U8 ⟨rfl, hx⟩
  have S := Lib.hid (S.out.on hx)
  clear hx C
  obtain ⟨e0, e1, e2, f0, f1, f2, g0, g1, g2⟩ := S.out.facts
  go_wp2_with fail
  clear hm3
  rw [rounds_succ]
  go_wp2_with fail
  rw [rounds_succ]
  go_wp2_with fail
  obtain ⟨z, hz⟩ : ∃ z, kindOf ls ns ss 32 = z := ⟨_, rfl⟩
  obtain ⟨y, hy⟩ : ∃ y, kindOf ls ns ss 39 = y := ⟨_, rfl⟩
  have HZ := Lib.hid hz
  have HY := Lib.hid hy
  clear hz hy
  have KB := Lib.hid (kind_blank (ls := ls) (ns := ns) (ss := ss) M2.out M3.out)
  by_cases hz : z = 3
  · by_cases hy : y = 4
    · subst hz
      subst hy
      have C := of_any U8 a q0 q1 q2 d0 d1 d2 ls ns ss 32 S.out.tab o0.out o1.out o2.out
      rw [HZ.out] at C
      have C := Lib.hid C
      clear e0 e1 e2 f0 f1 f2 g0 g1 g2
      refine C.out.mono ?_
      rintro e U9 ⟨rfl, hx⟩
      have S := Lib.hid (S.out.on hx)
      clear hx C
      obtain ⟨e0, e1, e2, f0, f1, f2, g0, g1, g2⟩ := S.out.facts
      go_wp2_with fail
      have C := of_any U9 a q0 q1 q2 d0 d1 d2 ls ns ss 39 S.out.tab o0.out o1.out o2.out
      rw [HY.out] at C
      have C := Lib.hid C
      clear e0 e1 e2 f0 f1 f2 g0 g1 g2
      refine C.out.mono ?_
      rintro e U10 ⟨rfl, hx⟩
      have S := Lib.hid (S.out.on hx)
      clear hx C
      obtain ⟨e0, e1, e2, f0, f1, f2, g0, g1, g2⟩ := S.out.facts
      go_wp2_with fail
      refine bodyPost_ret (v := .tuple #[.pointer (some ⟨a, 0, none⟩), .agg #[.int .i64 0, .int .i64 0, .int .i64 0]]) (by simp [results, Try.f55, go_sem, f0, f1, f2]) rfl ?_
      have x1 := ext_same f0
      have x2 := ext_same (v := .int .i64 0) ((x1.cell (p := ⟨w.heap.size, 1, none⟩) (blk_lt S.out.res) (fun h => h)).trans f1)
      have x12 := x1.trans x2 (fun _ _ h => h)
      have x3 := ext_same (v := .int .i64 0) ((x12.cell (p := ⟨w.heap.size, 2, none⟩) (blk_lt S.out.res) (fun h => h)).trans f2)
      have S' := S.out.on (x12.trans x3 (fun _ _ h => h))
      refine ⟨S'.ext, .inr ⟨?_, a, q0, q1, q2, d0, d1, d2, rfl, S'.tab, S'.new⟩⟩
      unfold check4; rw [if_neg hA0, if_neg hA1, if_neg hA2]; rw [if_neg (Decidable.not_not.2 N2.out.1), if_neg (Decidable.not_not.2 N2.out.2.1), if_neg (Decidable.not_not.2 N2.out.2.2)]; rw [if_neg (by rw [M1.out]; decide)]; rw [if_neg (by rw [M2.out]; decide)]; rw [if_neg (by rw [M3.out]; decide)]; rw [if_neg (fun h => KB.out.1 h ⟨HZ.out, HY.out⟩)]
    · subst hz
      have hne : (y != 4) = true := by simpa using hy
      have C := of_any U8 a q0 q1 q2 d0 d1 d2 ls ns ss 32 S.out.tab o0.out o1.out o2.out
      rw [HZ.out] at C
      have C := Lib.hid C
      clear e0 e1 e2 f0 f1 f2 g0 g1 g2
      refine C.out.mono ?_
      rintro e U11 ⟨rfl, hx⟩
      have S := Lib.hid (S.out.on hx)
      clear hx C
      obtain ⟨e0, e1, e2, f0, f1, f2, g0, g1, g2⟩ := S.out.facts
      go_wp2_with fail
      have C := of_any U11 a q0 q1 q2 d0 d1 d2 ls ns ss 39 S.out.tab o0.out o1.out o2.out
      rw [HY.out] at C
      have C := Lib.hid C
      clear e0 e1 e2 f0 f1 f2 g0 g1 g2
      refine C.out.mono ?_
      rintro e U12 ⟨rfl, hx⟩
      have S := Lib.hid (S.out.on hx)
      clear hx C
      obtain ⟨e0, e1, e2, f0, f1, f2, g0, g1, g2⟩ := S.out.facts
      go_wp2_with fail
      exact bodyPost_ret (v := .tuple #[.pointer none, .agg #[.int .i64 20, .int .i64 3, .int .i64 0]]) (by simp [results, Try.f55, go_sem, f0, f1, f2]) rfl (S.out.bad (by unfold check4; rw [if_neg hA0, if_neg hA1, if_neg hA2]; rw [if_neg (Decidable.not_not.2 N2.out.1), if_neg (Decidable.not_not.2 N2.out.2.1), if_neg (Decidable.not_not.2 N2.out.2.2)]; rw [if_neg (by rw [M1.out]; decide)]; rw [if_neg (by rw [M2.out]; decide)]; rw [if_neg (by rw [M3.out]; decide)]; rw [if_pos (KB.out.2 (fun h => hy (by rw [← HY.out]; exact h.2)))]) (by decide))
  · have hne : (z != 3) = true := by simpa using hz
    have C := of_any U8 a q0 q1 q2 d0 d1 d2 ls ns ss 32 S.out.tab o0.out o1.out o2.out
    rw [HZ.out] at C
    have C := Lib.hid C
    clear e0 e1 e2 f0 f1 f2 g0 g1 g2
    refine C.out.mono ?_
    rintro e U13 ⟨rfl, hx⟩
    have S := Lib.hid (S.out.on hx)
    clear hx C
    obtain ⟨e0, e1, e2, f0, f1, f2, g0, g1, g2⟩ := S.out.facts
    go_wp2_with fail
    exact bodyPost_ret (v := .tuple #[.pointer none, .agg #[.int .i64 20, .int .i64 3, .int .i64 0]]) (by simp [results, Try.f55, go_sem, f0, f1, f2]) rfl (S.out.bad (by unfold check4; rw [if_neg hA0, if_neg hA1, if_neg hA2]; rw [if_neg (Decidable.not_not.2 N2.out.1), if_neg (Decidable.not_not.2 N2.out.2.1), if_neg (Decidable.not_not.2 N2.out.2.2)]; rw [if_neg (by rw [M1.out]; decide)]; rw [if_neg (by rw [M2.out]; decide)]; rw [if_neg (by rw [M3.out]; decide)]; rw [if_pos (KB.out.2 (fun h => hz (by rw [← HZ.out]; exact h.1)))]) (by decide))
end Go.Proofs.Ytbepmbihonnkaaa.Sl
