/- tesserabook.Same at strings, merges, spans; tesserakeep.Same of equal data. -/
import Derived.Test.YtbepmbihonnkaaaModelPairs
import Derived.BigQuiet
import Derived.Deep.QuietTactic
import Derived.WalkLawsBesides
namespace Go.Proofs.Ytbepmbihonnkaaa.Sl
open Go.Proofs.Ytbepmbihonnkaaa.Lib
open Go.RowKit
set_option linter.unusedVariables false
set_option linter.unusedSimpArgs false

theorem mrg_equalIn (d : Nat) (w : World) (x y : Mrg) : (Op.equalIn (d + 2) 35 (.agg #[.int .i64 x.l, .int .i64 x.r, .int .i64 x.i]) (.agg #[.int .i64 y.l, .int .i64 y.r, .int .i64 y.i])).run Try.prog w = .ok (decide (x = y)) w := by
  have hu := Try.underlying35
  have hi0 := Try.underlying3
  rw [run_equalIn_struct w (d + 1) _ _ _ (by kernel_rfl) (by kernel_rfl)]
  by_cases e0 : x.l = y.l
  · by_cases e1 : x.r = y.r
    · by_cases e2 : x.i = y.i
      · obtain rfl : x = y := by cases x; cases y; simp_all
        simp [go_sem, hu, hi0, run_equalIn_int, run_equalIn_string, run_equalIn_bool']
      · have hne : x ≠ y := fun h => e2 (by rw [h])
        simp [go_sem, hu, hi0, run_equalIn_int, run_equalIn_string, run_equalIn_bool', e0, e1, e2, hne]
    · have hne : x ≠ y := fun h => e1 (by rw [h])
      simp [go_sem, hu, hi0, run_equalIn_int, run_equalIn_string, run_equalIn_bool', e0, e1, hne]
  · have hne : x ≠ y := fun h => e0 (by rw [h])
    simp [go_sem, hu, hi0, run_equalIn_int, run_equalIn_string, run_equalIn_bool', e0, hne]
theorem mrg_neq (x y : Mrg) (w : World) : (binOp .neq 35 (.agg #[.int .i64 x.l, .int .i64 x.r, .int .i64 x.i]) (.agg #[.int .i64 y.l, .int .i64 y.r, .int .i64 y.i])).run Try.prog w = .ok (.bool (!decide (x = y))) w := by
  have h := mrg_equalIn 9998 w x y
  simp only [binOp]
  simp [Op.equal, Op.maxDepth, h]
theorem spn_equalIn (d : Nat) (w : World) (x y : Spn) : (Op.equalIn (d + 2) 94 (.agg #[.int .i32 x.lo, .int .i32 x.hi]) (.agg #[.int .i32 y.lo, .int .i32 y.hi])).run Try.prog w = .ok (decide (x = y)) w := by
  have hu := Try.underlying94
  have hi0 := Try.underlying21
  rw [run_equalIn_struct w (d + 1) _ _ _ (by kernel_rfl) (by kernel_rfl)]
  by_cases e0 : x.lo = y.lo
  · by_cases e1 : x.hi = y.hi
    · obtain rfl : x = y := by cases x; cases y; simp_all
      simp [go_sem, hu, hi0, run_equalIn_int, run_equalIn_string, run_equalIn_bool']
    · have hne : x ≠ y := fun h => e1 (by rw [h])
      simp [go_sem, hu, hi0, run_equalIn_int, run_equalIn_string, run_equalIn_bool', e0, e1, hne]
  · have hne : x ≠ y := fun h => e0 (by rw [h])
    simp [go_sem, hu, hi0, run_equalIn_int, run_equalIn_string, run_equalIn_bool', e0, hne]
theorem spn_neq (x y : Spn) (w : World) : (binOp .neq 94 (.agg #[.int .i32 x.lo, .int .i32 x.hi]) (.agg #[.int .i32 y.lo, .int .i32 y.hi])).run Try.prog w = .ok (.bool (!decide (x = y))) w := by
  have h := spn_equalIn 9998 w x y
  simp only [binOp]
  simp [Op.equal, Op.maxDepth, h]
theorem str_neq_t {x y : ByteArray} (h : x ≠ y) : (x.toList != y.toList) = true ∧ (x.toList == y.toList) = false := by
  have e : (x.toList == y.toList) = false := by rw [str_beq]; exact decide_eq_false h
  exact ⟨by unfold bne; rw [e]; rfl, e⟩
theorem str_neq_f (x : ByteArray) : (x.toList != x.toList) = false ∧ (x.toList == x.toList) = true := by
  have e : (x.toList == x.toList) = true := by rw [str_beq]; exact decide_eq_true rfl
  exact ⟨by unfold bne; rw [e]; rfl, e⟩
set_option maxRecDepth 100000 in
set_option maxHeartbeats 2000000 in
theorem sameS_any (w : World) (p q : Option Addr) (c c2 : Nat) (xs ys : List ByteArray) (hx : Rd eS w p xs) (hy : Rd eS w q ys) (hl : xs.length ≤ 1125899906842624) :
    Calls Try.prog 46 #[.slice p xs.length c, .slice q ys.length c2] w fun e w' => e = .returned (.bool (decide (xs = ys))) ∧ Ext (fun _ => False) w w' := by
  have HX := Lib.hid hx
  have HY := Lib.hid hy
  clear hx hy
  by_cases hlen : xs.length = ys.length
  · have LE := Lib.hid hlen
    rw [← hlen]
    clear hlen
    go_enter Try.func46, Try.ntmps46
    go_wp2_with fail
    go_loopw [5] (fun i wr => ∃ n : Nat, i = .int .i64 n ∧ n ≤ xs.length ∧ xs.take n = ys.take n ∧ Ext (fun _ => False) w wr) (fun i _ => xs.length - (intOf i).toNat)
    case atStart => exact ⟨0, rfl, Nat.zero_le _, rfl, Ext.refl _ _⟩
    case round =>
      obtain ⟨n, rfl, hn, hsame, hx⟩ := hrel
      have SM := Lib.hid hsame
      have EX := Lib.hid hx
      clear hsame hx
      by_cases hlt : n < xs.length
      · have i1 : (n : Int) < (xs.length : Int) := by omega
        obtain ⟨x, hx⟩ : ∃ x, xs[n]? = some x := ⟨_, List.getElem?_eq_getElem hlt⟩
        obtain ⟨y, hy⟩ : ∃ y, ys[n]? = some y := ⟨_, List.getElem?_eq_getElem (by have := LE.out; omega)⟩
        obtain ⟨b, o, hp, hb, cx⟩ := (HX.out.on EX.out).cellS hx
        obtain ⟨b', o', hq, hb', cy⟩ := (HY.out.on EX.out).cellS hy
        have XN := Lib.hid hx
        have YN := Lib.hid hy
        clear hx hy
        rw [hp, hq]
        by_cases he : x = y
        · subst he
          have hq := str_neq_f x
          have NX := Lib.hid (show xs.take (n + 1) = ys.take (n + 1) from by rw [List.take_add_one, List.take_add_one, SM.out, XN.out, YN.out])
          go_wp2_with fail
          go_quiet (fail)
          go_wp2_with fail
          go_roundw
          case rel => exact ⟨n + 1, by go_num, by omega, NX.out, EX.out.drewN _⟩
          case measure => simp [intOf]; omega
        · obtain ⟨hq1, hq2⟩ := str_neq_t he; have hq := hq1
          have NE := Lib.hid (show decide (xs = ys) = false from decide_eq_false (fun h => by subst h; have := XN.out.symm.trans YN.out; injection this with h; exact he h))
          go_wp2_with fail
          go_quiet (fail)
          go_wp2_with fail
          go_ret
          exact ⟨by rw [NE.out]; rfl, EX.out.drewN _⟩
      · have i1 : ¬ ((n : Int) < (xs.length : Int)) := by omega
        have EQ := Lib.hid (show decide (xs = ys) = true from decide_eq_true (by
          have := SM.out
          rwa [List.take_of_length_le (by omega), List.take_of_length_le (by have := LE.out; omega)] at this))
        go_wp2_with fail
        go_ret
        exact ⟨by rw [EQ.out]; rfl, EX.out⟩
  · have NE := Lib.hid (show decide (xs = ys) = false from decide_eq_false (fun h => hlen (by rw [h])))
    have hne : (xs.length : Int) ≠ (ys.length : Int) := by omega
    go_enter Try.func46, Try.ntmps46
    go_wp2_with fail
    go_ret
    exact ⟨by rw [NE.out]; rfl, Ext.refl _ _⟩
set_option maxRecDepth 100000 in
set_option maxHeartbeats 2000000 in
theorem sameM_any (w : World) (p q : Option Addr) (c c2 : Nat) (xs ys : List Mrg) (hx : Rd eM w p xs) (hy : Rd eM w q ys) (hl : xs.length ≤ 1125899906842624) :
    Calls Try.prog 47 #[.slice p xs.length c, .slice q ys.length c2] w fun e w' => e = .returned (.bool (decide (xs = ys))) ∧ Ext (fun _ => False) w w' := by
  have HX := Lib.hid hx
  have HY := Lib.hid hy
  clear hx hy
  by_cases hlen : xs.length = ys.length
  · have LE := Lib.hid hlen
    rw [← hlen]
    clear hlen
    go_enter Try.func47, Try.ntmps47
    go_wp2_with fail
    go_loopw [5] (fun i wr => ∃ n : Nat, i = .int .i64 n ∧ n ≤ xs.length ∧ xs.take n = ys.take n ∧ Ext (fun _ => False) w wr) (fun i _ => xs.length - (intOf i).toNat)
    case atStart => exact ⟨0, rfl, Nat.zero_le _, rfl, Ext.refl _ _⟩
    case round =>
      obtain ⟨n, rfl, hn, hsame, hx⟩ := hrel
      have SM := Lib.hid hsame
      have EX := Lib.hid hx
      clear hsame hx
      by_cases hlt : n < xs.length
      · have i1 : (n : Int) < (xs.length : Int) := by omega
        obtain ⟨x, hx⟩ : ∃ x, xs[n]? = some x := ⟨_, List.getElem?_eq_getElem hlt⟩
        obtain ⟨y, hy⟩ : ∃ y, ys[n]? = some y := ⟨_, List.getElem?_eq_getElem (by have := LE.out; omega)⟩
        obtain ⟨b, o, hp, hb, cx0, cx1, cx2⟩ := (HX.out.on EX.out).cellM hx
        obtain ⟨b', o', hq, hb', cy0, cy1, cy2⟩ := (HY.out.on EX.out).cellM hy
        have XN := Lib.hid hx
        have YN := Lib.hid hy
        clear hx hy
        rw [hp, hq]
        by_cases he : x = y
        · subst he
          have hq := fun W => mrg_neq x x W; simp only [decide_true, Bool.not_true] at hq
          have NX := Lib.hid (show xs.take (n + 1) = ys.take (n + 1) from by rw [List.take_add_one, List.take_add_one, SM.out, XN.out, YN.out])
          go_wp2_with fail
          go_quiet (fail)
          go_wp2_with fail
          go_roundw
          case rel => exact ⟨n + 1, by go_num, by omega, NX.out, EX.out.drewN _⟩
          case measure => simp [intOf]; omega
        · have hq := fun W => mrg_neq x y W; simp only [decide_eq_false he, Bool.not_false] at hq
          have NE := Lib.hid (show decide (xs = ys) = false from decide_eq_false (fun h => by subst h; have := XN.out.symm.trans YN.out; injection this with h; exact he h))
          go_wp2_with fail
          go_quiet (fail)
          go_wp2_with fail
          go_ret
          exact ⟨by rw [NE.out]; rfl, EX.out.drewN _⟩
      · have i1 : ¬ ((n : Int) < (xs.length : Int)) := by omega
        have EQ := Lib.hid (show decide (xs = ys) = true from decide_eq_true (by
          have := SM.out
          rwa [List.take_of_length_le (by omega), List.take_of_length_le (by have := LE.out; omega)] at this))
        go_wp2_with fail
        go_ret
        exact ⟨by rw [EQ.out]; rfl, EX.out⟩
  · have NE := Lib.hid (show decide (xs = ys) = false from decide_eq_false (fun h => hlen (by rw [h])))
    have hne : (xs.length : Int) ≠ (ys.length : Int) := by omega
    go_enter Try.func47, Try.ntmps47
    go_wp2_with fail
    go_ret
    exact ⟨by rw [NE.out]; rfl, Ext.refl _ _⟩
set_option maxRecDepth 100000 in
set_option maxHeartbeats 2000000 in
theorem sameP_any (w : World) (p q : Option Addr) (c c2 : Nat) (xs ys : List Spn) (hx : Rd eP w p xs) (hy : Rd eP w q ys) (hl : xs.length ≤ 1125899906842624) :
    Calls Try.prog 48 #[.slice p xs.length c, .slice q ys.length c2] w fun e w' => e = .returned (.bool (decide (xs = ys))) ∧ Ext (fun _ => False) w w' := by
  have HX := Lib.hid hx
  have HY := Lib.hid hy
  clear hx hy
  by_cases hlen : xs.length = ys.length
  · have LE := Lib.hid hlen
    rw [← hlen]
    clear hlen
    go_enter Try.func48, Try.ntmps48
    go_wp2_with fail
    go_loopw [5] (fun i wr => ∃ n : Nat, i = .int .i64 n ∧ n ≤ xs.length ∧ xs.take n = ys.take n ∧ Ext (fun _ => False) w wr) (fun i _ => xs.length - (intOf i).toNat)
    case atStart => exact ⟨0, rfl, Nat.zero_le _, rfl, Ext.refl _ _⟩
    case round =>
      obtain ⟨n, rfl, hn, hsame, hx⟩ := hrel
      have SM := Lib.hid hsame
      have EX := Lib.hid hx
      clear hsame hx
      by_cases hlt : n < xs.length
      · have i1 : (n : Int) < (xs.length : Int) := by omega
        obtain ⟨x, hx⟩ : ∃ x, xs[n]? = some x := ⟨_, List.getElem?_eq_getElem hlt⟩
        obtain ⟨y, hy⟩ : ∃ y, ys[n]? = some y := ⟨_, List.getElem?_eq_getElem (by have := LE.out; omega)⟩
        obtain ⟨b, o, hp, hb, cx0, cx1⟩ := (HX.out.on EX.out).cellP hx
        obtain ⟨b', o', hq, hb', cy0, cy1⟩ := (HY.out.on EX.out).cellP hy
        have XN := Lib.hid hx
        have YN := Lib.hid hy
        clear hx hy
        rw [hp, hq]
        by_cases he : x = y
        · subst he
          have hq := fun W => spn_neq x x W; simp only [decide_true, Bool.not_true] at hq
          have NX := Lib.hid (show xs.take (n + 1) = ys.take (n + 1) from by rw [List.take_add_one, List.take_add_one, SM.out, XN.out, YN.out])
          go_wp2_with fail
          go_quiet (fail)
          go_wp2_with fail
          go_roundw
          case rel => exact ⟨n + 1, by go_num, by omega, NX.out, EX.out.drewN _⟩
          case measure => simp [intOf]; omega
        · have hq := fun W => spn_neq x y W; simp only [decide_eq_false he, Bool.not_false] at hq
          have NE := Lib.hid (show decide (xs = ys) = false from decide_eq_false (fun h => by subst h; have := XN.out.symm.trans YN.out; injection this with h; exact he h))
          go_wp2_with fail
          go_quiet (fail)
          go_wp2_with fail
          go_ret
          exact ⟨by rw [NE.out]; rfl, EX.out.drewN _⟩
      · have i1 : ¬ ((n : Int) < (xs.length : Int)) := by omega
        have EQ := Lib.hid (show decide (xs = ys) = true from decide_eq_true (by
          have := SM.out
          rwa [List.take_of_length_le (by omega), List.take_of_length_le (by have := LE.out; omega)] at this))
        go_wp2_with fail
        go_ret
        exact ⟨by rw [EQ.out]; rfl, EX.out⟩
  · have NE := Lib.hid (show decide (xs = ys) = false from decide_eq_false (fun h => hlen (by rw [h])))
    have hne : (xs.length : Int) ≠ (ys.length : Int) := by omega
    go_enter Try.func48, Try.ntmps48
    go_wp2_with fail
    go_ret
    exact ⟨by rw [NE.out]; rfl, Ext.refl _ _⟩

theorem two_boxes (w : World) (o p : Obj) : ∃ W, (w.alloc o).alloc p = W ∧ Ext (fun _ => False) w W ∧ W.heap[w.heap.size]? = some o ∧ W.heap[w.heap.size + 1]? = some p := by
  refine ⟨_, rfl, ((Ext.refl _ _).alloc _).alloc _, blk_alloc (heap_alloc_new w _) _, ?_⟩
  have := heap_alloc_new (w.alloc o) p
  rwa [World.size_alloc] at this
set_option maxRecDepth 100000 in
set_option maxHeartbeats 2000000 in
theorem sameD_any (w : World) (La Lb : Pl) (d : Dat) (ha : DR w La d) (hb : DR w Lb d) :
    Calls Try.prog 27 #[.agg #[.slice La.p0 d.ws.length La.c0, .slice La.p1 d.ms.length La.c1, .slice La.p2 d.ls.length La.c2, .slice La.p3 d.ns.length La.c3, .slice La.p4 d.ss.length La.c4], .agg #[.slice Lb.p0 d.ws.length Lb.c0, .slice Lb.p1 d.ms.length Lb.c1, .slice Lb.p2 d.ls.length Lb.c2, .slice Lb.p3 d.ns.length Lb.c3, .slice Lb.p4 d.ss.length Lb.c4]] w fun e w' => e = .returned (.bool true) ∧ Ext (fun _ => False) w w' := by
  have HA := Lib.hid ha
  have HB := Lib.hid hb
  have l0 := ha.b0
  have l1 := ha.b1
  have l2 := ha.b2
  have l3 := ha.b3
  have l4 := ha.b4
  obtain ⟨W0, hW, hX, hA, hB⟩ := two_boxes w (.cells #[.slice La.p0 d.ws.length La.c0, .slice La.p1 d.ms.length La.c1, .slice La.p2 d.ls.length La.c2, .slice La.p3 d.ns.length La.c3, .slice La.p4 d.ss.length La.c4] 26 (0, 0)) (.cells #[.slice Lb.p0 d.ws.length Lb.c0, .slice Lb.p1 d.ms.length Lb.c1, .slice Lb.p2 d.ls.length Lb.c2, .slice Lb.p3 d.ns.length Lb.c3, .slice Lb.p4 d.ss.length Lb.c4] 26 (0, 0))
  have X0 := Lib.hid hX
  have BA0 := Lib.hid hA
  have BB0 := Lib.hid hB
  have HW := Lib.hid hW
  clear ha hb hX hA hB hW
  go_enter Try.func27, Try.ntmps27
  go_wp2_with fail
  rw [HW.out]
  refine (sameS_any W0 La.p0 Lb.p0 La.c0 Lb.c0 d.ws d.ws (HA.out.on X0.out).r0 (HB.out.on X0.out).r0 (by omega)).mono ?_
  rintro e W1 ⟨rfl, hx⟩
  have X1 := Lib.hid (X0.out.trans hx (fun _ _ h => h))
  have BA1 := Lib.hid (hx.obj BA0.out (fun h => h))
  have BB1 := Lib.hid (hx.obj BB0.out (fun h => h))
  rw [decide_eq_true (rfl : d.ws = d.ws)]
  clear hx
  have g1 := blk_cell BA1.out 1
  have h1 := blk_cell BB1.out 1
  simp at g1 h1
  go_wp2_with fail
  refine (sameM_any W1 La.p1 Lb.p1 La.c1 Lb.c1 d.ms d.ms (HA.out.on X1.out).r1 (HB.out.on X1.out).r1 (by omega)).mono ?_
  rintro e W2 ⟨rfl, hx⟩
  have X2 := Lib.hid (X1.out.trans hx (fun _ _ h => h))
  have BA2 := Lib.hid (hx.obj BA1.out (fun h => h))
  have BB2 := Lib.hid (hx.obj BB1.out (fun h => h))
  rw [decide_eq_true (rfl : d.ms = d.ms)]
  clear hx
  clear g1 h1
  have g2 := blk_cell BA2.out 2
  have h2 := blk_cell BB2.out 2
  simp at g2 h2
  go_wp2_with fail
  refine (sameP_any W2 La.p2 Lb.p2 La.c2 Lb.c2 d.ls d.ls (HA.out.on X2.out).r2 (HB.out.on X2.out).r2 (by omega)).mono ?_
  rintro e W3 ⟨rfl, hx⟩
  have X3 := Lib.hid (X2.out.trans hx (fun _ _ h => h))
  have BA3 := Lib.hid (hx.obj BA2.out (fun h => h))
  have BB3 := Lib.hid (hx.obj BB2.out (fun h => h))
  rw [decide_eq_true (rfl : d.ls = d.ls)]
  clear hx
  clear g2 h2
  have g3 := blk_cell BA3.out 3
  have h3 := blk_cell BB3.out 3
  simp at g3 h3
  go_wp2_with fail
  refine (sameP_any W3 La.p3 Lb.p3 La.c3 Lb.c3 d.ns d.ns (HA.out.on X3.out).r3 (HB.out.on X3.out).r3 (by omega)).mono ?_
  rintro e W4 ⟨rfl, hx⟩
  have X4 := Lib.hid (X3.out.trans hx (fun _ _ h => h))
  have BA4 := Lib.hid (hx.obj BA3.out (fun h => h))
  have BB4 := Lib.hid (hx.obj BB3.out (fun h => h))
  rw [decide_eq_true (rfl : d.ns = d.ns)]
  clear hx
  clear g3 h3
  have g4 := blk_cell BA4.out 4
  have h4 := blk_cell BB4.out 4
  simp at g4 h4
  go_wp2_with fail
  refine (sameP_any W4 La.p4 Lb.p4 La.c4 Lb.c4 d.ss d.ss (HA.out.on X4.out).r4 (HB.out.on X4.out).r4 (by omega)).mono ?_
  rintro e W5 ⟨rfl, hx⟩
  have X5 := Lib.hid (X4.out.trans hx (fun _ _ h => h))
  have BA5 := Lib.hid (hx.obj BA4.out (fun h => h))
  have BB5 := Lib.hid (hx.obj BB4.out (fun h => h))
  rw [decide_eq_true (rfl : d.ss = d.ss)]
  clear hx
  clear g4 h4
  go_wp2_with fail
  go_ret
  exact ⟨rfl, X5.out⟩
end Go.Proofs.Ytbepmbihonnkaaa.Sl
