/- spans.In, spans.Meet, spans.Right, spans.Size of one span. -/
import Derived.Test.YtbepmbihonnkaaaSpanR
import Derived.Test.YtbepmbihonnkaaaSearch
import Derived.StillTailTactics
import Derived.LoopN
namespace Go.Proofs.Ytbepmbihonnkaaa.Sl
open Go.Proofs.Ytbepmbihonnkaaa.Lib
open Go.RowKit
set_option linter.unusedVariables false
set_option linter.unusedSimpArgs false

set_option maxHeartbeats 1000000 in
theorem in_any (w : World) (p : Option Addr) (c : Nat) (l : List Spn) (r : Int) (H : Rd eP w p l) (hok : Ok l) (hl : l.length ≤ 1099511627776) :
    Calls Try.prog 91 #[.slice p l.length c, .int .i32 r] w fun e w' => e = .returned (.bool (inn l r)) ∧ Ext (fun _ => False) w w' := by
  have HR := Lib.hid H
  have HO := Lib.hid hok
  have F := inn_find hok r
  by_cases hv : valid r = true
  · have hv2 : ∀ W, Calls Try.prog 88 #[.int .i32 r] W fun e w' => e = .returned (.bool true) ∧ Ext (fun _ => False) W w' := fun W => by
      have := valid_any r W
      rwa [hv] at this
    have HV := Lib.hid hv2
    rw [hv] at F
    cases e : l[find l r]? with
    | some y =>
      rw [e] at F
      simp only [Bool.true_and] at F
      have HF := Lib.hid F
      have hlt : find l r < l.length := (List.getElem?_eq_some_iff.1 e).1
      have i1 : (find l r : Int) < (l.length : Int) := by omega
      have HE := Lib.hid e
      clear e F hv hv2 H hok
      go_enter Try.func91, Try.ntmps91
      go_wp2_with fail
      refine (find_any w p c l r HR.out HO.out hl).mono ?_
      rintro e w1 ⟨rfl, hx1⟩
      have HX1 := Lib.hid hx1
      clear hx1
      go_wp2_with fail
      refine (HV.out w1).mono ?_
      rintro e w2 ⟨rfl, hx2⟩
      have HX := Lib.hid (HX1.out.trans hx2 (fun _ _ h => h))
      obtain ⟨b, o, rfl, hb, e0, e1⟩ := (HR.out.on HX.out).cellP HE.out
      clear hx2
      go_wp2_with fail
      go_ret
      exact ⟨by rw [HF.out]; rfl, HX.out⟩
    | none =>
      rw [e] at F
      have HF := Lib.hid F
      have hge := List.getElem?_eq_none_iff.1 e
      have i1 : ¬ (find l r : Int) < (l.length : Int) := by omega
      clear e F hv hv2 H hok
      go_enter Try.func91, Try.ntmps91
      go_wp2_with fail
      refine (find_any w p c l r HR.out HO.out hl).mono ?_
      rintro e w1 ⟨rfl, hx1⟩
      have HX1 := Lib.hid hx1
      clear hx1
      go_wp2_with fail
      refine (HV.out w1).mono ?_
      rintro e w2 ⟨rfl, hx2⟩
      have HX := Lib.hid (HX1.out.trans hx2 (fun _ _ h => h))
      clear hx2
      go_wp2_with fail
      go_ret
      exact ⟨by rw [HF.out]; rfl, HX.out⟩
  · have hv' : valid r = false := by simpa using hv
    have hv2 : ∀ W, Calls Try.prog 88 #[.int .i32 r] W fun e w' => e = .returned (.bool false) ∧ Ext (fun _ => False) W w' := fun W => by
      have := valid_any r W
      rwa [hv'] at this
    have HV := Lib.hid hv2
    rw [hv', Bool.false_and] at F
    have HF := Lib.hid F
    clear F hv hv' hv2 H hok
    go_enter Try.func91, Try.ntmps91
    go_wp2_with fail
    refine (find_any w p c l r HR.out HO.out hl).mono ?_
    rintro e w1 ⟨rfl, hx1⟩
    have HX1 := Lib.hid hx1
    clear hx1
    go_wp2_with fail
    refine (HV.out w1).mono ?_
    rintro e w2 ⟨rfl, hx2⟩
    have HX := Lib.hid (HX1.out.trans hx2 (fun _ _ h => h))
    clear hx2
    go_wp2_with fail
    go_ret
    exact ⟨by rw [HF.out]; rfl, HX.out⟩

set_option maxRecDepth 100000 in
set_option maxHeartbeats 2000000 in
theorem meet_any (w : World) (p q : Option Addr) (c d : Nat) (a b : List Spn) (HA : Rd eP w p a) (HB : Rd eP w q b) (oa : Ok a) (ob : Ok b) (ha : a.length ≤ 1099511627776) (hb : b.length ≤ 1099511627776) :
    Calls Try.prog 75 #[.slice p a.length c, .slice q b.length d] w fun e w' => e = .returned (.tuple #[.int .i64 (meet a b).1, .bool (meet a b).2]) ∧ Ext (fun _ => False) w w' := by
  have HA := Lib.hid HA
  have HB := Lib.hid HB
  have OA := Lib.hid oa
  have OB := Lib.hid ob
  clear oa ob
  go_enter Try.func75, Try.ntmps75
  go_wp2_with fail
  go_loopw [12] (fun i wr => ∃ k : Nat, k ≤ a.length ∧ i = .int .i64 k ∧ Ext (fun _ => False) w wr ∧ ∀ j y, j < k → a[j]? = some y → b.any (touch y) = false) (fun i _ => a.length - (intOf i).toNat)
  case atStart => exact ⟨0, Nat.zero_le _, rfl, Ext.refl _ _, fun j y hj => absurd hj (Nat.not_lt_zero _)⟩
  case round =>
    obtain ⟨k, hk, rfl, hx, hno⟩ := hrel
    have HX := Lib.hid hx
    have HN := Lib.hid hno
    clear hx hno
    by_cases hlt : k < a.length
    · obtain ⟨x, ex⟩ : ∃ x, a[k]? = some x := ⟨_, List.getElem?_eq_getElem hlt⟩
      obtain ⟨b0, o0, rfl, hb0, e0, e1⟩ := (HA.out.on HX.out).cellP ex
      have EX := Lib.hid ex
      have T := Lib.hid (touch_find OB.out x)
      have V := OA.out.1 x (List.mem_of_getElem? EX.out)
      have i1 : (k : Int) < (a.length : Int) := by omega
      clear ex
      go_wp2_with fail
      refine (find_any _ q d b x.lo (HB.out.on (HX.out.alloc _)) OB.out hb).mono ?_
      rintro e w1 ⟨rfl, hx1⟩
      have hx1' := Lib.hid (HX.out.trans (((Ext.refl _ wr).alloc (.cells #[.int .i32 x.lo, .int .i32 x.hi] 94)).trans hx1 (fun _ _ h => h)) (fun _ _ h => h))
      have c0 := blk_cell (hx1.obj (heap_alloc_new wr _) (fun h => h)) 0
      have c1 := blk_cell (hx1.obj (heap_alloc_new wr _) (fun h => h)) 1
      simp at c0 c1
      clear hx1 e0 e1
      go_wp2_with fail
      cases ey : b[find b x.lo]? with
      | none =>
        have T2 : b.any (touch x) = false := by
          have := T.out
          rw [ey] at this
          exact this
        have HT := Lib.hid T2
        have hge := List.getElem?_eq_none_iff.1 ey
        have d1 : decide (find b x.lo < b.length) = false := decide_eq_false (by omega)
        clear T2 ey
        refine wp_loop_rounds 1 ?_
        rw [rounds_succ]
        go_wp2_with fail
        go_quiet (fail)
        go_wp2_with fail
        go_roundw
        case rel => exact ⟨k + 1, by omega, by go_num, hx1'.out.drewN _, fun j y hj hy => by
          rcases Nat.lt_or_ge j k with h | h
          · exact HN.out j y h hy
          · obtain rfl : j = k := by omega
            rw [EX.out] at hy; cases hy; exact HT.out⟩
        case measure => simp [intOf]; omega
      | some y =>
        have hlt2 : find b x.lo < b.length := (List.getElem?_eq_some_iff.1 ey).1
        have d1 : decide (find b x.lo < b.length) = true := decide_eq_true (by omega)
        have T2 : b.any (touch x) = decide (y.lo ≤ x.hi) := by
          have := T.out
          rw [ey] at this
          exact this
        have V2 := OB.out.1 y (List.mem_of_getElem? ey)
        have FA := Lib.hid (find_at ey)
        obtain ⟨b1, o1, rfl, hb1, d0, d2⟩ := (HB.out.on hx1'.out).cellP ey
        clear ey
        by_cases hy : y.lo ≤ x.hi
        · have d3 : decide (y.lo ≤ x.hi) = true := decide_eq_true hy
          have i2 : (find b x.lo : Int) < (b.length : Int) := by omega
          rw [d3] at T2
          have HT := Lib.hid T2
          clear T2
          refine wp_loop_rounds 1 ?_
          rw [rounds_succ]
          go_wp2_with fail
          go_quiet (fail)
          go_wp2_with fail
          obtain ⟨w2, hw2⟩ : ∃ w2, w1.drewN nq = w2 := ⟨_, rfl⟩
          rw [hw2]
          have HX2 := Lib.hid (show Ext (fun _ => False) w w2 by rw [← hw2]; exact hx1'.out.drewN nq)
          have c0' : w2.cell? ⟨wr.heap.size, 0, none⟩ = some (.int .i32 x.lo) := by rw [← hw2]; exact c0
          have c1' : w2.cell? ⟨wr.heap.size, 1, none⟩ = some (.int .i32 x.hi) := by rw [← hw2]; exact c1
          have d0' : w2.cell? ⟨b1, o1 + find b x.lo * 2, none⟩ = some (.int .i32 y.lo) := by rw [← hw2]; exact d0
          have d2' : w2.cell? ⟨b1, o1 + find b x.lo * 2 + 1, none⟩ = some (.int .i32 y.hi) := by rw [← hw2]; exact d2
          have hb1' : b1 < w2.heap.size := World.block_lt_of_cell? w2 ⟨b1, _, none⟩ d0'
          have hb2' : wr.heap.size < w2.heap.size := World.block_lt_of_cell? w2 ⟨wr.heap.size, 0, none⟩ c0'
          clear hw2 c0 c1 d0 d2
          go_region
          go_wp2_with fail
          have vlo : valid (mx x.lo y.lo) = true := by unfold mx; split; exact V2.1; exact V.1
          have vhi : valid (mn x.hi y.hi) = true := by unfold mn; split; exact V2.2.1; exact V.2.1
          have hle : mx x.lo y.lo ≤ mn x.hi y.hi := by have := FA.out; unfold mx mn; split <;> split <;> omega
          refine (size1_any _ (w2.heap.size + 1) ⟨mx x.lo y.lo, mn x.hi y.hi⟩ ?_ ?_ vlo vhi hle).mono ?_
          · go_simp
          · go_simp
          rintro e w3 ⟨⟨n, hn, rfl⟩, hx3⟩
          have HX3 := Lib.hid (HX2.out.trans (((((Ext.refl (fun _ => False) w2).alloc _).alloc _).drew).trans hx3 (fun _ _ h => h)) (fun _ _ h => h))
          have HM := Lib.hid (show meet a b = ((k : Int), true) from by
            have := firstGo_at (i := 0) EX.out HT.out HN.out
            rw [Nat.zero_add] at this
            exact this)
          clear hx3
          go_wp2_with fail
          go_ret2
          exact ⟨by rw [HM.out]; rfl, HX3.out⟩
        · have d3 : decide (y.lo ≤ x.hi) = false := decide_eq_false hy
          rw [d3] at T2
          have HT := Lib.hid T2
          clear T2
          refine wp_loop_rounds 1 ?_
          rw [rounds_succ]
          go_wp2_with fail
          go_quiet (fail)
          go_wp2_with fail
          go_roundw
          case rel => exact ⟨k + 1, by omega, by go_num, hx1'.out.drewN _, fun j z hj hz => by
            rcases Nat.lt_or_ge j k with h | h
            · exact HN.out j z h hz
            · obtain rfl : j = k := by omega
              rw [EX.out] at hz; cases hz; exact HT.out⟩
          case measure => simp [intOf]; omega
    · have hk2 : k = a.length := by omega
      subst hk2
      have hm : meet a b = (0, false) := firstGo_none (fun x hx => by
        obtain ⟨j, hj, rfl⟩ := List.getElem_of_mem hx
        exact HN.out j _ hj (List.getElem?_eq_getElem hj))
      have HM := Lib.hid hm
      clear hm
      go_wp2_with fail
      go_ret2
      exact ⟨by rw [HM.out]; rfl, HX.out⟩
end Go.Proofs.Ytbepmbihonnkaaa.Sl
