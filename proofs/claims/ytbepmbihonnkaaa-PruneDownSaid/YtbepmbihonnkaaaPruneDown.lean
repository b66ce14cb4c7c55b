/- law24.PruneDown. -/
import Derived.Test.YtbepmbihonnkaaaDown24
import Derived.Test.YtbepmbihonnkaaaRoomI
import Derived.Test.YtbepmbihonnkaaaRowKit
namespace Go.Proofs.Ytbepmbihonnkaaa.Sl
open Go.Proofs.Ytbepmbihonnkaaa.Lib hiding mn
open Go.RowKit Go.Proofs.YtbepmbihonnkaaaW.PrintLast
set_option linter.unusedVariables false
set_option linter.unusedSimpArgs false

theorem rd_came {w : World} {p : Option Addr} {len : Nat} {ys : Nat → Int} (h : RowK.CameInts .i64 w p len ys) : Rd eI w p ((List.range len).map ys) := by
  intro i x hi
  rw [List.getElem?_map] at hi
  by_cases hl : i < len
  · rw [List.getElem?_range hl] at hi
    injection hi with hi
    obtain ⟨b, o, hp, hb, hc⟩ := h i hl
    refine ⟨b, o, hp, hb, fun j hj => ?_⟩
    have : j = 0 := by have : eI.sz = 1 := rfl; omega
    subst this
    rw [← hi]
    simpa [eI] using hc
  · rw [List.getElem?_eq_none (by simp; omega)] at hi
    cases hi
theorem inI_of {n : Int} (h : (Lit.int .i64 n).wf = true) : inI n := by
  unfold inI
  simp [Lit.wf, IntKind.min, IntKind.max, IntKind.signed, IntKind.bits] at h
  omega
theorem isId_no {d : Dat} {id : Int} (h : isId d.ms id = false) {n : Nat} {y : Mrg} (hy : d.ms[n]? = some y) : y.i ≠ id := fun e => by
  have := isId_iff.2 ⟨n, y, hy, e⟩
  rw [h] at this
  cases this
theorem isId_take {l : List Mrg} {n : Nat} {y : Mrg} {id : Int} (hy : l[n]? = some y) : isId (l.take (n + 1)) id = (isId (l.take n) id || decide (y.i = id)) := by
  unfold isId
  rw [List.take_add_one, hy, List.any_append]
  simp
def Rtesseralaw24_PruneDown_15.T : Bool × List (List Nat × List Nat) := (true, [([], []), ([], []), ([0, 1], [0, 1]), ([2], [2]), ([3], [3]), ([4, 3], [3, 4]), ([5, 3, 3], [3, 5]), ([6], [6]), ([7, 6], [6, 7]), ([8, 6, 6], [6, 8]), ([9], [9]), ([10, 9], [9, 10]), ([9, 11, 6], [6, 9, 11]), ([6, 12, 3], [3, 6, 12]), ([3, 13], [3, 13]), ([14, 9], [14]), ([15], [15]), ([15], [15]), ([16, 17, 15, 15], [15, 16, 17]), ([15], [15]), ([15], [15]), ([19, 20, 18, 15], [15, 19, 20]), ([18, 21, 15], [15, 18, 21]), ([15, 22], [15, 22])])
theorem Rtesseralaw24_PruneDown_15.tab : rtab .any (opsOf Try.f3 15) = Rtesseralaw24_PruneDown_15.T := by kernel_rfl
theorem Rtesseralaw24_PruneDown_15.bits : waitsOk Rtesseralaw24_PruneDown_15.T.2 [0, 0, 3, 7, 15, 31, 63, 127, 255, 511, 1023, 2047, 4095, 8191, 16383, 32767, 65535, 65535, 262143, 65535, 65535, 2097151, 4194303, 8388607] = true := by kernel_rfl
/-- What Parts tells: whether there is a merge, and its parts. -/
theorem parts_fine {d : Dat} (hd : RightD d) (id : Int) : ∃ (a b : Int) (s : Bool), askT d id (·.l) = (a, s) ∧ askT d id (·.r) = (b, s) ∧ isId d.ms id = s ∧ (s = false → a = 0 ∧ b = 0) ∧ (∀ (n : Nat) (y : Mrg), d.ms[n]? = some y → y.i = id → a = y.l ∧ b = y.r) := by
  by_cases h : id < 256 ∨ 256 + (d.ms.length : Int) ≤ id
  · refine ⟨0, 0, false, askT_none h, askT_none h, ?_, fun _ => ⟨rfl, rfl⟩, fun n y hy e => ?_⟩
    · cases e : isId d.ms id with
      | false => rfl
      | true =>
        obtain ⟨j, x, hx, hxi⟩ := isId_iff.1 e
        have := hd.idr j x hx
        omega
    · have := hd.idr n y hy
      omega
  · obtain ⟨j, x, _, hj, rfl, hlt⟩ := hd.rank_ex (id := id) (by omega) (by omega)
    refine ⟨x.l, x.r, true, askT_at hd hj _, askT_at hd hj _, isId_iff.2 ⟨j, x, hj, rfl⟩, fun h => (by cases h), fun n y hy e => ?_⟩
    have := hd.id_inj hy hj e
    subst this
    rw [hy] at hj
    cases hj
    exact ⟨rfl, rfl⟩

set_option maxRecDepth 100000 in
set_option maxHeartbeats 16000000 in
theorem pdown_any (w : World) (L : Pl) (d : Dat) (h : DR w L d) (k : Int) (hk : (Lit.int .i64 k).wf = true) (p : Option Addr) (len cap : Nat) (hb8 : len * 8 ≤ 140737488351232) (hlc : len ≤ cap) (hcm : cap ≤ maxLen) (ys : Nat → Int) (hC : RowK.CameInts .i64 w p len ys) (hwf : ∀ i, i < len → (Lit.int .i64 (ys i)).wf = true) (id : Int) (hid : (Lit.int .i64 id).wf = true) :
    Calls Try.prog 3 #[.agg #[.slice L.p0 d.ws.length L.c0, .slice L.p1 d.ms.length L.c1, .slice L.p2 d.ls.length L.c2, .slice L.p3 d.ns.length L.c3, .slice L.p4 d.ss.length L.c4], .int .i64 k, .slice p len cap, .int .i64 id] w fun e w' => e = .returned (.bool true) ∧ Ext (fun _ => False) w w' := by
  have hb : (w.alloc (.cells (dataCells L d) 26)).heap[w.heap.size]? = _ := heap_alloc_new w _
  have X0 := Lib.hid ((Ext.refl (fun _ => False) w).alloc (.cells (dataCells L d) 26))
  have C := Lib.hid (of5_any _ L d (h.on X0.out))
  have HB := Lib.hid hb
  have R := Lib.hid h
  have XS := Lib.hid (show ∃ xs : List Int, xs.length = len ∧ Rd eI w p xs ∧ ∀ x ∈ xs, (Lit.int .i64 x).wf = true from
    ⟨(List.range len).map ys, by simp, rd_came hC, fun x hx => by
      rw [List.mem_map] at hx
      obtain ⟨i, hi, rfl⟩ := hx
      exact hwf i (List.mem_range.1 hi)⟩)
  have HK := Lib.hid hk
  have HID := Lib.hid hid
  have hcm2 : cap ≤ 9223372036854775807 := by unfold maxLen at hcm; omega
  clear hb h hC hwf hk hid hcm
  go_enter Try.func3, Try.ntmps3
  go_wp2_with fail
  refine C.out.mono ?_
  rintro e W ⟨hx, h⟩
  have X := Lib.hid (X0.out.trans hx (fun _ _ h => h))
  have B := Lib.hid (hx.obj HB.out (fun h => h))
  clear hx C
  rcases h with ⟨hg, rfl⟩ | ⟨hg, a, rfl, hm, hwa⟩
  · have K := Lib.hid (known24_any W)
    clear hg
    go_wp2_with fail
    refine K.out.mono ?_
    rintro e W2 ⟨rfl, hx2⟩
    have X2 := Lib.hid (X.out.trans hx2 (fun _ _ h => h))
    clear hx2
    go_wp2_with fail
    go_ret
    exact ⟨rfl, X2.out⟩
  · have D := Lib.hid (RightD.of_good hg)
    have M := Lib.hid hm
    have few := good_few hg
    clear hg hm
    go_upto_if 37 with fail
    go_cut [2] (fun v wc => W = wc ∧ ∃ ids : List Int, v = .slice p ids.length cap ∧ ids.length ≤ 60 ∧ ids.length ≤ cap ∧ Rd eI w p ids ∧ ∀ x ∈ ids, (Lit.int .i64 x).wf = true)
    case first =>
      obtain ⟨xs, hxl, hxr, hxw⟩ := XS.out
      have HXR := Lib.hid hxr
      have HXW := Lib.hid hxw
      by_cases hlt : 60 < len
      · have HT := Lib.hid (show (xs.take 60).length = 60 from by rw [List.length_take]; omega)
        clear hxr hxw hxl
        have h60 : (60 : Int) ≤ (cap : Int) := by omega
        go_wp2_with fail
        go_meet
        exact ⟨rfl, xs.take 60, by rw [HT.out], by rw [HT.out]; omega, by rw [HT.out]; omega, HXR.out.take 60, fun x hx => HXW.out x (List.mem_of_mem_take hx)⟩
      · have HT := Lib.hid hxl
        clear hxr hxw hxl
        go_wp2_with fail
        go_meet
        exact ⟨rfl, xs, by rw [HT.out], by rw [HT.out]; omega, by rw [HT.out]; omega, HXR.out, HXW.out⟩
    case rest =>
      obtain ⟨rfl, ids, rfl, hl60, hlcap, hq, hqw⟩ := hcut
      have Q := Lib.hid hq
      have QW := Lib.hid hqw
      have P := Lib.hid (parts_any W a d id M.out D.out (inI_of HID.out))
      clear hq hqw XS hb8 hlc
      go_wp2_with fail
      refine P.out.mono ?_
      rintro e W1 ⟨rfl, hx1⟩
      have E1 := Lib.hid (X.out.trans hx1 (fun _ _ h => h))
      have M1 := Lib.hid (M.out.on hx1)
      have B1 := Lib.hid (hx1.obj B.out (fun h => h))
      obtain ⟨pa, pb, s, e1, e2, hs, hz, hall⟩ := parts_fine D.out id
      rw [e1, e2]
      have HS := Lib.hid hs
      have HZ := Lib.hid hz
      have HA := Lib.hid hall
      clear e1 e2 hs hz hall hx1 P B X M
      have b1 := blk_cell B1.out 1
      simp [dataCells] at b1
      go_wp2_with fail
      go_loop [15, 16] (fun m i => ∃ n : Nat, i = .int .i64 n ∧ n ≤ d.ms.length ∧ m = .bool (isId (d.ms.take n) id)) (fun _ i => d.ms.length - (intOf i).toNat)
      case atStart => exact ⟨0, rfl, Nat.zero_le _, by simp [isId]⟩
      case round =>
        obtain ⟨n, rfl, hn, rfl⟩ := hrel
        by_cases hlt : n < d.ms.length
        · have i1 : (n : Int) < (d.ms.length : Int) := by omega
          obtain ⟨y, hy⟩ : ∃ y, d.ms[n]? = some y := ⟨_, List.getElem?_eq_getElem hlt⟩
          obtain ⟨mb, mo, hp, hmb, c0, c1, c2⟩ := (R.out.on E1.out).r1.cellM hy
          rw [hp] at b1
          have HT := Lib.hid (isId_take (id := id) hy)
          have HY := Lib.hid (fun e => HA.out n y hy e)
          obtain ⟨u, hu⟩ : ∃ u, isId (d.ms.take n) id = u := ⟨_, rfl⟩
          rw [hu] at HT ⊢
          clear hy hp hmb hu
          by_cases he : y.i = id
          · obtain ⟨h1, h2⟩ := HY.out he
            have d1 : (y.i == id) = true := beq_iff_eq.2 he
            have HT2 := Lib.hid (show isId (d.ms.take (n + 1)) id = true from by rw [HT.out, decide_eq_true he, Bool.or_true])
            subst h1 h2
            clear he HT HY
            go_wp2_with fail
            go_round
            case rel => exact ⟨n + 1, by go_num, by omega, by rw [HT2.out]⟩
            case measure => simp [intOf]; omega
          · have d1 : (y.i == id) = false := beq_eq_false_iff_ne.2 he
            have HT2 := Lib.hid (show isId (d.ms.take (n + 1)) id = u from by rw [HT.out, decide_eq_false he, Bool.or_false])
            clear he HT HY
            go_wp2_with fail
            go_round
            case rel => exact ⟨n + 1, by go_num, by omega, by rw [HT2.out]⟩
            case measure => simp [intOf]; omega
        · have hn2 : n = d.ms.length := by omega
          have i1 : ¬ ((n : Int) < (d.ms.length : Int)) := by omega
          have HS2 := Lib.hid (show isId (d.ms.take n) id = s from by rw [hn2, List.take_length, HS.out])
          obtain ⟨u, hu⟩ : ∃ u, isId (d.ms.take n) id = u := ⟨_, rfl⟩
          rw [hu] at HS2 ⊢
          obtain rfl : u = s := HS2.out
          clear hu hn2
          go_upto_region 15 with (fail)
          have cells : ∀ w', Ext (fun _ => False) W1 w' → (w'.cell? ⟨w.heap.size, 0, none⟩ = some (.slice L.p0 d.ws.length L.c0) ∧ w'.cell? ⟨w.heap.size, 1, none⟩ = some (.slice L.p1 d.ms.length L.c1) ∧ w'.cell? ⟨w.heap.size, 2, none⟩ = some (.slice L.p2 d.ls.length L.c2) ∧ w'.cell? ⟨w.heap.size, 3, none⟩ = some (.slice L.p3 d.ns.length L.c3) ∧ w'.cell? ⟨w.heap.size, 4, none⟩ = some (.slice L.p4 d.ss.length L.c4)) ∧ Ext (fun _ => False) W1 w' := fun w' e =>
            have b := e.obj B1.out (fun h => h)
            ⟨⟨blk_cell b 0, blk_cell b 1, blk_cell b 2, blk_cell b 3, blk_cell b 4⟩, e⟩
          have CE := Lib.hid cells
          have D0 := Lib.hid (show Ext (fun _ => False) W1 W1.drew from Ext.drew (Ext.refl _ _))
          have DP := Lib.hid (show ∀ w', Ext (fun _ => False) W1 w' → Calls Try.prog 14 #[.pointer (some ⟨a, 0, none⟩), .int .i64 id] w' fun e w'' => e = .returned (.int .i64 (depthT d id)) ∧ Ext (fun _ => False) W1 w'' from fun w' e =>
            (depth_any w' a d id (M1.out.on e) D.out).mono fun e' w'' ⟨h1, h2⟩ => ⟨h1, e.trans h2 (fun _ _ h => h)⟩)
          have DQ := Lib.hid (show ∀ w', Ext (fun _ => False) W1 w' → Calls Try.prog 15 #[.agg #[.slice L.p0 d.ws.length L.c0, .slice L.p1 d.ms.length L.c1, .slice L.p2 d.ls.length L.c2, .slice L.p3 d.ns.length L.c3, .slice L.p4 d.ss.length L.c4], .int .i64 id] w' fun e w'' => e = .returned (.int .i64 (depthT d id)) ∧ Ext (fun _ => False) W1 w'' from fun w' e =>
            (depth24_any w' L d id (R.out.on (E1.out.trans e (fun _ _ h => h))) D.out (inI_of HID.out)).mono fun e' w'' ⟨h1, h2⟩ => ⟨h1, e.trans h2 (fun _ _ h => h)⟩)
          obtain ⟨dp, hdp⟩ : ∃ dp, depthT d id = dp := ⟨_, rfl⟩
          rw [hdp] at DP DQ
          have hzz : u = false → pa = 0 ∧ pb = 0 := HZ.out
          clear cells hdp b1 HZ HA HS HS2
          go_cut [103] (fun v wc => Ext (fun _ => False) W1 wc ∧ v = .bool false)
          case first =>
            rcases u
            · obtain ⟨rfl, rfl⟩ := hzz rfl
              clear hzz
              go_region_held3 (fun w' => (w'.cell? ⟨w.heap.size, 0, none⟩ = some (.slice L.p0 d.ws.length L.c0) ∧ w'.cell? ⟨w.heap.size, 1, none⟩ = some (.slice L.p1 d.ms.length L.c1) ∧ w'.cell? ⟨w.heap.size, 2, none⟩ = some (.slice L.p2 d.ls.length L.c2) ∧ w'.cell? ⟨w.heap.size, 3, none⟩ = some (.slice L.p3 d.ns.length L.c3) ∧ w'.cell? ⟨w.heap.size, 4, none⟩ = some (.slice L.p4 d.ss.length L.c4)) ∧ Ext (fun _ => False) W1 w')
                (first | exact CE.out _ D0.out | exact CE.out _ E3.out | exact CE.out _ E2.out)
                (first
                  | (go_at_call 14; (with_reducible refine (DP.out _ ?_).mono ?_); (exact D0.out); rintro e W2 ⟨rfl, x2⟩; have E2 := Lib.hid x2; clear x2)
                  | (go_at_call 15; (with_reducible refine (DQ.out _ ?_).mono ?_); (exact E2.out); rintro e W3 ⟨rfl, x3⟩; have E3 := Lib.hid x3; clear x3))
              go_wp2_with fail
              go_meet
              exact ⟨E3.out, by simp⟩
            · clear hzz
              refine start_ (n := 24) (S := fun w' => (w'.cell? ⟨w.heap.size, 0, none⟩ = some (.slice L.p0 d.ws.length L.c0) ∧ w'.cell? ⟨w.heap.size, 1, none⟩ = some (.slice L.p1 d.ms.length L.c1) ∧ w'.cell? ⟨w.heap.size, 2, none⟩ = some (.slice L.p2 d.ls.length L.c2) ∧ w'.cell? ⟨w.heap.size, 3, none⟩ = some (.slice L.p3 d.ns.length L.c3) ∧ w'.cell? ⟨w.heap.size, 4, none⟩ = some (.slice L.p4 d.ss.length L.c4)) ∧ Ext (fun _ => False) W1 w') (ds := []) (ls 24 0) (by kernel_rfl) rfl rfl (CE.out _ D0.out) (fun hHeld => ?_); refine with_tabW Rtesseralaw24_PruneDown_15.tab Rtesseralaw24_PruneDown_15.bits (fun HT_ HW_ => ?_)
              refine pure_ (i := 0) (N := some 80) (v := ?_) (a' := ?_) (ls 24 1) rfl rfl (any_of HT_.out (by kernel_rfl)) (fun _ _ _ h => h) (Or.inl ⟨by rfl, ?_⟩) ?_ ?_
              rotate_left
              · intro w'; go_simp; with_reducible rfl
              rotate_left
              · simp only [Act.put, List.setIfInBounds_toArray, List.set_cons_zero, List.set_cons_succ, i64_w, i32_w]; rfl
              refine pure_ (i := 1) (N := some 81) (v := ?_) (a' := ?_) (ls 24 3) rfl rfl (any_of HT_.out (by kernel_rfl)) (fun _ _ _ h => h) (Or.inl ⟨by rfl, ?_⟩) ?_ ?_
              rotate_left
              · intro w'; go_simp; with_reducible rfl
              rotate_left
              · simp only [Act.put, List.setIfInBounds_toArray, List.set_cons_zero, List.set_cons_succ, i64_w, i32_w]; rfl
              refine pure_ (i := 2) (N := some 82) (v := ?_) (a' := ?_) (ls 24 7) rfl rfl (any_of HT_.out (by kernel_rfl)) (fun _ _ _ h => h) (Or.inl ⟨by rfl, ?_⟩) ?_ ?_
              rotate_left
              · intro w'; go_simp; with_reducible rfl
              rotate_left
              · simp only [Act.put, List.setIfInBounds_toArray, List.set_cons_zero, List.set_cons_succ, i64_w, i32_w]; rfl
              refine pure_ (i := 3) (N := some 83) (v := ?_) (a' := ?_) (ls 24 15) rfl rfl (any_of HT_.out (by kernel_rfl)) (fun _ _ _ h => h) (Or.inl ⟨by rfl, ?_⟩) ?_ ?_
              rotate_left
              · intro w'; go_simp; with_reducible rfl
              rotate_left
              · simp only [Act.put, List.setIfInBounds_toArray, List.set_cons_zero, List.set_cons_succ, i64_w, i32_w]; rfl
              refine pure_ (i := 4) (N := some 84) (v := ?_) (a' := ?_) (ls 24 31) rfl rfl (any_of HT_.out (by kernel_rfl)) (fun _ _ _ h => h) (Or.inl ⟨by rfl, ?_⟩) ?_ ?_
              rotate_left
              · intro w'; go_simp; with_reducible rfl
              rotate_left
              · simp only [Act.put, List.setIfInBounds_toArray, List.set_cons_zero, List.set_cons_succ, i64_w, i32_w]; rfl
              refine pure_ (i := 5) (N := some 85) (v := ?_) (a' := ?_) (ls 24 63) rfl rfl (any_of HT_.out (by kernel_rfl)) (fun _ _ _ h => h) (Or.inl ⟨by rfl, ?_⟩) ?_ ?_
              rotate_left
              · intro w'; go_simp; with_reducible rfl
              rotate_left
              · simp only [Act.put, List.setIfInBounds_toArray, List.set_cons_zero, List.set_cons_succ, i64_w, i32_w]; rfl
              refine pure_ (i := 6) (N := some 86) (v := ?_) (a' := ?_) (ls 24 127) rfl rfl (any_of HT_.out (by kernel_rfl)) (fun _ _ _ h => h) (Or.inl ⟨by rfl, ?_⟩) ?_ ?_
              rotate_left
              · intro w'; go_simp; with_reducible rfl
              rotate_left
              · simp only [Act.put, List.setIfInBounds_toArray, List.set_cons_zero, List.set_cons_succ, i64_w, i32_w]; rfl
              refine pure_ (i := 7) (N := some 87) (v := undef) (a' := ?_) (ls 24 255) rfl rfl (any_of HT_.out (by kernel_rfl)) (fun _ _ _ h => h) (Or.inr ⟨by rfl, rfl⟩) ?_ ?_
              rotate_left
              · simp only [Act.put, List.setIfInBounds_toArray, List.set_cons_zero, List.set_cons_succ, i64_w, i32_w]; rfl
              refine pure_ (i := 8) (N := some 88) (v := undef) (a' := ?_) (ls 24 511) rfl rfl (any_of HT_.out (by kernel_rfl)) (fun _ _ _ h => h) (Or.inr ⟨by rfl, rfl⟩) ?_ ?_
              rotate_left
              · simp only [Act.put, List.setIfInBounds_toArray, List.set_cons_zero, List.set_cons_succ, i64_w, i32_w]; rfl
              refine pure_ (i := 9) (N := some 89) (v := undef) (a' := ?_) (ls 24 1023) rfl rfl (any_of HT_.out (by kernel_rfl)) (fun _ _ _ h => h) (Or.inr ⟨by rfl, rfl⟩) ?_ ?_
              rotate_left
              · simp only [Act.put, List.setIfInBounds_toArray, List.set_cons_zero, List.set_cons_succ, i64_w, i32_w]; rfl
              refine pure_ (i := 10) (N := some 90) (v := undef) (a' := ?_) (ls 24 2047) rfl rfl (any_of HT_.out (by kernel_rfl)) (fun _ _ _ h => h) (Or.inr ⟨by rfl, rfl⟩) ?_ ?_
              rotate_left
              · simp only [Act.put, List.setIfInBounds_toArray, List.set_cons_zero, List.set_cons_succ, i64_w, i32_w]; rfl
              refine pure_ (i := 11) (N := some 91) (v := undef) (a' := ?_) (ls 24 4095) rfl rfl (any_of HT_.out (by kernel_rfl)) (fun _ _ _ h => h) (Or.inr ⟨by rfl, rfl⟩) ?_ ?_
              rotate_left
              · simp only [Act.put, List.setIfInBounds_toArray, List.set_cons_zero, List.set_cons_succ, i64_w, i32_w]; rfl
              refine pure_ (i := 12) (N := some 92) (v := undef) (a' := ?_) (ls 24 8191) rfl rfl (any_of HT_.out (by kernel_rfl)) (fun _ _ _ h => h) (Or.inr ⟨by rfl, rfl⟩) ?_ ?_
              rotate_left
              · simp only [Act.put, List.setIfInBounds_toArray, List.set_cons_zero, List.set_cons_succ, i64_w, i32_w]; rfl
              refine pure_ (i := 13) (N := some 93) (v := ?_) (a' := ?_) (ls 24 16383) rfl rfl (any_of HT_.out (by kernel_rfl)) (fun _ _ _ h => h) (Or.inl ⟨by rfl, ?_⟩) ?_ ?_
              rotate_left
              · intro w'; go_simp; with_reducible rfl
              rotate_left
              · simp only [Act.put, List.setIfInBounds_toArray, List.set_cons_zero, List.set_cons_succ, i64_w, i32_w]; rfl
              refine pure_ (i := 14) (N := some 94) (v := ?_) (a' := ?_) (ls 24 32767) rfl rfl (any_of HT_.out (by kernel_rfl)) (fun _ _ _ h => h) (Or.inl ⟨by rfl, ?_⟩) ?_ ?_
              rotate_left
              · intro w'; go_simp; with_reducible rfl
              rotate_left
              · simp only [Act.put, List.setIfInBounds_toArray, List.set_cons_zero, List.set_cons_succ, i64_w, i32_w]; rfl
              refine pure_ (i := 15) (N := some 95) (v := ?_) (a' := ?_) (ls 24 65535) rfl rfl (any_of HT_.out (by kernel_rfl)) (fun _ _ _ h => h) (Or.inl ⟨by rfl, ?_⟩) ?_ ?_
              rotate_left
              · intro w'; go_simp; with_reducible rfl
              rotate_left
              · simp only [Act.put, List.setIfInBounds_toArray, List.set_cons_zero, List.set_cons_succ, i64_w, i32_w]; rfl
              refine pure_ (i := 16) (N := some 96) (v := ?_) (a' := ?_) (ls 24 131071) rfl rfl (any_of HT_.out (by kernel_rfl)) (fun _ _ _ h => h) (Or.inl ⟨by rfl, ?_⟩) ?_ ?_
              rotate_left
              · intro w'; go_simp; with_reducible rfl
              rotate_left
              · simp only [Act.put, List.setIfInBounds_toArray, List.set_cons_zero, List.set_cons_succ, i64_w, i32_w]; rfl
              refine pure_ (i := 17) (N := some 97) (v := ?_) (a' := ?_) (ls 24 262143) rfl rfl (any_of HT_.out (by kernel_rfl)) (fun _ _ _ h => h) (Or.inl ⟨by rfl, ?_⟩) ?_ ?_
              rotate_left
              · intro w'; go_simp; with_reducible rfl
              rotate_left
              · simp only [Act.put, List.setIfInBounds_toArray, List.set_cons_zero, List.set_cons_succ, i64_w, i32_w]; rfl
              refine pure_ (i := 20) (N := some 100) (v := ?_) (a' := ?_) (ls 24 1310719) rfl rfl (any_of HT_.out (by kernel_rfl)) (fun _ _ _ h => h) (Or.inl ⟨by rfl, ?_⟩) ?_ ?_
              rotate_left
              · intro w'; go_simp; with_reducible rfl
              rotate_left
              · simp only [Act.put, List.setIfInBounds_toArray, List.set_cons_zero, List.set_cons_succ, i64_w, i32_w]; rfl
              refine take_ (i := 19) (N := some 99) (v := ?_) (a' := ?_) (ls 24 1835007) rfl rfl (take_ofW HT_.out HW_.out (by kernel_rfl)) (fun _ _ _ h => h) (Or.inl ⟨by rfl, ?_⟩) hHeld ?_ ?_
              rotate_left
              · rintro w' ⟨⟨s0, s1, s2, s3, s4⟩, _⟩; go_simp; with_reducible rfl
              rotate_left
              · simp only [Act.put, List.setIfInBounds_toArray, List.set_cons_zero, List.set_cons_succ, i64_w, i32_w]; rfl
              refine one_ (i := 18) (N := some 98) (ls 24 2097151) rfl rfl (one_of HT_.out (by kernel_rfl)) (by decide) (fun K hK => ?_)
              refine goes_ Try.func14 (by kernel_rfl) rfl #[.pointer (some ⟨a, 0, none⟩), .int .i64 id] (by rfl) rfl rfl (by (try simp only [List.map_toArray, List.map_cons, List.map_nil]); first | done | rfl) ?_
              refine (DP.out _ D0.out).mono ?_
              rintro e W18 ⟨rfl, x18⟩
              refine ⟨_, rfl, ?_⟩
              refine hK.out _ _ (CE.out _ x18) (fun hHeld => ?_)
              clear hK K
              refine norm_ (a' := ?_) ?_ ?_
              rotate_left
              · simp only [Act.put, List.setIfInBounds_toArray, List.set_cons_zero, List.set_cons_succ, i64_w, i32_w]; rfl
              refine one_ (i := 21) (N := some 101) (ls 24 4194303) rfl rfl (one_of HT_.out (by kernel_rfl)) (by decide) (fun K hK => ?_)
              refine goes_ Try.func15 (by kernel_rfl) rfl #[.agg #[.slice L.p0 d.ws.length L.c0, .slice L.p1 d.ms.length L.c1, .slice L.p2 d.ls.length L.c2, .slice L.p3 d.ns.length L.c3, .slice L.p4 d.ss.length L.c4], .int .i64 id] (by rfl) rfl rfl (by (try simp only [List.map_toArray, List.map_cons, List.map_nil]); first | done | rfl) ?_
              refine (DQ.out _ x18).mono ?_
              rintro e W21 ⟨rfl, x21⟩
              refine ⟨_, rfl, ?_⟩
              refine hK.out _ _ (CE.out _ x21) (fun hHeld => ?_)
              clear hK K
              refine norm_ (a' := ?_) ?_ ?_
              rotate_left
              · simp only [Act.put, List.setIfInBounds_toArray, List.set_cons_zero, List.set_cons_succ, i64_w, i32_w]; rfl
              refine pure_ (i := 22) (N := some 102) (v := ?_) (a' := ?_) (ls 24 8388607) rfl rfl (any_of HT_.out (by kernel_rfl)) (fun _ _ _ h => h) (Or.inl ⟨by rfl, ?_⟩) ?_ ?_
              rotate_left
              · intro w'; go_simp; with_reducible rfl
              rotate_left
              · simp only [Act.put, List.setIfInBounds_toArray, List.set_cons_zero, List.set_cons_succ, i64_w, i32_w]; rfl
              refine pure_ (i := 23) (N := some 103) (v := ?_) (a' := ?_) (ls 24 16777215) rfl rfl (any_of HT_.out (by kernel_rfl)) (fun _ _ _ h => h) (Or.inl ⟨by rfl, ?_⟩) ?_ ?_
              rotate_left
              · intro w'; go_simp; with_reducible rfl
              rotate_left
              · simp only [Act.put, List.setIfInBounds_toArray, List.set_cons_zero, List.set_cons_succ, i64_w, i32_w]; rfl
              refine done_ (done_of HT_.out (by kernel_rfl)) ?_
              go_wp2_with fail
              go_meet
              exact ⟨x21, by simp⟩
          case rest =>
            obtain ⟨hx2, rfl⟩ := hcut
            clear hzz CE D0 DP DQ
            go_wp2_with fail
            have E2 := Lib.hid (E1.out.trans hx2 (fun _ _ h => h))
            have M2 := Lib.hid (M1.out.on hx2)
            have B2 := Lib.hid (hx2.obj B1.out (fun h => h))
            clear hx2 E1 M1 B1
            refine (roomyI_any _ p cap ids (-7) (Q.out.on E2.out) (by omega)).mono ?_
            rintro e W2 ⟨fa, rfl, hA, hx3, hfa⟩
            have E3 := Lib.hid (E2.out.trans hx3 (fun _ _ h => h))
            have M3 := Lib.hid (M2.out.on hx3)
            have B3 := Lib.hid (hx3.obj B2.out (fun h => h))
            have FR := Lib.hid (Rd.of_arr (E := eI) hA)
            obtain ⟨⟨ts, te⟩, hdt⟩ : ∃ t, downT d k ids = t := ⟨_, rfl⟩
            have HDT := Lib.hid hdt
            have hl80 : (ids.length : Int) ≤ ((ids.length + 80 : Nat) : Int) := by omega
            have DN := Lib.hid (down_any W2 a d k (some ⟨fa, 0, none⟩) (ids.length + 80) ids M3.out D.out (by have := FR.out.take ids.length; rwa [List.take_left' rfl] at this) (by omega))
            clear hA hx3 E2 M2 B2 hdt
            go_wp2_with fail
            refine DN.out.mono ?_
            rintro e W3 ⟨po, co, rfl, hA, hx4, hpo⟩
            rw [HDT.out] at hA ⊢
            have E4 := Lib.hid (E3.out.trans hx4 (fun _ _ h => h))
            have B4 := Lib.hid (hx4.obj B3.out (fun h => h))
            have FR4 := Lib.hid (FR.out.on hx4)
            have RT := Lib.hid (ints_rd hA)
            clear hA hx4 E3 B3 FR DN hpo M3 hl80
            go_wp2_with fail
            refine (intactI_any W3 (some ⟨fa, 0, none⟩) p (ids.length + 80) cap ids (-7) FR4.out (Q.out.on E4.out) (by omega) (by omega)).mono ?_
            rintro e W4 ⟨rfl, hx5⟩
            have E5 := Lib.hid (E4.out.trans hx5 (fun _ _ h => h))
            have B5 := Lib.hid (hx5.obj B4.out (fun h => h))
            have RT5 := Lib.hid (RT.out.on hx5)
            clear hx5 E4 B4 RT FR4
            go_wp2_with fail
            go_loopw [20] (fun i wr => ∃ n : Nat, i = .int .i64 n ∧ n ≤ ids.length ∧ (ids.take n).all (validId d) = true ∧ Ext (fun _ => False) W4 wr) (fun i _ => ids.length - (intOf i).toNat)
            case atStart => exact ⟨0, rfl, Nat.zero_le _, rfl, Ext.refl _ _⟩
            case round =>
              obtain ⟨n, rfl, hn, hv, hx⟩ := hrel
              have HV := Lib.hid hv
              have EX := Lib.hid hx
              clear hv hx
              by_cases hlt : n < ids.length
              · have i1 : (n : Int) < (ids.length : Int) := by omega
                obtain ⟨x, hx⟩ : ∃ x, ids[n]? = some x := ⟨_, List.getElem?_eq_getElem hlt⟩
                obtain ⟨b, o, hp, hb, cx⟩ := (Q.out.on (E5.out.trans EX.out (fun _ _ h => h))).cellI hx
                have HX := Lib.hid hx
                have HP := Lib.hid hp
                have XW := Lib.hid (QW.out x (List.mem_of_getElem? hx))
                rw [hp]
                have cells : ∀ w', Ext (fun _ => False) wr w' → (w'.cell? ⟨w.heap.size, 0, none⟩ = some (.slice L.p0 d.ws.length L.c0) ∧ w'.cell? ⟨w.heap.size, 1, none⟩ = some (.slice L.p1 d.ms.length L.c1) ∧ w'.cell? ⟨w.heap.size, 2, none⟩ = some (.slice L.p2 d.ls.length L.c2) ∧ w'.cell? ⟨w.heap.size, 3, none⟩ = some (.slice L.p3 d.ns.length L.c3) ∧ w'.cell? ⟨w.heap.size, 4, none⟩ = some (.slice L.p4 d.ss.length L.c4) ∧ w'.cell? ⟨b, o + n, none⟩ = some (.int .i64 x)) ∧ Ext (fun _ => False) wr w' := fun w' e =>
                  have bb := (EX.out.trans e (fun _ _ h => h)).obj B5.out (fun h => h)
                  ⟨⟨blk_cell bb 0, blk_cell bb 1, blk_cell bb 2, blk_cell bb 3, blk_cell bb 4, (e.cell (p := ⟨b, _, none⟩) hb (fun h => h)).trans cx⟩, e⟩
                have CE := Lib.hid cells
                have D0 := Lib.hid (show Ext (fun _ => False) wr wr.drew from Ext.drew (Ext.refl _ _))
                obtain ⟨⟨wd, ok⟩, hwo⟩ : ∃ t, wordOf d.ws x = t := ⟨_, rfl⟩
                have HWO := Lib.hid hwo
                have WC := Lib.hid (show ∀ w', Ext (fun _ => False) wr w' → Calls Try.prog 19 #[.agg #[.slice L.p0 d.ws.length L.c0, .slice L.p1 d.ms.length L.c1, .slice L.p2 d.ls.length L.c2, .slice L.p3 d.ns.length L.c3, .slice L.p4 d.ss.length L.c4], .int .i64 x] w' fun e w'' => e = .returned (.tuple #[.string wd, .bool ok]) ∧ Ext (fun _ => False) wr w'' from fun w' e => by
                  have := ref5word_any w' L d x (R.out.on (E5.out.trans (EX.out.trans e (fun _ _ h => h)) (fun _ _ h => h))) XW.out (by have := D.out.len; omega)
                  rw [HWO.out] at this
                  exact this.mono fun e' w'' ⟨h1, h2⟩ => ⟨h1, e.trans h2 (fun _ _ h => h)⟩)
                clear hx hp hb cx cells hwo
                go_wp2_with fail
                go_region_held3 (fun w' => (w'.cell? ⟨w.heap.size, 0, none⟩ = some (.slice L.p0 d.ws.length L.c0) ∧ w'.cell? ⟨w.heap.size, 1, none⟩ = some (.slice L.p1 d.ms.length L.c1) ∧ w'.cell? ⟨w.heap.size, 2, none⟩ = some (.slice L.p2 d.ls.length L.c2) ∧ w'.cell? ⟨w.heap.size, 3, none⟩ = some (.slice L.p3 d.ns.length L.c3) ∧ w'.cell? ⟨w.heap.size, 4, none⟩ = some (.slice L.p4 d.ss.length L.c4) ∧ w'.cell? ⟨b, o + n, none⟩ = some (.int .i64 x)) ∧ Ext (fun _ => False) wr w')
                  (first | exact CE.out _ D0.out | exact CE.out _ E6.out)
                  (first
                    | (go_at_call 19; (with_reducible refine (WC.out _ ?_).mono ?_); (exact D0.out); rintro e W5 ⟨rfl, x6⟩; have E6 := Lib.hid x6; clear x6))
                have E7 := Lib.hid (EX.out.trans E6.out (fun _ _ h => h))
                rcases ok
                · have BAD := Lib.hid (show downT d k ids = ([], 24) from by
                    have hb : validId d x = false := by
                      cases e : validId d x with
                      | false => rfl
                      | true =>
                        unfold validId at e
                        rw [Bool.and_eq_true] at e
                        have h0 := of_decide_eq_true e.1
                        have h1 := of_decide_eq_true e.2
                        have h2 := wordOf_ok (ws := d.ws) h0 (by rw [D.out.len]; exact h1)
                        rw [HWO.out] at h2
                        cases h2
                    unfold downT
                    rw [if_neg]
                    rw [List.all_eq_true]
                    intro hall
                    rw [hall x (List.mem_of_getElem? HX.out)] at hb
                    cases hb)
                  obtain ⟨rfl, rfl⟩ : ts = [] ∧ te = 24 := by
                    have := HDT.out
                    rw [BAD.out] at this
                    cases this
                    exact ⟨rfl, rfl⟩
                  have K := Lib.hid (known24_any W5)
                  go_wp2_with fail
                  refine K.out.mono ?_
                  rintro e W6 ⟨rfl, hx6⟩
                  have E8 := Lib.hid (E5.out.trans (E7.out.trans hx6 (fun _ _ h => h)) (fun _ _ h => h))
                  clear hx6
                  go_wp2_with fail
                  go_ret
                  exact ⟨rfl, E8.out⟩
                · have NX := Lib.hid (show (ids.take (n + 1)).all (validId d) = true from by
                    have hb : validId d x = true := by
                      cases e : validId d x with
                      | true => rfl
                      | false =>
                        have h2 := wordOf_bad (ws := d.ws) (id := x) (by
                          unfold validId at e
                          by_cases h0 : 0 ≤ x
                          · by_cases h1 : x < 256 + (d.ms.length : Int)
                            · rw [decide_eq_true h0, decide_eq_true h1] at e; cases e
                            · right; rw [D.out.len]; omega
                          · left; omega)
                        rw [HWO.out] at h2
                        cases h2
                    rw [List.take_add_one, HX.out, List.all_append, HV.out]
                    simp [hb])
                  go_wp2_with fail
                  go_roundw
                  case rel => exact ⟨n + 1, by go_num, by omega, NX.out, E7.out⟩
                  case measure => simp [intOf]; omega
              · have hn2 : n = ids.length := by omega
                have i1 : ¬ ((n : Int) < (ids.length : Int)) := by omega
                have ALL := Lib.hid (show ids.all (validId d) = true from by have := HV.out; rwa [hn2, List.take_length] at this)
                have TE := Lib.hid (show te = 0 from by
                  have := HDT.out
                  unfold downT at this
                  rw [if_pos ALL.out] at this
                  exact (congrArg Prod.snd this).symm)
                obtain rfl := TE.out
                have bb := EX.out.obj B5.out (fun h => h)
                have k0 := blk_cell bb 0
                have k1 := blk_cell bb 1
                have k2 := blk_cell bb 2
                have k3 := blk_cell bb 3
                have k4 := blk_cell bb 4
                simp [dataCells] at k0 k1 k2 k3 k4
                have E6 := Lib.hid (E5.out.trans EX.out (fun _ _ h => h))
                have DN := Lib.hid (down24_any wr L d k p cap ids (R.out.on E6.out) D.out (Q.out.on E6.out) (by omega) ALL.out)
                clear bb hn2
                go_wp2_with fail
                refine DN.out.mono ?_
                rintro e W5 ⟨po2, co2, rfl, hR, hx6⟩
                rw [HDT.out] at hR ⊢
                have RA := Lib.hid (RT5.out.on (EX.out.trans hx6 (fun _ _ h => h)))
                have E7 := Lib.hid (E6.out.trans hx6 (fun _ _ h => h))
                have HR := Lib.hid (show Rd eI W5 po2 ts from hR)
                have TL := Lib.hid (show ts.length ≤ 1125899906842624 from by
                  have := HDT.out
                  unfold downT at this
                  rw [if_pos ALL.out] at this
                  have e2 : ts = _ := (congrArg Prod.fst this).symm
                  rw [e2, List.length_map]
                  refine Nat.le_trans (flat_len D.out k fun y hy => ?_) (by omega)
                  have := List.all_eq_true.1 ALL.out y hy
                  unfold validId at this
                  rw [Bool.and_eq_true] at this
                  exact ⟨of_decide_eq_true this.1, of_decide_eq_true this.2⟩)
                clear hR hx6 DN k0 k1 k2 k3 k4
                go_wp2_with fail
                refine (sameI_any W5 po po2 co co2 ts ts RA.out HR.out TL.out).mono ?_
                rintro e W6 ⟨rfl, hx7⟩
                have E8 := Lib.hid (E7.out.trans hx7 (fun _ _ h => h))
                rw [decide_eq_true (rfl : ts = ts)]
                clear hx7
                go_wp2_with fail
                refine (known24_any W6).mono ?_
                rintro e W7 ⟨rfl, hx8⟩
                have E9 := Lib.hid (E8.out.trans hx8 (fun _ _ h => h))
                clear hx8
                go_wp2_with fail
                go_ret
                exact ⟨rfl, E9.out⟩
end Go.Proofs.Ytbepmbihonnkaaa.Sl
