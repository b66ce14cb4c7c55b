/- law24.PruneDeep. -/
import Derived.Test.YtbepmbihonnkaaaPruneK
namespace Go.Proofs.Ytbepmbihonnkaaa.Sl
open Go.Proofs.Ytbepmbihonnkaaa.Lib
open Go.RowKit
set_option linter.unusedVariables false
set_option linter.unusedSimpArgs false

theorem depth_fine {d : Dat} (hd : RightD d) {id : Int} (h0 : 0 ≤ id) (h1 : id < 256 + (d.ms.length : Int)) : depthOf d id < ((wordOf d.ws id).1.size : Int) ∧ depthOf d id ≤ d.ms.length ∧ (wordOf d.ws id).1.size ≤ 256 := by
  have byte : ∀ {id : Int}, 0 ≤ id → id < 256 → depthOf d id < ((wordOf d.ws id).1.size : Int) := by
    intro id h0 h1
    rw [depthOf_byte hd h1, wordOf_byte h0 h1]
    show (0 : Int) < ((1 : Nat) : Int)
    decide
  have made : ∀ (j : Nat) (x : Mrg), d.ms[j]? = some x → depthOf d x.i < ((wordOf d.ws x.i).1.size : Int) ∧ depthOf d x.i ≤ j + 1 := by
    intro j
    induction j using Nat.strongRecOn with
    | _ j ih =>
      intro x hj
      have part : ∀ id, madeB (d.ms.take j) id = true → depthOf d id < ((wordOf d.ws id).1.size : Int) ∧ depthOf d id ≤ j ∧ 0 ≤ depthOf d id := by
        intro id hm
        rcases part_cases hm with h | ⟨i, y, hi, hy, rfl⟩
        · exact ⟨byte h.1 h.2, by rw [depthOf_byte hd h.2]; omega, (depthOf_bd d id).1⟩
        · have := ih i hi y hy
          exact ⟨this.1, by omega, (depthOf_bd d y.i).1⟩
      have hl := part _ (hd.pl j x hj)
      have hr := part _ (hd.pr j x hj)
      have e := congrArg ByteArray.size (hd.wd j x hj)
      rw [ByteArray.size_append] at e
      rw [depthOf_at hd hj, e]
      unfold mx
      split <;> omega
  have h3 := (leavesOf_len hd 0 h0 h1).2.2
  by_cases hb : id < 256
  · exact ⟨byte h0 hb, by rw [depthOf_byte hd hb]; omega, h3⟩
  · obtain ⟨j, x, _, hj, rfl, hlt⟩ := hd.rank_ex (by omega) h1
    have := made j x hj
    exact ⟨this.1, by omega, h3⟩
theorem depthT_in {d : Dat} {id : Int} (h0 : 0 ≤ id) (h1 : id < 256 + (d.ms.length : Int)) : depthT d id = depthOf d id := by
  unfold depthT
  rw [if_neg (by omega), if_neg (by omega)]

set_option maxRecDepth 100000 in
set_option maxHeartbeats 8000000 in
theorem deep_any (w : World) (L : Pl) (d : Dat) (h : DR w L d) : Calls Try.prog 4 #[.agg #[.slice L.p0 d.ws.length L.c0, .slice L.p1 d.ms.length L.c1, .slice L.p2 d.ls.length L.c2, .slice L.p3 d.ns.length L.c3, .slice L.p4 d.ss.length L.c4]] w fun e w' => e = .returned (.bool true) ∧ Ext (fun _ => False) w w' := by
  have hb : (w.alloc (.cells #[.slice L.p0 d.ws.length L.c0, .slice L.p1 d.ms.length L.c1, .slice L.p2 d.ls.length L.c2, .slice L.p3 d.ns.length L.c3, .slice L.p4 d.ss.length L.c4] 26)).heap[w.heap.size]? = _ := heap_alloc_new w _
  have X0 := Lib.hid ((Ext.refl (fun _ => False) w).alloc (.cells #[.slice L.p0 d.ws.length L.c0, .slice L.p1 d.ms.length L.c1, .slice L.p2 d.ls.length L.c2, .slice L.p3 d.ns.length L.c3, .slice L.p4 d.ss.length L.c4] 26))
  have C := Lib.hid (of5_any _ L d (h.on X0.out))
  have HB := Lib.hid hb
  have hb0 := h.b0
  clear hb h
  go_enter Try.func4, Try.ntmps4
  go_wp2_with fail
  refine C.out.mono ?_
  rintro e W ⟨hx, h⟩
  have X := Lib.hid (X0.out.trans hx (fun _ _ h => h))
  have B := Lib.hid (hx.obj HB.out (fun h => h))
  clear hx C
  rcases h with ⟨hg, rfl⟩ | ⟨hg, a, rfl, hm, hwa⟩
  · have K := Lib.hid (known24_any W)
    clear hg
    go_wp2_with fail
    refine K.out.mono ?_
    rintro e W2 ⟨rfl, hx2⟩
    have X2 := Lib.hid (X.out.trans hx2 (fun _ _ h => h))
    clear hx2
    go_wp2_with fail
    go_ret
    exact ⟨rfl, X2.out⟩
  · have D := Lib.hid (RightD.of_good hg)
    have M := Lib.hid hm
    have few := good_few hg
    have hlen := D.out.len
    have hsz : ∃ (p : Option Addr) (c : Nat), ∀ V, Ext (fun _ => False) W V → V.cell? ⟨a, 0, none⟩ = some (.slice p d.ws.length c) ∧ Rd eS V p d.ws := by
      obtain ⟨L, tp, mp, q0, q1, q2, d0, d1, d2, hM⟩ := hm
      exact ⟨L.p0, L.c0, fun V hx => ⟨(hM.on hx).blk.c0, (hM.on hx).rd.r0⟩⟩
    obtain ⟨p, c, hsz⟩ := hsz
    have SZ := Lib.hid (fun V hx => show Calls Try.prog 22 #[.pointer (some ⟨a, 0, none⟩)] V fun e w' => e = .returned (.int .i64 (256 + (d.ms.length : Int))) ∧ V = w' from by
      have := size_any V a p d.ws.length c (hsz V hx).1 (by omega)
      rwa [hlen] at this)
    have WD := Lib.hid (fun V id hx => word_any V a p c d.ws id (hsz V hx).1 (hsz V hx).2 (by omega))
    clear hg hm hsz hlen
    go_wp2_with fail
    go_loopw [6] (fun i wr => ∃ n : Nat, i = .int .i64 n ∧ n ≤ 256 + d.ms.length ∧ Ext (fun _ => False) W wr) (fun i _ => 256 + d.ms.length - (intOf i).toNat)
    case atStart => exact ⟨0, rfl, Nat.zero_le _, Ext.refl _ _⟩
    case round =>
      obtain ⟨n, rfl, hn, hx⟩ := hrel
      have EX := Lib.hid hx
      clear hx
      by_cases hlt : n < 256 + d.ms.length
      · have i1 : (n : Int) < 256 + (d.ms.length : Int) := by omega
        go_wp2_with fail
        refine (SZ.out _ EX.out).mono ?_
        rintro e w' ⟨rfl, rfl⟩
        have P := Lib.hid (parts_any wr a d n (M.out.on EX.out) D.out ⟨by omega, by omega⟩)
        go_wp2_with fail
        refine P.out.mono ?_
        rintro e W1 ⟨rfl, hx1⟩
        have E1 := Lib.hid (EX.out.trans hx1 (fun _ _ h => h))
        clear hx1 P
        obtain ⟨askl, hal⟩ : ∃ y, askT d n (·.l) = y := ⟨_, rfl⟩
        obtain ⟨askr, har⟩ : ∃ y, askT d n (·.r) = y := ⟨_, rfl⟩
        rw [hal, har]
        have HAL := Lib.hid hal
        have HAR := Lib.hid har
        clear hal har
        go_wp2_with fail
        refine (depth_any W1 a d n (M.out.on E1.out) D.out).mono ?_
        rintro e W2 ⟨rfl, hx2⟩
        have E2 := Lib.hid (E1.out.trans hx2 (fun _ _ h => h))
        clear hx2
        obtain ⟨f1, f2, f3⟩ := depth_fine D.out (id := n) (by omega) i1
        have f0 := (depthOf_bd d n).1
        rw [depthT_in (by omega) i1]
        obtain ⟨dn, hdn⟩ : ∃ dn, depthOf d n = dn := ⟨_, rfl⟩
        rw [hdn] at f0 f1 f2 ⊢
        have HDN := Lib.hid hdn
        clear hdn
        go_wp2_with fail
        refine (WD.out W2 n E2.out).mono ?_
        rintro e W3 ⟨rfl, hx3⟩
        have E3 := Lib.hid (E2.out.trans hx3 (fun _ _ h => h))
        have B3 := (X.out.trans E3.out (fun _ _ h => h))
        clear hx3
        have wz : n < 256 → (wordOf d.ws n).1.size = 1 := fun h => by rw [wordOf_byte (by omega) (by omega)]; rfl
        obtain ⟨wd, hwd⟩ : ∃ wd, (wordOf d.ws n).1 = wd := ⟨_, rfl⟩
        rw [hwd] at f1 f3 wz ⊢
        have WZ := Lib.hid wz
        clear hwd B3 wz
        have g1 := blk_cell (E3.out.obj B.out (fun h => h)) 1
        simp at g1
        by_cases h0 : n < 256
        · have ha : askl = (0, false) := by rw [← HAL.out]; exact askT_none (.inl (by omega))
          have hb : askr = (0, false) := by rw [← HAR.out]; exact askT_none (.inl (by omega))
          have hz : dn = 0 := by rw [← HDN.out]; exact depthOf_byte D.out (by omega)
          have hs := WZ.out h0
          rw [ha, hz]
          subst hz
          have d1 : decide ((n : Int) ≥ 256) = false := decide_eq_false (by omega)
          clear f1 f2 f0
          go_wp2_with fail
          go_roundw
          case rel => exact ⟨n + 1, by go_num, by omega, E3.out⟩
          case measure => simp [intOf]; omega
        · obtain ⟨j, x, _, hj, hxi, _⟩ := D.out.rank_ex (id := n) (by omega) i1
          have ha : askl = (x.l, true) := by rw [← HAL.out, ← hxi]; exact askT_at D.out hj _
          have hb : askr = (x.r, true) := by rw [← HAR.out, ← hxi]; exact askT_at D.out hj _
          have hl := D.out.part_range (D.out.pl j x hj)
          have hr := D.out.part_range (D.out.pr j x hj)
          have hdd : dn = 1 + mx (depthOf d x.l) (depthOf d x.r) := by rw [← HDN.out, ← hxi]; exact depthOf_at D.out hj
          have el := depthT_in hl.1 hl.2
          have er := depthT_in hr.1 hr.2
          have bl := depthOf_bd d x.l
          have br := depthOf_bd d x.r
          obtain ⟨y, hy⟩ : ∃ y, depthOf d x.l = y := ⟨_, rfl⟩
          obtain ⟨z, hz⟩ : ∃ z, depthOf d x.r = z := ⟨_, rfl⟩
          rw [hy] at hdd el bl
          rw [hz] at hdd er br
          have EL := Lib.hid el
          have ER := Lib.hid er
          have HDD := Lib.hid hdd
          rw [ha, hb]
          have d1 : decide ((n : Int) ≥ 256) = true := decide_eq_true (by omega)
          have d0 : decide (dn < 0) = false := decide_eq_false (by omega)
          have d2 : decide (dn ≥ (wd.size : Int)) = false := decide_eq_false (by omega)
          have d3 : decide (dn > (d.ms.length : Int)) = false := decide_eq_false (by omega)
          clear ha hb hj hxi hdd el er hy hz hl hr
          go_wp2_with fail
          refine (depth_any W3 a d x.l (M.out.on E3.out) D.out).mono ?_
          rintro e W4 ⟨rfl, hx4⟩
          have E4 := Lib.hid (E3.out.trans hx4 (fun _ _ h => h))
          clear hx4
          rw [EL.out]
          go_wp2_with fail
          refine (depth_any W4 a d x.r (M.out.on E4.out) D.out).mono ?_
          rintro e W5 ⟨rfl, hx5⟩
          have E5 := Lib.hid (E4.out.trans hx5 (fun _ _ h => h))
          clear hx5
          rw [ER.out]
          have hm : (y < z ∧ dn = z + 1) ∨ (¬ y < z ∧ dn = y + 1) := by
            have := HDD.out
            unfold mx at this
            by_cases h : y < z
            · rw [if_pos h] at this; exact .inl ⟨h, by omega⟩
            · rw [if_neg h] at this; exact .inr ⟨h, by omega⟩
          rcases hm with ⟨h1, h2⟩ | ⟨h1, h2⟩
          · have c1 : decide (z > y) = true := decide_eq_true h1
            subst h2
            go_wp2_with fail
            go_roundw
            case rel => exact ⟨n + 1, by go_num, by omega, E5.out⟩
            case measure => simp [intOf]; omega
          · have c1 : decide (z > y) = false := decide_eq_false h1
            subst h2
            go_wp2_with fail
            go_roundw
            case rel => exact ⟨n + 1, by go_num, by omega, E5.out⟩
            case measure => simp [intOf]; omega
      · have i1 : ¬ (n : Int) < 256 + (d.ms.length : Int) := by omega
        go_wp2_with fail
        refine (SZ.out _ EX.out).mono ?_
        rintro e w' ⟨rfl, rfl⟩
        go_wp2_with fail
        refine (known24_any _).mono ?_
        rintro e W2 ⟨rfl, hx2⟩
        have X2 := Lib.hid (X.out.trans (EX.out.trans hx2 (fun _ _ h => h)) (fun _ _ h => h))
        clear hx2
        go_wp2_with fail
        go_ret
        exact ⟨rfl, X2.out⟩
end Go.Proofs.Ytbepmbihonnkaaa.Sl
