/- law24.PruneTwice. -/
import Derived.Test.YtbepmbihonnkaaaPruneFirst
import Derived.Test.YtbepmbihonnkaaaCutTwice
namespace Go.Proofs.Ytbepmbihonnkaaa.Sl
open Go.Proofs.Ytbepmbihonnkaaa.Lib
open Go.RowKit
set_option linter.unusedVariables false
set_option linter.unusedSimpArgs false

theorem inI_wf {n : Int} (h : (Lit.int .i64 n).wf = true) : inI n := by
  unfold inI
  simp [Lit.wf, IntKind.min, IntKind.max, IntKind.signed, IntKind.bits] at h
  omega
def WithinEnd (w : World) (n : Int) (e : Ending) (w' : World) : Prop := ∃ r : Int, e = .returned (.int .i64 r) ∧ 0 ≤ r ∧ r ≤ n ∧ w = w'
theorem within0_any (w : World) (k : Int) (n : Int) (hk : inI k) (h0 : 0 ≤ n) (hn : n ≤ 1000000) :
    Calls Try.prog 29 #[.int .i64 k, .int .i64 0, .int .i64 n] w fun e w' => WithinEnd w n e w' := by
  obtain ⟨k0, k1⟩ := hk
  by_cases h : 0 ≤ k
  · have h1 := Int.emod_nonneg k (show n + 1 ≠ 0 by omega)
    have h2 := Int.emod_lt_of_pos k (show (0 : Int) < n + 1 by omega)
    go_enter Try.func29, Try.ntmps29
    go_wp2_with fail
    go_ret
    exact ⟨k % (n + 1), ret_int (by omega), h1, by omega, rfl⟩
  · have h1 := Int.tmod_lt_of_pos k (show (0 : Int) < n + 1 by omega)
    have h2 := Int.lt_tmod_of_pos k (show (0 : Int) < n + 1 by omega)
    obtain ⟨r, hr⟩ : ∃ r, k.tmod (n + 1) = r := ⟨_, rfl⟩
    rw [hr] at h1 h2
    by_cases hz : r < 0
    · go_enter Try.func29, Try.ntmps29
      go_wp2_with fail
      go_ret
      exact ⟨r + n + 1, ret_int (by omega), by omega, by omega, rfl⟩
    · go_enter Try.func29, Try.ntmps29
      go_wp2_with fail
      go_ret
      exact ⟨r, ret_int (by omega), by omega, by omega, rfl⟩

theorem data_m {W3 W : World} {a : Nat} {d : Dat} (h : IsModel W a d) (e : Ext (fun _ => False) W3 W) :
    Calls Try.prog 28 #[.pointer (some ⟨a, 0, none⟩)] W fun e w' => ∃ L2 : Pl, e = .returned (.agg #[.slice L2.p0 d.ws.length L2.c0, .slice L2.p1 d.ms.length L2.c1, .slice L2.p2 d.ls.length L2.c2, .slice L2.p3 d.ns.length L2.c3, .slice L2.p4 d.ss.length L2.c4]) ∧ DR w' L2 d ∧ Ext (fun _ => False) W3 w' := by
  have h2 := h
  obtain ⟨L, tp, mp, q0, q1, q2, d0, d1, d2, hM⟩ := h2
  exact data_b h hM.rd e
set_option maxRecDepth 100000 in
set_option maxHeartbeats 16000000 in
theorem ptwice_any (w : World) (L : Pl) (d : Dat) (h : DR w L d) (k : Int) (hk : (Lit.int .i64 k).wf = true) (j : Int) (hj : (Lit.int .i64 j).wf = true) :
    Calls Try.prog 7 #[.agg #[.slice L.p0 d.ws.length L.c0, .slice L.p1 d.ms.length L.c1, .slice L.p2 d.ls.length L.c2, .slice L.p3 d.ns.length L.c3, .slice L.p4 d.ss.length L.c4], .int .i64 k, .int .i64 j] w fun e w' => e = .returned (.bool true) ∧ Ext (fun _ => False) w w' := by
  have hb : (w.alloc (.cells (dataCells L d) 26)).heap[w.heap.size]? = _ := heap_alloc_new w _
  have X0 := Lib.hid ((Ext.refl (fun _ => False) w).alloc (.cells (dataCells L d) 26))
  have C := Lib.hid (of5_any _ L d (h.on X0.out))
  have HB := Lib.hid hb
  have R := Lib.hid h
  have HK := Lib.hid (inI_wf hk)
  have HJ := Lib.hid (inI_wf hj)
  clear hb h hk hj
  go_enter Try.func7, Try.ntmps7
  go_wp2_with fail
  refine C.out.mono ?_
  rintro e W ⟨hx, h⟩
  have X := Lib.hid (X0.out.trans hx (fun _ _ h => h))
  have B := Lib.hid (hx.obj HB.out (fun h => h))
  clear hx C
  rcases h with ⟨hg, rfl⟩ | ⟨hg, a, rfl, hm, hwa⟩
  · have K := Lib.hid (known24_any W)
    clear hg
    go_wp2_with fail
    refine K.out.mono ?_
    rintro e W2 ⟨rfl, hx2⟩
    have X2 := Lib.hid (X.out.trans hx2 (fun _ _ h => h))
    clear hx2
    go_wp2_with fail
    go_ret
    exact ⟨rfl, X2.out⟩
  · have D := Lib.hid (RightD.of_good hg)
    have M := Lib.hid hm
    have few := good_few hg
    have HG := Lib.hid hg
    clear hg hm
    have b1 := blk_cell B.out 1
    simp [dataCells] at b1
    go_wp2_with fail
    refine (within0_any W k _ HK.out (by omega) (by omega)).mono ?_
    rintro e W' ⟨k1, rfl, hk0, hk1, rfl⟩
    go_wp2_with fail
    refine (within0_any W j _ HJ.out (by omega) (by omega)).mono ?_
    rintro e W' ⟨j1, rfl, hj0, hj1, rfl⟩
    have P1 := Lib.hid (pfirst_any W a d k1 M.out HG.out)
    clear b1
    go_wp2_with fail
    refine P1.out.mono ?_
    rintro e W1 ⟨a1, i1, rfl, hm1, _, hx1, _, _⟩
    have X1 := Lib.hid (X.out.trans hx1 (fun _ _ h => h))
    have M1 := Lib.hid (M.out.on hx1)
    have B1 := Lib.hid (hx1.obj B.out (fun h => h))
    have CK := Lib.hid (cut_kc D.out hk0 hj0)
    have P2 := Lib.hid (pfirst_any W1 a1 (cutD d (kc d k1)) j1 hm1 (good_cut HG.out (kc_le d k1)))
    clear hm1 hx1 P1 M B X
    go_wp2_with fail
    refine P2.out.mono ?_
    rintro e W2 ⟨a2, i2, rfl, hm2, _, hx2, _, _⟩
    rw [CK.out] at hm2
    have X2 := Lib.hid (X1.out.trans hx2 (fun _ _ h => h))
    have M2 := Lib.hid (M1.out.on hx2)
    have B2 := Lib.hid (hx2.obj B1.out (fun h => h))
    have Y2 := Lib.hid hm2
    clear hm2 hx2 P2 M1 B1 X1 CK
    obtain ⟨n2, hn2⟩ : ∃ n2, 256 + (cutD d (kc d k1)).ms.length = n2 := ⟨_, rfl⟩
    rw [hn2]
    clear hn2
    go_upto_if 70 with fail
    obtain ⟨l, hl⟩ : ∃ l, (if j1 < k1 then j1 else k1) = l := ⟨_, rfl⟩
    rw [hl] at Y2
    have HL := Lib.hid hl
    clear hl
    go_cut [16] (fun v wc => W2 = wc ∧ v = .int .i64 l)
    case first =>
      by_cases hlt : j1 < k1
      · have E := Lib.hid (show l = j1 from by rw [← HL.out, if_pos hlt])
        go_wp2_with fail
        go_meet
        exact ⟨rfl, by rw [E.out]⟩
      · have E := Lib.hid (show l = k1 from by rw [← HL.out, if_neg hlt])
        go_wp2_with fail
        go_meet
        exact ⟨rfl, by rw [E.out]⟩
    case rest =>
      obtain ⟨rfl, rfl⟩ := hcut
      have P3 := Lib.hid (pfirst_any W2 a d l M2.out HG.out)
      go_wp2_with fail
      refine P3.out.mono ?_
      rintro e W3 ⟨a3, i3, rfl, hm3, _, hx3, _, _⟩
      have X3 := Lib.hid (X2.out.trans hx3 (fun _ _ h => h))
      have M3 := Lib.hid (M2.out.on hx3)
      have B3 := Lib.hid (hx3.obj B2.out (fun h => h))
      have Y3 := Lib.hid (Y2.out.on hx3)
      have Z3 := Lib.hid hm3
      have b1 := blk_cell B3.out 1
      simp [dataCells] at b1
      have P4 := Lib.hid (show Calls Try.prog 25 #[.pointer (some ⟨a, 0, none⟩), .int .i64 (d.ms.length : Int)] W3 fun e w' => PFirstEnd W3 d d.ms.length e w' from by
        have := pfirst_any W3 a d (d.ms.length : Int) M3.out HG.out
        rwa [kc_all] at this)
      clear hm3 hx3 P3 M2 B2 X2 Y2
      go_wp2_with fail
      refine P4.out.mono ?_
      rintro e W4 ⟨a4, i4, rfl, hm4, _, hx4, _, _⟩
      rw [cut_all D.out] at hm4
      have X4 := Lib.hid (X3.out.trans hx4 (fun _ _ h => h))
      have B4 := Lib.hid (hx4.obj B3.out (fun h => h))
      have Y4 := Lib.hid (Y3.out.on hx4)
      have Z4 := Lib.hid (Z3.out.on hx4)
      have A4 := Lib.hid hm4
      clear hm4 hx4 P4 M3 B3 X3 Y3 Z3 b1
      go_wp2_with fail
      obtain ⟨q, hq⟩ : ∃ q, cutD d (kc d l) = q := ⟨_, rfl⟩
      rw [hq] at Y4 Z4
      clear hq
      have CE := Lib.hid (show ∀ w', Ext (fun _ => False) W4 w' → (w'.cell? ⟨w.heap.size, 0, none⟩ = some (.slice L.p0 d.ws.length L.c0) ∧ w'.cell? ⟨w.heap.size, 1, none⟩ = some (.slice L.p1 d.ms.length L.c1) ∧ w'.cell? ⟨w.heap.size, 2, none⟩ = some (.slice L.p2 d.ls.length L.c2) ∧ w'.cell? ⟨w.heap.size, 3, none⟩ = some (.slice L.p3 d.ns.length L.c3) ∧ w'.cell? ⟨w.heap.size, 4, none⟩ = some (.slice L.p4 d.ss.length L.c4)) ∧ Ext (fun _ => False) W4 w' from fun w' e =>
        have b := e.obj B4.out (fun h => h)
        ⟨⟨blk_cell b 0, blk_cell b 1, blk_cell b 2, blk_cell b 3, blk_cell b 4⟩, e⟩)
      have D0 := Lib.hid (show Ext (fun _ => False) W4 W4.drew from Ext.drew (Ext.refl _ _))
      have DY := Lib.hid (fun W (e : Ext (fun _ => False) W4 W) => data_m (Y4.out.on e) e)
      have DZ := Lib.hid (fun W (e : Ext (fun _ => False) W4 W) => data_m (Z4.out.on e) (Ext.refl (fun _ => False) W))
      have DA := Lib.hid (fun W (e : Ext (fun _ => False) W4 W) => data_m (A4.out.on e) e)
      have SX := Lib.hid (fun W (e : Ext (fun _ => False) W4 W) (L2 L3 : Pl) (h : DR W L2 q) (h3 : DR W L3 q) => from_ e (sameD_any W L2 L3 q h h3))
      have SM := Lib.hid (fun W (e : Ext (fun _ => False) W4 W) (L2 : Pl) (h : DR W L2 d) => from_ e (sameD_any W L2 L d h (R.out.on (X4.out.trans e (fun _ _ h => h)))))
      have KN := Lib.hid (fun W (e : Ext (fun _ => False) W4 W) => from_ e (known24_any W))
      go_region_held3 (fun w' => (w'.cell? ⟨w.heap.size, 0, none⟩ = some (.slice L.p0 d.ws.length L.c0) ∧ w'.cell? ⟨w.heap.size, 1, none⟩ = some (.slice L.p1 d.ms.length L.c1) ∧ w'.cell? ⟨w.heap.size, 2, none⟩ = some (.slice L.p2 d.ls.length L.c2) ∧ w'.cell? ⟨w.heap.size, 3, none⟩ = some (.slice L.p3 d.ns.length L.c3) ∧ w'.cell? ⟨w.heap.size, 4, none⟩ = some (.slice L.p4 d.ss.length L.c4)) ∧ Ext (fun _ => False) W4 w')
        (first | exact CE.out _ D0.out | exact CE.out _ G6.out | exact CE.out _ G5.out | exact CE.out _ G4.out | exact CE.out _ G3.out | exact CE.out _ G2.out | exact CE.out _ G1.out)
        (first
          | (go_at_call 28; (with_reducible refine (DY.out _ ?_).mono ?_); (exact D0.out); rintro e V1 ⟨L2, rfl, hR1, hx1⟩; have G1 := Lib.hid hx1; have R1 := Lib.hid hR1; clear hx1 hR1)
          | (go_at_call 28; (with_reducible refine (DZ.out _ ?_).mono ?_); (exact G1.out); rintro e V2 ⟨L3, rfl, hR2, hx2⟩; have G2 := Lib.hid (G1.out.trans hx2 (fun _ _ h => h)); have R2 := Lib.hid hR2; have R12 := Lib.hid (R1.out.on hx2); clear hx2 hR2)
          | (go_at_call 28; (with_reducible refine (DA.out _ ?_).mono ?_); (exact G3.out); rintro e V4 ⟨L4, rfl, hR4, hx4⟩; have G4 := Lib.hid hx4; have R4 := Lib.hid hR4; clear hx4 hR4)
          | (go_at_call 27; (with_reducible refine (SX.out _ ?_ L2 L3 ?_ ?_).mono ?_); (exact G2.out); (exact R12.out); (exact R2.out); rintro e V3 ⟨rfl, hx3⟩; have G3 := Lib.hid hx3; clear hx3)
          | (go_at_call 27; (with_reducible refine (SM.out _ ?_ L4 ?_).mono ?_); (exact G4.out); (exact R4.out); rintro e V5 ⟨rfl, hx5⟩; have G5 := Lib.hid hx5; clear hx5)
          | (go_at_call 12; (with_reducible refine (KN.out _ ?_).mono ?_); (exact G5.out); rintro e V6 ⟨rfl, hx6⟩; have G6 := Lib.hid hx6; clear hx6))
      have X9 := Lib.hid (X4.out.trans G6.out (fun _ _ h => h))
      go_wp2_with fail
      go_ret
      exact ⟨rfl, X9.out⟩
end Go.Proofs.Ytbepmbihonnkaaa.Sl
