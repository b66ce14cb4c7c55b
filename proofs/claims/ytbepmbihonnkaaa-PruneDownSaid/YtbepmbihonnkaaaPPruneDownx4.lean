-- PRINTED BY print.sh 35421559b90ae4d0a3588c463048766b98c2df88dd9212a6774a882060cdf62d: not written by this session
import Derived.Test.YtbepmbihonnkaaaPPruneDownx0
import Derived.Test.YtbepmbihonnkaaaPPruneDownx2
import Derived.Test.YtbepmbihonnkaaaPPruneDownx3
namespace Go.Proofs.Ytbepmbihonnkaaa.PPruneDown
open Go.RowKit Go.Proofs.YtbepmbihonnkaaaW.PrintWords Go.Proofs.YtbepmbihonnkaaaW.PrintLast Go.Proofs.YtbepmbihonnkaaaW.PrintMore
attribute [local go_sem] max2_int min2_int max_two min_two max_three min_three max_four min_four   -- for this text's walks alone
set_option linter.unusedVariables false
set_option linter.unusedSimpArgs false

/-! ### tesseraref4_Check: function 58 -/
mutual
def tesseraref4_Check.l0 : Nat → List (S94) → List (S94) → List (S94) → List (List (S94)) → Int → Option (Int × Int × Int)
  | 0, _, _, _, _, _ => none
  | k + 1, x0, x1, x2, x7, x8 => if x8 < 3 then (if 0 ≤ x8 then (if x8 < (x7.length : Int) then (if ((rd_L5 x7 x8).length : Int) > 512 then (some (4, wrap64 (x8 + 1), 512)) else (tesseraref4_Check.l0 k x0 x1 x2 x7 (wrap64 (x8 + 1)))) else (none)) else (none)) else (tesseraref4_Check.l1 k x0 x1 x2 x7 0)
def tesseraref4_Check.l1 : Nat → List (S94) → List (S94) → List (S94) → List (List (S94)) → Int → Option (Int × Int × Int)
  | 0, _, _, _, _, _ => none
  | k + 1, x0, x1, x2, x7, x9 => if x9 < 3 then (if 0 ≤ x9 then (if x9 < (x7.length : Int) then ((tesseraref3_Right.f k (rd_L5 x7 x9)).bind fun bt144 => (if bt144.2 = 0 then (tesseraref4_Check.l1 k x0 x1 x2 x7 (wrap64 (x9 + 1))) else (some (bt144.2, wrap64 (x9 + 1), bt144.1)))) else (none)) else (none)) else (tesseraref4_Check.l2 k x0 x1 x2 x7 1)
def tesseraref4_Check.l2 : Nat → List (S94) → List (S94) → List (S94) → List (List (S94)) → Int → Option (Int × Int × Int)
  | 0, _, _, _, _, _ => none
  | k + 1, x0, x1, x2, x7, x12 => if x12 < 3 then (tesseraref4_Check.l3 k x0 x1 x2 x7 x12 (-1) 0) else ((tesseraref3_In.f k x2 32).bind fun t150 => (if t150 = true then ((tesseraref3_In.f k x0 39).bind fun t151 => (if t151 = true then (some (20, 3, 0)) else ((tesseraref3_In.f k x1 39).bind fun t152 => (if t152 = true then (some (20, 3, 0)) else ((tesseraref3_In.f k x2 39).bind fun t153 => (if t153 = true then (some (20, 3, 0)) else (some (0, 0, 0)))))))) else (some (20, 3, 0))))
def tesseraref4_Check.l3 : Nat → List (S94) → List (S94) → List (S94) → List (List (S94)) → Int → Int → Int → Option (Int × Int × Int)
  | 0, _, _, _, _, _, _, _ => none
  | k + 1, x0, x1, x2, x7, x12, x13, x14 => if x14 < x12 then (if 0 ≤ x12 then (if x12 < (x7.length : Int) then (if 0 ≤ x14 then (if x14 < (x7.length : Int) then ((tesseraref3_Meet.f k (rd_L5 x7 x12) (rd_L5 x7 x14)).bind fun bt148 => (if bt148.2 = true then (if x13 < 0 then (tesseraref4_Check.l3 k x0 x1 x2 x7 x12 bt148.1 (wrap64 (x14 + 1))) else (if bt148.1 < x13 then (tesseraref4_Check.l3 k x0 x1 x2 x7 x12 bt148.1 (wrap64 (x14 + 1))) else (tesseraref4_Check.l3 k x0 x1 x2 x7 x12 x13 (wrap64 (x14 + 1))))) else (tesseraref4_Check.l3 k x0 x1 x2 x7 x12 x13 (wrap64 (x14 + 1))))) else (none)) else (none)) else (none)) else (none)) else (if x13 ≥ 0 then (some (16, wrap64 (x12 + 1), x13)) else (tesseraref4_Check.l2 k x0 x1 x2 x7 (wrap64 (x12 + 1))))
end
def tesseraref4_Check.f (k : Nat) (l0 : List (S94)) (l1 : List (S94)) (l2 : List (S94)) : Option (Int × Int × Int) := tesseraref4_Check.l0 k l0 l1 l2 (([l0, l1, l2] : List (List (S94)))) 0
theorem tesseraref4_Check.mono_l : ∀ k, (∀ y0 y1 y2 y3 y4, LeO (tesseraref4_Check.l0 k y0 y1 y2 y3 y4) (tesseraref4_Check.l0 (k + 1) y0 y1 y2 y3 y4)) ∧ (∀ y0 y1 y2 y3 y4, LeO (tesseraref4_Check.l1 k y0 y1 y2 y3 y4) (tesseraref4_Check.l1 (k + 1) y0 y1 y2 y3 y4)) ∧ (∀ y0 y1 y2 y3 y4, LeO (tesseraref4_Check.l2 k y0 y1 y2 y3 y4) (tesseraref4_Check.l2 (k + 1) y0 y1 y2 y3 y4)) ∧ (∀ y0 y1 y2 y3 y4 y5 y6, LeO (tesseraref4_Check.l3 k y0 y1 y2 y3 y4 y5 y6) (tesseraref4_Check.l3 (k + 1) y0 y1 y2 y3 y4 y5 y6))
  | 0 => ⟨fun _ _ _ _ _ r h => by simp [tesseraref4_Check.l0] at h, fun _ _ _ _ _ r h => by simp [tesseraref4_Check.l1] at h, fun _ _ _ _ _ r h => by simp [tesseraref4_Check.l2] at h, fun _ _ _ _ _ _ _ r h => by simp [tesseraref4_Check.l3] at h⟩
  | k + 1 => by
    obtain ⟨ih0, ih1, ih2, ih3⟩ := tesseraref4_Check.mono_l k
    refine ⟨?_, ?_, ?_, ?_⟩
    · intro y0 y1 y2 y3 y4
      unfold tesseraref4_Check.l0
      repeat' first
      | (with_reducible exact ih0 _ _ _ _ _)
      | (with_reducible exact ih1 _ _ _ _ _)
      | (with_reducible exact ih2 _ _ _ _ _)
      | (with_reducible exact ih3 _ _ _ _ _ _ _)
      | (with_reducible exact tesseraref3_In.mono _ _ _)
      | (with_reducible exact tesseraref3_Meet.mono _ _ _)
      | (with_reducible exact tesseraref3_Right.mono _ _)
      | (with_reducible exact LeO.refl _)
      | (with_reducible exact LeO.none _)
      | (with_reducible refine LeO.ite ?_ ?_)
      | (with_reducible refine LeO.bind ?_ (fun _ => ?_))
      | exact ih0 _ _ _ _ _
      | exact ih1 _ _ _ _ _
      | exact ih2 _ _ _ _ _
      | exact ih3 _ _ _ _ _ _ _
      | exact tesseraref3_In.mono _ _ _
      | exact tesseraref3_Meet.mono _ _ _
      | exact tesseraref3_Right.mono _ _
      | exact LeO.none _
      | refine LeO.ite ?_ ?_
      | refine LeO.bind ?_ (fun _ => ?_)
    · intro y0 y1 y2 y3 y4
      unfold tesseraref4_Check.l1
      repeat' first
      | (with_reducible exact ih0 _ _ _ _ _)
      | (with_reducible exact ih1 _ _ _ _ _)
      | (with_reducible exact ih2 _ _ _ _ _)
      | (with_reducible exact ih3 _ _ _ _ _ _ _)
      | (with_reducible exact tesseraref3_In.mono _ _ _)
      | (with_reducible exact tesseraref3_Meet.mono _ _ _)
      | (with_reducible exact tesseraref3_Right.mono _ _)
      | (with_reducible exact LeO.refl _)
      | (with_reducible exact LeO.none _)
      | (with_reducible refine LeO.ite ?_ ?_)
      | (with_reducible refine LeO.bind ?_ (fun _ => ?_))
      | exact ih0 _ _ _ _ _
      | exact ih1 _ _ _ _ _
      | exact ih2 _ _ _ _ _
      | exact ih3 _ _ _ _ _ _ _
      | exact tesseraref3_In.mono _ _ _
      | exact tesseraref3_Meet.mono _ _ _
      | exact tesseraref3_Right.mono _ _
      | exact LeO.none _
      | refine LeO.ite ?_ ?_
      | refine LeO.bind ?_ (fun _ => ?_)
    · intro y0 y1 y2 y3 y4
      unfold tesseraref4_Check.l2
      repeat' first
      | (with_reducible exact ih0 _ _ _ _ _)
      | (with_reducible exact ih1 _ _ _ _ _)
      | (with_reducible exact ih2 _ _ _ _ _)
      | (with_reducible exact ih3 _ _ _ _ _ _ _)
      | (with_reducible exact tesseraref3_In.mono _ _ _)
      | (with_reducible exact tesseraref3_Meet.mono _ _ _)
      | (with_reducible exact tesseraref3_Right.mono _ _)
      | (with_reducible exact LeO.refl _)
      | (with_reducible exact LeO.none _)
      | (with_reducible refine LeO.ite ?_ ?_)
      | (with_reducible refine LeO.bind ?_ (fun _ => ?_))
      | exact ih0 _ _ _ _ _
      | exact ih1 _ _ _ _ _
      | exact ih2 _ _ _ _ _
      | exact ih3 _ _ _ _ _ _ _
      | exact tesseraref3_In.mono _ _ _
      | exact tesseraref3_Meet.mono _ _ _
      | exact tesseraref3_Right.mono _ _
      | exact LeO.none _
      | refine LeO.ite ?_ ?_
      | refine LeO.bind ?_ (fun _ => ?_)
    · intro y0 y1 y2 y3 y4 y5 y6
      unfold tesseraref4_Check.l3
      repeat' first
      | (with_reducible exact ih0 _ _ _ _ _)
      | (with_reducible exact ih1 _ _ _ _ _)
      | (with_reducible exact ih2 _ _ _ _ _)
      | (with_reducible exact ih3 _ _ _ _ _ _ _)
      | (with_reducible exact tesseraref3_In.mono _ _ _)
      | (with_reducible exact tesseraref3_Meet.mono _ _ _)
      | (with_reducible exact tesseraref3_Right.mono _ _)
      | (with_reducible exact LeO.refl _)
      | (with_reducible exact LeO.none _)
      | (with_reducible refine LeO.ite ?_ ?_)
      | (with_reducible refine LeO.bind ?_ (fun _ => ?_))
      | exact ih0 _ _ _ _ _
      | exact ih1 _ _ _ _ _
      | exact ih2 _ _ _ _ _
      | exact ih3 _ _ _ _ _ _ _
      | exact tesseraref3_In.mono _ _ _
      | exact tesseraref3_Meet.mono _ _ _
      | exact tesseraref3_Right.mono _ _
      | exact LeO.none _
      | refine LeO.ite ?_ ?_
      | refine LeO.bind ?_ (fun _ => ?_)
theorem tesseraref4_Check.mono : ∀ a0 a1 a2 k, LeO (tesseraref4_Check.f k a0 a1 a2) (tesseraref4_Check.f (k + 1) a0 a1 a2) := by
  intro a0 a1 a2 k
  obtain ⟨ih0, ih1, ih2, ih3⟩ := tesseraref4_Check.mono_l k
  unfold tesseraref4_Check.f
  repeat' first
      | (with_reducible exact ih0 _ _ _ _ _)
      | (with_reducible exact ih1 _ _ _ _ _)
      | (with_reducible exact ih2 _ _ _ _ _)
      | (with_reducible exact ih3 _ _ _ _ _ _ _)
      | (with_reducible exact tesseraref3_In.mono _ _ _)
      | (with_reducible exact tesseraref3_Meet.mono _ _ _)
      | (with_reducible exact tesseraref3_Right.mono _ _)
      | (with_reducible exact LeO.refl _)
      | (with_reducible exact LeO.none _)
      | (with_reducible refine LeO.ite ?_ ?_)
      | (with_reducible refine LeO.bind ?_ (fun _ => ?_))
      | exact ih0 _ _ _ _ _
      | exact ih1 _ _ _ _ _
      | exact ih2 _ _ _ _ _
      | exact ih3 _ _ _ _ _ _ _
      | exact tesseraref3_In.mono _ _ _
      | exact tesseraref3_Meet.mono _ _ _
      | exact tesseraref3_Right.mono _ _
      | exact LeO.none _
      | refine LeO.ite ?_ ?_
      | refine LeO.bind ?_ (fun _ => ?_)
set_option maxHeartbeats 8000000 in
set_option maxRecDepth 100000 in
theorem tesseraref4_Check.calls (k : Nat) (P0_ : Nat → Prop) (A0 : Option Addr) (c0 : Nat) (l0 : List (S94)) (P1_ : Nat → Prop) (A1 : Option Addr) (c1 : Nat) (l1 : List (S94)) (P2_ : Nat → Prop) (A2 : Option Addr) (c2 : Nat) (l2 : List (S94)) (r1 : Int) (r2 : Int) (r3 : Int) (w : World) (hs0 : Kd.V k94 94 w w.heap.size (fun k_ => P0_ k_) (.slice A0 l0.length c0) l0) (hs1 : Kd.V k94 94 w w.heap.size (fun k_ => P1_ k_) (.slice A1 l1.length c1) l1) (hs2 : Kd.V k94 94 w w.heap.size (fun k_ => P2_ k_) (.slice A2 l2.length c2) l2) (h : tesseraref4_Check.f k l0 l1 l2 = some (r1, r2, r3)) :
    Calls Try.prog 58 #[.slice A0 l0.length c0, .slice A1 l1.length c1, .slice A2 l2.length c2] w fun e w' => e = .returned (.agg #[.int .i64 r1, .int .i64 r2, .int .i64 r3]) ∧ Below w.heap.size w w' := by
  have hu114 := Try.underlying114
  have HO0 := Aside0.mk (show Kd.V k94 94 w w.heap.size (fun k_ => ((P0_ k_ ∨ P1_ k_ ∨ P2_ k_) ∨ w.heap.size ≤ k_)) (.slice A0 l0.length c0) l0 from Kd.V_mono hs0 (fun k_ hk => .inl (.inl hk)))
  have HO1 := Aside0.mk (show Kd.V k94 94 w w.heap.size (fun k_ => ((P0_ k_ ∨ P1_ k_ ∨ P2_ k_) ∨ w.heap.size ≤ k_)) (.slice A1 l1.length c1) l1 from Kd.V_mono hs1 (fun k_ hk => .inl (.inr (.inl hk))))
  have HO2 := Aside0.mk (show Kd.V k94 94 w w.heap.size (fun k_ => ((P0_ k_ ∨ P1_ k_ ∨ P2_ k_) ∨ w.heap.size ≤ k_)) (.slice A2 l2.length c2) l2 from Kd.V_mono hs2 (fun k_ hk => .inl (.inr (.inr hk))))
  have HB := Aside0.mk (Below.refl w.heap.size w)
  have H : (tesseraref4_Check.l0 k l0 l1 l2 (([l0, l1, l2] : List (List (S94)))) 0) = some (r1, r2, r3) := h
  clear h
  obtain ⟨y139, hy139⟩ : ∃ y_ : List (List (S94)), y_ = (([l0, l1, l2] : List (List (S94)))) := ⟨_, rfl⟩
  replace H : (tesseraref4_Check.l0 k l0 l1 l2 y139 0) = some (r1, r2, r3) := by first | (rw [hy139]; with_reducible exact H) | (have H2_ := (Option.bind_some _ _).symm.trans H; rw [hy139]; with_reducible exact H2_) | (have H2_ := (Option.bind_some _ _).symm.trans H; with_reducible exact H2_) | with_reducible exact H | (rw [hy139]; exact H) | exact H
  have Ny139 := Aside0.mk hy139
  clear hy139
  have H' := Aside0.mk H
  clear H
  go_enter Try.func58, Try.ntmps58
  go_wp2_with (first | ((with_reducible refine gate_dst (N := 6) rfl ?_); refine box_event ?hg (N := 6) ?hd (cs := #[.int .i64 0, .int .i64 0, .int .i64 0]) (t := 114) ?hr ?_; (case hd => rfl); (case hg => rfl); (case hr => first | (go_simp; done) | (go_simp; rfl)); intro gb138 hg w4 hbox hb; have n0_ := Aside0.mk (Kd.V_below (Kd.V_elderB (by (with_reducible repeat (first | apply Kd.V_alloc | apply Kd.V_drewN | apply Kd.V_drew)); exact HO0.out) gb138 (Nat.le_of_eq hg.symm)) hb); have n1_ := Aside0.mk (Kd.V_below (Kd.V_elderB (by (with_reducible repeat (first | apply Kd.V_alloc | apply Kd.V_drewN | apply Kd.V_drew)); exact HO1.out) gb138 (Nat.le_of_eq hg.symm)) hb); have n2_ := Aside0.mk (Kd.V_below (Kd.V_elderB (by (with_reducible repeat (first | apply Kd.V_alloc | apply Kd.V_drewN | apply Kd.V_drew)); exact HO2.out) gb138 (Nat.le_of_eq hg.symm)) hb); have n3_ := Aside0.mk (below_step (by repeat (first | (with_reducible first | exact HB.out | apply below_alloc | apply pw_below_drewN | apply below_drew1) | exact HB.out)) hb); have n4_ := Aside0.mk (hbox); have n5_ := Aside0.mk ((by rw [hg]; exact (below_size (by repeat (first | (with_reducible first | exact HB.out | apply below_alloc | apply pw_below_drewN | apply below_drew1) | exact HB.out))) : w.heap.size ≤ gb138)); have n6_ := Aside0.mk ((by rw [hg]; exact (below_size (by repeat (first | (with_reducible first | exact HB.out | apply below_alloc | apply pw_below_drewN | apply below_drew1) | exact HB.out))) : w.heap.size ≤ gb138)); clear HO0; clear HO1; clear HO2; clear HB; have HO0 := n0_; have HO1 := n1_; have HO2 := n2_; have HB := n3_; have BK138 := n4_; have GW138 := n5_; have GE138 := n6_; clear n0_ n1_ n2_ n3_ n4_ n5_ n6_; clear hb hbox hg) | ((with_reducible refine gate_dst (N := 20) rfl ?_); refine Kd.N_lit (Kd.slice 94 k94) _ 24 ?hg (N' := 20) ?hd (xs := ([l0, l1, l2] : List (List (S94)))) (inner := [.slice A0 l0.length c0, .slice A1 l1.length c1, .slice A2 l2.length c2]) (ok := (fun k_ => ((P0_ k_ ∨ P1_ k_ ∨ P2_ k_) ∨ w.heap.size ≤ k_) ∧ k_ ≠ gb138)) (okp := (fun k_ => ((P0_ k_ ∨ P1_ k_ ∨ P2_ k_) ∨ w.heap.size ≤ k_) ∧ k_ ≠ gb138)) ?hr ?hp (fun _ hk => hk) ((show ∀ k_, w4.heap.size ≤ k_ → (fun k_ => ((P0_ k_ ∨ P1_ k_ ∨ P2_ k_) ∨ w.heap.size ≤ k_) ∧ k_ ≠ gb138) k_ from fun k_ hk => ⟨(.inr (Nat.le_trans (below_size (by repeat (first | (with_reducible first | exact HB.out | apply below_alloc | apply pw_below_drewN | apply below_drew1 | refine below_set ?_ GE138.out) | exact HB.out))) hk)), Kd.freshB (g := gb138) (o := .cells #[.int .i64 0, .int .i64 0, .int .i64 0] 114 (0, 0)) (by (with_reducible repeat (first | refine blk_drewN ?_ _ | refine blk_drew ?_ | refine blk_alloc ?_ _)); exact BK138.out) k_ hk⟩) _ (Nat.le_refl _)) (Below.refl _ _) (Nat.le_refl _) (by simp) ?_; (case hd => rfl); (case hg => rfl); (case hr => first | (go_simp; done) | (go_simp; rfl)); (case hp => exact (Reps.one (show Kd.FK (Kd.slice 94 k94) _ _ l0 [.slice A0 l0.length c0] from (Kd.FK_slice_mk (Kd.V_reads' (Kd.V_mono (ok' := (fun k_ => ((P0_ k_ ∨ P1_ k_ ∨ P2_ k_) ∨ w.heap.size ≤ k_) ∧ k_ ≠ gb138)) (HO0.out) (fun k_ hk => ⟨hk.1, hk.2⟩))).2.1 (Kd.V_F (Kd.V_mono (ok' := (fun k_ => ((P0_ k_ ∨ P1_ k_ ∨ P2_ k_) ∨ w.heap.size ≤ k_) ∧ k_ ≠ gb138)) (HO0.out) (fun k_ hk => ⟨hk.1, hk.2⟩))))) (Reps.one (show Kd.FK (Kd.slice 94 k94) _ _ l1 [.slice A1 l1.length c1] from (Kd.FK_slice_mk (Kd.V_reads' (Kd.V_mono (ok' := (fun k_ => ((P0_ k_ ∨ P1_ k_ ∨ P2_ k_) ∨ w.heap.size ≤ k_) ∧ k_ ≠ gb138)) (HO1.out) (fun k_ hk => ⟨hk.1, hk.2⟩))).2.1 (Kd.V_F (Kd.V_mono (ok' := (fun k_ => ((P0_ k_ ∨ P1_ k_ ∨ P2_ k_) ∨ w.heap.size ≤ k_) ∧ k_ ≠ gb138)) (HO1.out) (fun k_ hk => ⟨hk.1, hk.2⟩))))) (Reps.one (show Kd.FK (Kd.slice 94 k94) _ _ l2 [.slice A2 l2.length c2] from (Kd.FK_slice_mk (Kd.V_reads' (Kd.V_mono (ok' := (fun k_ => ((P0_ k_ ∨ P1_ k_ ∨ P2_ k_) ∨ w.heap.size ≤ k_) ∧ k_ ≠ gb138)) (HO2.out) (fun k_ hk => ⟨hk.1, hk.2⟩))).2.1 (Kd.V_F (Kd.V_mono (ok' := (fun k_ => ((P0_ k_ ∨ P1_ k_ ∨ P2_ k_) ∨ w.heap.size ≤ k_) ∧ k_ ≠ gb138)) (HO2.out) (fun k_ hk => ⟨hk.1, hk.2⟩))))) (Reps.none _ _))))); intro v140 w5 ho6 hb hg_ hnew_; clear hg_ hnew_; (first | rw [← Ny139.out] at ho6 | (simp only [Int.reduceToNat] at ho6; rw [← Ny139.out] at ho6)); have n0_ := Aside0.mk (Kd.V_elder' (by (with_reducible repeat (first | apply Kd.V_alloc | apply Kd.V_drewN | apply Kd.V_drew)); exact HO0.out) (Kd.N_base ho6) hb); have n1_ := Aside0.mk (Kd.V_elder' (by (with_reducible repeat (first | apply Kd.V_alloc | apply Kd.V_drewN | apply Kd.V_drew)); exact HO1.out) (Kd.N_base ho6) hb); have n2_ := Aside0.mk (Kd.V_elder' (by (with_reducible repeat (first | apply Kd.V_alloc | apply Kd.V_drewN | apply Kd.V_drew)); exact HO2.out) (Kd.N_base ho6) hb); have n3_ := Aside0.mk (Kd.N_lower ho6 (below_size (by repeat (first | (with_reducible first | exact HB.out | apply below_alloc | apply pw_below_drewN | apply below_drew1 | refine below_set ?_ GE138.out) | exact HB.out)))); have n4_ := Aside0.mk (blk_below (g := gb138) (o := .cells #[.int .i64 0, .int .i64 0, .int .i64 0] 114 (0, 0)) (by (with_reducible repeat (first | refine blk_drewN ?_ _ | refine blk_drew ?_ | refine blk_alloc ?_ _)); exact BK138.out) hb); have n5_ := Aside0.mk (below_step (by repeat (first | (with_reducible first | exact HB.out | apply below_alloc | apply pw_below_drewN | apply below_drew1 | refine below_set ?_ GE138.out) | exact HB.out)) hb); clear HO0; clear HO1; clear HO2; clear BK138; clear HB; have HO0 := n0_; have HO1 := n1_; have HO2 := n2_; have HO141 := n3_; have BK138 := n4_; have HB := n5_; clear n0_ n1_ n2_ n3_ n4_ n5_; clear hb ho6))
  repeat (go_quiet (first | ((with_reducible refine gate_dst (N := 6) rfl ?_); refine box_event ?hg (N := 6) ?hd (cs := #[.int .i64 0, .int .i64 0, .int .i64 0]) (t := 114) ?hr ?_; (case hd => rfl); (case hg => rfl); (case hr => first | (go_simp; done) | (go_simp; rfl)); intro gb138 hg w4 hbox hb; have n0_ := Aside0.mk (Kd.V_below (Kd.V_elderB (by (with_reducible repeat (first | apply Kd.V_alloc | apply Kd.V_drewN | apply Kd.V_drew)); exact HO0.out) gb138 (Nat.le_of_eq hg.symm)) hb); have n1_ := Aside0.mk (Kd.V_below (Kd.V_elderB (by (with_reducible repeat (first | apply Kd.V_alloc | apply Kd.V_drewN | apply Kd.V_drew)); exact HO1.out) gb138 (Nat.le_of_eq hg.symm)) hb); have n2_ := Aside0.mk (Kd.V_below (Kd.V_elderB (by (with_reducible repeat (first | apply Kd.V_alloc | apply Kd.V_drewN | apply Kd.V_drew)); exact HO2.out) gb138 (Nat.le_of_eq hg.symm)) hb); have n3_ := Aside0.mk (below_step (by repeat (first | (with_reducible first | exact HB.out | apply below_alloc | apply pw_below_drewN | apply below_drew1) | exact HB.out)) hb); have n4_ := Aside0.mk (hbox); have n5_ := Aside0.mk ((by rw [hg]; exact (below_size (by repeat (first | (with_reducible first | exact HB.out | apply below_alloc | apply pw_below_drewN | apply below_drew1) | exact HB.out))) : w.heap.size ≤ gb138)); have n6_ := Aside0.mk ((by rw [hg]; exact (below_size (by repeat (first | (with_reducible first | exact HB.out | apply below_alloc | apply pw_below_drewN | apply below_drew1) | exact HB.out))) : w.heap.size ≤ gb138)); clear HO0; clear HO1; clear HO2; clear HB; have HO0 := n0_; have HO1 := n1_; have HO2 := n2_; have HB := n3_; have BK138 := n4_; have GW138 := n5_; have GE138 := n6_; clear n0_ n1_ n2_ n3_ n4_ n5_ n6_; clear hb hbox hg) | ((with_reducible refine gate_dst (N := 20) rfl ?_); refine Kd.N_lit (Kd.slice 94 k94) _ 24 ?hg (N' := 20) ?hd (xs := ([l0, l1, l2] : List (List (S94)))) (inner := [.slice A0 l0.length c0, .slice A1 l1.length c1, .slice A2 l2.length c2]) (ok := (fun k_ => ((P0_ k_ ∨ P1_ k_ ∨ P2_ k_) ∨ w.heap.size ≤ k_) ∧ k_ ≠ gb138)) (okp := (fun k_ => ((P0_ k_ ∨ P1_ k_ ∨ P2_ k_) ∨ w.heap.size ≤ k_) ∧ k_ ≠ gb138)) ?hr ?hp (fun _ hk => hk) ((show ∀ k_, w4.heap.size ≤ k_ → (fun k_ => ((P0_ k_ ∨ P1_ k_ ∨ P2_ k_) ∨ w.heap.size ≤ k_) ∧ k_ ≠ gb138) k_ from fun k_ hk => ⟨(.inr (Nat.le_trans (below_size (by repeat (first | (with_reducible first | exact HB.out | apply below_alloc | apply pw_below_drewN | apply below_drew1 | refine below_set ?_ GE138.out) | exact HB.out))) hk)), Kd.freshB (g := gb138) (o := .cells #[.int .i64 0, .int .i64 0, .int .i64 0] 114 (0, 0)) (by (with_reducible repeat (first | refine blk_drewN ?_ _ | refine blk_drew ?_ | refine blk_alloc ?_ _)); exact BK138.out) k_ hk⟩) _ (Nat.le_refl _)) (Below.refl _ _) (Nat.le_refl _) (by simp) ?_; (case hd => rfl); (case hg => rfl); (case hr => first | (go_simp; done) | (go_simp; rfl)); (case hp => exact (Reps.one (show Kd.FK (Kd.slice 94 k94) _ _ l0 [.slice A0 l0.length c0] from (Kd.FK_slice_mk (Kd.V_reads' (Kd.V_mono (ok' := (fun k_ => ((P0_ k_ ∨ P1_ k_ ∨ P2_ k_) ∨ w.heap.size ≤ k_) ∧ k_ ≠ gb138)) (HO0.out) (fun k_ hk => ⟨hk.1, hk.2⟩))).2.1 (Kd.V_F (Kd.V_mono (ok' := (fun k_ => ((P0_ k_ ∨ P1_ k_ ∨ P2_ k_) ∨ w.heap.size ≤ k_) ∧ k_ ≠ gb138)) (HO0.out) (fun k_ hk => ⟨hk.1, hk.2⟩))))) (Reps.one (show Kd.FK (Kd.slice 94 k94) _ _ l1 [.slice A1 l1.length c1] from (Kd.FK_slice_mk (Kd.V_reads' (Kd.V_mono (ok' := (fun k_ => ((P0_ k_ ∨ P1_ k_ ∨ P2_ k_) ∨ w.heap.size ≤ k_) ∧ k_ ≠ gb138)) (HO1.out) (fun k_ hk => ⟨hk.1, hk.2⟩))).2.1 (Kd.V_F (Kd.V_mono (ok' := (fun k_ => ((P0_ k_ ∨ P1_ k_ ∨ P2_ k_) ∨ w.heap.size ≤ k_) ∧ k_ ≠ gb138)) (HO1.out) (fun k_ hk => ⟨hk.1, hk.2⟩))))) (Reps.one (show Kd.FK (Kd.slice 94 k94) _ _ l2 [.slice A2 l2.length c2] from (Kd.FK_slice_mk (Kd.V_reads' (Kd.V_mono (ok' := (fun k_ => ((P0_ k_ ∨ P1_ k_ ∨ P2_ k_) ∨ w.heap.size ≤ k_) ∧ k_ ≠ gb138)) (HO2.out) (fun k_ hk => ⟨hk.1, hk.2⟩))).2.1 (Kd.V_F (Kd.V_mono (ok' := (fun k_ => ((P0_ k_ ∨ P1_ k_ ∨ P2_ k_) ∨ w.heap.size ≤ k_) ∧ k_ ≠ gb138)) (HO2.out) (fun k_ hk => ⟨hk.1, hk.2⟩))))) (Reps.none _ _))))); intro v140 w5 ho6 hb hg_ hnew_; clear hg_ hnew_; (first | rw [← Ny139.out] at ho6 | (simp only [Int.reduceToNat] at ho6; rw [← Ny139.out] at ho6)); have n0_ := Aside0.mk (Kd.V_elder' (by (with_reducible repeat (first | apply Kd.V_alloc | apply Kd.V_drewN | apply Kd.V_drew)); exact HO0.out) (Kd.N_base ho6) hb); have n1_ := Aside0.mk (Kd.V_elder' (by (with_reducible repeat (first | apply Kd.V_alloc | apply Kd.V_drewN | apply Kd.V_drew)); exact HO1.out) (Kd.N_base ho6) hb); have n2_ := Aside0.mk (Kd.V_elder' (by (with_reducible repeat (first | apply Kd.V_alloc | apply Kd.V_drewN | apply Kd.V_drew)); exact HO2.out) (Kd.N_base ho6) hb); have n3_ := Aside0.mk (Kd.N_lower ho6 (below_size (by repeat (first | (with_reducible first | exact HB.out | apply below_alloc | apply pw_below_drewN | apply below_drew1 | refine below_set ?_ GE138.out) | exact HB.out)))); have n4_ := Aside0.mk (blk_below (g := gb138) (o := .cells #[.int .i64 0, .int .i64 0, .int .i64 0] 114 (0, 0)) (by (with_reducible repeat (first | refine blk_drewN ?_ _ | refine blk_drew ?_ | refine blk_alloc ?_ _)); exact BK138.out) hb); have n5_ := Aside0.mk (below_step (by repeat (first | (with_reducible first | exact HB.out | apply below_alloc | apply pw_below_drewN | apply below_drew1 | refine below_set ?_ GE138.out) | exact HB.out)) hb); clear HO0; clear HO1; clear HO2; clear BK138; clear HB; have HO0 := n0_; have HO1 := n1_; have HO2 := n2_; have HO141 := n3_; have BK138 := n4_; have HB := n5_; clear n0_ n1_ n2_ n3_ n4_ n5_; clear hb ho6)); try go_wp2_with (first | ((with_reducible refine gate_dst (N := 6) rfl ?_); refine box_event ?hg (N := 6) ?hd (cs := #[.int .i64 0, .int .i64 0, .int .i64 0]) (t := 114) ?hr ?_; (case hd => rfl); (case hg => rfl); (case hr => first | (go_simp; done) | (go_simp; rfl)); intro gb138 hg w4 hbox hb; have n0_ := Aside0.mk (Kd.V_below (Kd.V_elderB (by (with_reducible repeat (first | apply Kd.V_alloc | apply Kd.V_drewN | apply Kd.V_drew)); exact HO0.out) gb138 (Nat.le_of_eq hg.symm)) hb); have n1_ := Aside0.mk (Kd.V_below (Kd.V_elderB (by (with_reducible repeat (first | apply Kd.V_alloc | apply Kd.V_drewN | apply Kd.V_drew)); exact HO1.out) gb138 (Nat.le_of_eq hg.symm)) hb); have n2_ := Aside0.mk (Kd.V_below (Kd.V_elderB (by (with_reducible repeat (first | apply Kd.V_alloc | apply Kd.V_drewN | apply Kd.V_drew)); exact HO2.out) gb138 (Nat.le_of_eq hg.symm)) hb); have n3_ := Aside0.mk (below_step (by repeat (first | (with_reducible first | exact HB.out | apply below_alloc | apply pw_below_drewN | apply below_drew1) | exact HB.out)) hb); have n4_ := Aside0.mk (hbox); have n5_ := Aside0.mk ((by rw [hg]; exact (below_size (by repeat (first | (with_reducible first | exact HB.out | apply below_alloc | apply pw_below_drewN | apply below_drew1) | exact HB.out))) : w.heap.size ≤ gb138)); have n6_ := Aside0.mk ((by rw [hg]; exact (below_size (by repeat (first | (with_reducible first | exact HB.out | apply below_alloc | apply pw_below_drewN | apply below_drew1) | exact HB.out))) : w.heap.size ≤ gb138)); clear HO0; clear HO1; clear HO2; clear HB; have HO0 := n0_; have HO1 := n1_; have HO2 := n2_; have HB := n3_; have BK138 := n4_; have GW138 := n5_; have GE138 := n6_; clear n0_ n1_ n2_ n3_ n4_ n5_ n6_; clear hb hbox hg) | ((with_reducible refine gate_dst (N := 20) rfl ?_); refine Kd.N_lit (Kd.slice 94 k94) _ 24 ?hg (N' := 20) ?hd (xs := ([l0, l1, l2] : List (List (S94)))) (inner := [.slice A0 l0.length c0, .slice A1 l1.length c1, .slice A2 l2.length c2]) (ok := (fun k_ => ((P0_ k_ ∨ P1_ k_ ∨ P2_ k_) ∨ w.heap.size ≤ k_) ∧ k_ ≠ gb138)) (okp := (fun k_ => ((P0_ k_ ∨ P1_ k_ ∨ P2_ k_) ∨ w.heap.size ≤ k_) ∧ k_ ≠ gb138)) ?hr ?hp (fun _ hk => hk) ((show ∀ k_, w4.heap.size ≤ k_ → (fun k_ => ((P0_ k_ ∨ P1_ k_ ∨ P2_ k_) ∨ w.heap.size ≤ k_) ∧ k_ ≠ gb138) k_ from fun k_ hk => ⟨(.inr (Nat.le_trans (below_size (by repeat (first | (with_reducible first | exact HB.out | apply below_alloc | apply pw_below_drewN | apply below_drew1 | refine below_set ?_ GE138.out) | exact HB.out))) hk)), Kd.freshB (g := gb138) (o := .cells #[.int .i64 0, .int .i64 0, .int .i64 0] 114 (0, 0)) (by (with_reducible repeat (first | refine blk_drewN ?_ _ | refine blk_drew ?_ | refine blk_alloc ?_ _)); exact BK138.out) k_ hk⟩) _ (Nat.le_refl _)) (Below.refl _ _) (Nat.le_refl _) (by simp) ?_; (case hd => rfl); (case hg => rfl); (case hr => first | (go_simp; done) | (go_simp; rfl)); (case hp => exact (Reps.one (show Kd.FK (Kd.slice 94 k94) _ _ l0 [.slice A0 l0.length c0] from (Kd.FK_slice_mk (Kd.V_reads' (Kd.V_mono (ok' := (fun k_ => ((P0_ k_ ∨ P1_ k_ ∨ P2_ k_) ∨ w.heap.size ≤ k_) ∧ k_ ≠ gb138)) (HO0.out) (fun k_ hk => ⟨hk.1, hk.2⟩))).2.1 (Kd.V_F (Kd.V_mono (ok' := (fun k_ => ((P0_ k_ ∨ P1_ k_ ∨ P2_ k_) ∨ w.heap.size ≤ k_) ∧ k_ ≠ gb138)) (HO0.out) (fun k_ hk => ⟨hk.1, hk.2⟩))))) (Reps.one (show Kd.FK (Kd.slice 94 k94) _ _ l1 [.slice A1 l1.length c1] from (Kd.FK_slice_mk (Kd.V_reads' (Kd.V_mono (ok' := (fun k_ => ((P0_ k_ ∨ P1_ k_ ∨ P2_ k_) ∨ w.heap.size ≤ k_) ∧ k_ ≠ gb138)) (HO1.out) (fun k_ hk => ⟨hk.1, hk.2⟩))).2.1 (Kd.V_F (Kd.V_mono (ok' := (fun k_ => ((P0_ k_ ∨ P1_ k_ ∨ P2_ k_) ∨ w.heap.size ≤ k_) ∧ k_ ≠ gb138)) (HO1.out) (fun k_ hk => ⟨hk.1, hk.2⟩))))) (Reps.one (show Kd.FK (Kd.slice 94 k94) _ _ l2 [.slice A2 l2.length c2] from (Kd.FK_slice_mk (Kd.V_reads' (Kd.V_mono (ok' := (fun k_ => ((P0_ k_ ∨ P1_ k_ ∨ P2_ k_) ∨ w.heap.size ≤ k_) ∧ k_ ≠ gb138)) (HO2.out) (fun k_ hk => ⟨hk.1, hk.2⟩))).2.1 (Kd.V_F (Kd.V_mono (ok' := (fun k_ => ((P0_ k_ ∨ P1_ k_ ∨ P2_ k_) ∨ w.heap.size ≤ k_) ∧ k_ ≠ gb138)) (HO2.out) (fun k_ hk => ⟨hk.1, hk.2⟩))))) (Reps.none _ _))))); intro v140 w5 ho6 hb hg_ hnew_; clear hg_ hnew_; (first | rw [← Ny139.out] at ho6 | (simp only [Int.reduceToNat] at ho6; rw [← Ny139.out] at ho6)); have n0_ := Aside0.mk (Kd.V_elder' (by (with_reducible repeat (first | apply Kd.V_alloc | apply Kd.V_drewN | apply Kd.V_drew)); exact HO0.out) (Kd.N_base ho6) hb); have n1_ := Aside0.mk (Kd.V_elder' (by (with_reducible repeat (first | apply Kd.V_alloc | apply Kd.V_drewN | apply Kd.V_drew)); exact HO1.out) (Kd.N_base ho6) hb); have n2_ := Aside0.mk (Kd.V_elder' (by (with_reducible repeat (first | apply Kd.V_alloc | apply Kd.V_drewN | apply Kd.V_drew)); exact HO2.out) (Kd.N_base ho6) hb); have n3_ := Aside0.mk (Kd.N_lower ho6 (below_size (by repeat (first | (with_reducible first | exact HB.out | apply below_alloc | apply pw_below_drewN | apply below_drew1 | refine below_set ?_ GE138.out) | exact HB.out)))); have n4_ := Aside0.mk (blk_below (g := gb138) (o := .cells #[.int .i64 0, .int .i64 0, .int .i64 0] 114 (0, 0)) (by (with_reducible repeat (first | refine blk_drewN ?_ _ | refine blk_drew ?_ | refine blk_alloc ?_ _)); exact BK138.out) hb); have n5_ := Aside0.mk (below_step (by repeat (first | (with_reducible first | exact HB.out | apply below_alloc | apply pw_below_drewN | apply below_drew1 | refine below_set ?_ GE138.out) | exact HB.out)) hb); clear HO0; clear HO1; clear HO2; clear BK138; clear HB; have HO0 := n0_; have HO1 := n1_; have HO2 := n2_; have HO141 := n3_; have BK138 := n4_; have HB := n5_; clear n0_ n1_ n2_ n3_ n4_ n5_; clear hb ho6)))
  go_loopg [8] k (fun kq v8 w' => ∃ (x8_1 : Int) (x139000_1 : Int) (x139001_1 : Int) (x139002_1 : Int), v8 = .int .i64 x8_1 ∧ Aside0 (tesseraref4_Check.l0 kq l0 l1 l2 y139 x8_1 = some (r1, r2, r3)) ∧ Aside0 (kq ≤ k) ∧ Aside0 (Kd.V k94 94 w' w.heap.size (fun k_ => ((P0_ k_ ∨ P1_ k_ ∨ P2_ k_) ∨ w.heap.size ≤ k_) ∧ some k_ ≠ (v140 : Value).ownBlock ∧ k_ ≠ gb138) (.slice A0 l0.length c0) l0) ∧ Aside0 (Kd.V k94 94 w' w.heap.size (fun k_ => ((P0_ k_ ∨ P1_ k_ ∨ P2_ k_) ∨ w.heap.size ≤ k_) ∧ some k_ ≠ (v140 : Value).ownBlock ∧ k_ ≠ gb138) (.slice A1 l1.length c1) l1) ∧ Aside0 (Kd.V k94 94 w' w.heap.size (fun k_ => ((P0_ k_ ∨ P1_ k_ ∨ P2_ k_) ∨ w.heap.size ≤ k_) ∧ some k_ ≠ (v140 : Value).ownBlock ∧ k_ ≠ gb138) (.slice A2 l2.length c2) l2) ∧ Aside0 (Kd.N (Kd.slice 94 k94) 24 w' w.heap.size (fun k_ => ((P0_ k_ ∨ P1_ k_ ∨ P2_ k_) ∨ w.heap.size ≤ k_) ∧ k_ ≠ gb138) v140 y139) ∧ Aside0 (w'.heap[gb138]? = some (.cells #[.int .i64 x139000_1, .int .i64 x139001_1, .int .i64 x139002_1] 114 (0, 0))) ∧ Aside0 (Below w.heap.size w w'))
  case atStart => exact ⟨(0), (0), (0), (0), (by first | rfl | (simp; done) | (simp [*]; done)), H', ⟨Nat.le_refl _⟩, ⟨by (with_reducible repeat (first | apply Kd.V_alloc | apply Kd.V_drewN | apply Kd.V_drew)); exact Kd.V_mono HO0.out (fun _ hk => ⟨hk.1.1, ⟨hk.2, hk.1.2⟩⟩)⟩, ⟨by (with_reducible repeat (first | apply Kd.V_alloc | apply Kd.V_drewN | apply Kd.V_drew)); exact Kd.V_mono HO1.out (fun _ hk => ⟨hk.1.1, ⟨hk.2, hk.1.2⟩⟩)⟩, ⟨by (with_reducible repeat (first | apply Kd.V_alloc | apply Kd.V_drewN | apply Kd.V_drew)); exact Kd.V_mono HO2.out (fun _ hk => ⟨hk.1.1, ⟨hk.2, hk.1.2⟩⟩)⟩, ⟨by (with_reducible repeat (first | apply Kd.N_alloc | apply Kd.N_drewN | apply Kd.N_drew)); exact HO141.out⟩, ⟨by (with_reducible repeat (first | refine blk_drewN ?_ _ | refine blk_drew ?_ | refine blk_alloc ?_ _)); exact BK138.out⟩, ⟨by repeat (first | (with_reducible first | exact HB.out | apply below_alloc | apply pw_below_drewN | apply below_drew1 | refine below_set ?_ GE138.out) | exact HB.out)⟩⟩
  case round =>
    clear H'
    try clear c1
    try clear c2
    try clear p2
    try clear c5
    obtain ⟨x8_1, x139000_1, x139001_1, x139002_1, rfl, HA, HK1, HO_0, HO_1, HO_2, HO_7, BK138, HB⟩ := hrel
    cases gk with
    | zero => exact absurd HA.out (by simp [tesseraref4_Check.l0])
    | succ k1 =>
      have H := HA.out
      clear HA
      simp only [tesseraref4_Check.l0] at H
      by_cases c7 : x8_1 < 3
      · rw [if_pos c7] at H
        have c7b0 : decide (x8_1 < 3) = true := decide_eq_true c7
        clear c7
        by_cases c8 : 0 ≤ x8_1
        · rw [if_pos c8] at H
          have c8b0 : decide (0 ≤ x8_1) = true := decide_eq_true c8
          clear c8
          by_cases c9 : x8_1 < (y139.length : Int)
          · rw [if_pos c9] at H
            have c9b0 : decide (x8_1 < (y139.length : Int)) = true := decide_eq_true c9
            clear c9
            by_cases c10 : ((rd_L5 y139 x8_1).length : Int) > 512
            · rw [if_pos c10] at H
              have c10b0 : decide (512 < ((rd_L5 y139 x8_1).length : Int)) = true := decide_eq_true c10
              have c10b1 : decide (512 < (rd_L5 y139 x8_1).length) = true := decide_eq_true (by omega)
              clear c10
              simp only [Option.some.injEq, Prod.mk.injEq] at H
              obtain ⟨rfl, rfl, rfl⟩ := H
              obtain ⟨Ao11, co11, eo11⟩ := Kd.N_slice HO_7.out
              subst eo11
              have p142 : 0 ≤ (x8_1 : Int) := of_decide_eq_true (by first | (with_reducible assumption) | assumption)
              have q142 : x8_1 < (y139.length : Int) := of_decide_eq_true (by first | (with_reducible assumption) | assumption)
              obtain ⟨ad142, A142_0, c142_0, e142, hx142_0, hl142_0, hi142_0⟩ := at_L5 (Kd.N_reads' HO_7.out).2.2 x8_1 p142 q142
              cases e142
              obtain ⟨ce142, hce142, hMe142, hcc142⟩ := Kd.N_get HO_7.out [] x8_1 p142 (by first | exact q142 | exact of_decide_eq_true (by first | (with_reducible assumption) | assumption) | (have e_ := (Kd.N_reads' HO_7.out).1; omega))
              obtain ⟨ua142_0, uc142_0, rfl, ul142_0, ge142_0⟩ := Kd.FK_slice_open hMe142
              have hv142_0 := hcc142 0 _ rfl
              rw [Nat.add_zero, show ((Kd.slice 94 k94)).sz = 1 from rfl, Nat.mul_one] at hv142_0
              replace hv142_0 := Option.some.inj (hv142_0.symm.trans hx142_0)
              injection hv142_0 with hva_ hvn_ hvc_
              rw [hva_] at ge142_0
              rw [hvc_] at ul142_0
              have HL142_0 := Aside0.mk (show Kd.V k94 94 _ w.heap.size _ _ (rd_L5 y139 x8_1) from Kd.V_mk ul142_0 ge142_0)
              clear hva_ hvn_ hvc_ ge142_0 ul142_0
              clear hcc142 hce142
              have HR142_0 := Aside0.mk hi142_0
              have HC142_0 := Aside0.mk hl142_0
              clear hi142_0 hl142_0
              replace p142 := eq_true p142
              replace q142 := eq_true q142
              have hcz12_0 : wr.cell? ⟨gb138, 0, none⟩ = some (.int .i64 x139000_1) := (blk_cell BK138.out 0).trans rfl
              have hcz12_1 : wr.cell? ⟨gb138, 1, none⟩ = some (.int .i64 x139001_1) := (blk_cell BK138.out 1).trans rfl
              have hcz12_2 : wr.cell? ⟨gb138, 2, none⟩ = some (.int .i64 x139002_1) := (blk_cell BK138.out 2).trans rfl
              have hfz12_0 := blk_frozen BK138.out 0
              have hfz12_1 := blk_frozen BK138.out 1
              have hfz12_2 := blk_frozen BK138.out 2
              go_wp2
              repeat (go_quiet (fail); try go_wp2)
              refine bodyPost_ret (results_cell_row rfl _ _ gb138 114 #[.int .i64 4, .int .i64 (wrap64 (x8_1 + 1)), .int .i64 512] (0, 0) _ rfl (by (with_reducible repeat (first | refine blk_drewN ?_ _ | refine blk_drew ?_ | refine blk_alloc ?_ _)); refine blk_put (cs := #[.int .i64 4, .int .i64 (wrap64 (x8_1 + 1)), .int .i64 x139002_1]) ?_ 2 _ rfl; (with_reducible repeat (first | refine blk_drewN ?_ _ | refine blk_drew ?_ | refine blk_alloc ?_ _)); refine blk_put (cs := #[.int .i64 4, .int .i64 x139001_1, .int .i64 x139002_1]) ?_ 1 _ rfl; (with_reducible repeat (first | refine blk_drewN ?_ _ | refine blk_drew ?_ | refine blk_alloc ?_ _)); refine blk_put (cs := #[.int .i64 x139000_1, .int .i64 x139001_1, .int .i64 x139002_1]) ?_ 0 _ rfl; (with_reducible repeat (first | refine blk_drewN ?_ _ | refine blk_drew ?_ | refine blk_alloc ?_ _)); exact BK138.out) Try.underlying114 rfl (by kernel_rfl)) rfl ?_
              exact ⟨by first | rfl | (simp [errW_none, errW_some] <;> rfl) | (simp [*, errW_none, errW_some] <;> rfl), by repeat (first | (with_reducible first | exact HB.out | apply below_alloc | apply pw_below_drewN | apply below_drew1 | refine below_set ?_ GE138.out) | exact HB.out)⟩
            · rw [if_neg c10] at H
              have c10b0 : decide (512 < ((rd_L5 y139 x8_1).length : Int)) = false := decide_eq_false c10
              have c10b1 : decide (512 < (rd_L5 y139 x8_1).length) = false := decide_eq_false (by omega)
              clear c10
              have H' := Aside0.mk H
              clear H
              obtain ⟨Ao13, co13, eo13⟩ := Kd.N_slice HO_7.out
              subst eo13
              have p142 : 0 ≤ (x8_1 : Int) := of_decide_eq_true (by first | (with_reducible assumption) | assumption)
              have q142 : x8_1 < (y139.length : Int) := of_decide_eq_true (by first | (with_reducible assumption) | assumption)
              obtain ⟨ad142, A142_0, c142_0, e142, hx142_0, hl142_0, hi142_0⟩ := at_L5 (Kd.N_reads' HO_7.out).2.2 x8_1 p142 q142
              cases e142
              obtain ⟨ce142, hce142, hMe142, hcc142⟩ := Kd.N_get HO_7.out [] x8_1 p142 (by first | exact q142 | exact of_decide_eq_true (by first | (with_reducible assumption) | assumption) | (have e_ := (Kd.N_reads' HO_7.out).1; omega))
              obtain ⟨ua142_0, uc142_0, rfl, ul142_0, ge142_0⟩ := Kd.FK_slice_open hMe142
              have hv142_0 := hcc142 0 _ rfl
              rw [Nat.add_zero, show ((Kd.slice 94 k94)).sz = 1 from rfl, Nat.mul_one] at hv142_0
              replace hv142_0 := Option.some.inj (hv142_0.symm.trans hx142_0)
              injection hv142_0 with hva_ hvn_ hvc_
              rw [hva_] at ge142_0
              rw [hvc_] at ul142_0
              have HL142_0 := Aside0.mk (show Kd.V k94 94 _ w.heap.size _ _ (rd_L5 y139 x8_1) from Kd.V_mk ul142_0 ge142_0)
              clear hva_ hvn_ hvc_ ge142_0 ul142_0
              clear hcc142 hce142
              have HR142_0 := Aside0.mk hi142_0
              have HC142_0 := Aside0.mk hl142_0
              clear hi142_0 hl142_0
              replace p142 := eq_true p142
              replace q142 := eq_true q142
              go_wp2
              repeat (go_quiet (fail); try go_wp2)
              go_roundg k1
              case measure => have := HK1.out; omega
              case rel => exact ⟨(wrap64 (x8_1 + 1)), (x139000_1), (x139001_1), (x139002_1), (by first | rfl | (simp; done) | (simp [*]; done)), H', ⟨by have := HK1.out; omega⟩, ⟨by (with_reducible repeat (first | apply Kd.V_alloc | apply Kd.V_drewN | apply Kd.V_drew)); exact HO_0.out⟩, ⟨by (with_reducible repeat (first | apply Kd.V_alloc | apply Kd.V_drewN | apply Kd.V_drew)); exact HO_1.out⟩, ⟨by (with_reducible repeat (first | apply Kd.V_alloc | apply Kd.V_drewN | apply Kd.V_drew)); exact HO_2.out⟩, ⟨by (with_reducible repeat (first | apply Kd.N_alloc | apply Kd.N_drewN | apply Kd.N_drew)); exact HO_7.out⟩, ⟨by (with_reducible repeat (first | refine blk_drewN ?_ _ | refine blk_drew ?_ | refine blk_alloc ?_ _)); exact BK138.out⟩, ⟨by repeat (first | (with_reducible first | exact HB.out | apply below_alloc | apply pw_below_drewN | apply below_drew1 | refine below_set ?_ GE138.out) | exact HB.out)⟩⟩
          · rw [if_neg c9] at H
            exact absurd H (by simp)
        · rw [if_neg c8] at H
          exact absurd H (by simp)
      · rw [if_neg c7] at H
        have c7b0 : decide (x8_1 < 3) = false := decide_eq_false c7
        clear c7
        have H' := Aside0.mk H
        clear H
        go_wp2
        repeat (go_quiet (fail); try go_wp2)
        go_loopg [9] k1 (fun kq v9 w' => ∃ (x9_2 : Int) (x139000_2 : Int) (x139001_2 : Int) (x139002_2 : Int), v9 = .int .i64 x9_2 ∧ Aside0 (tesseraref4_Check.l1 kq l0 l1 l2 y139 x9_2 = some (r1, r2, r3)) ∧ Aside0 (kq ≤ k1) ∧ Aside0 (Kd.V k94 94 w' w.heap.size (fun k_ => ((P0_ k_ ∨ P1_ k_ ∨ P2_ k_) ∨ w.heap.size ≤ k_) ∧ some k_ ≠ (v140 : Value).ownBlock ∧ k_ ≠ gb138) (.slice A0 l0.length c0) l0) ∧ Aside0 (Kd.V k94 94 w' w.heap.size (fun k_ => ((P0_ k_ ∨ P1_ k_ ∨ P2_ k_) ∨ w.heap.size ≤ k_) ∧ some k_ ≠ (v140 : Value).ownBlock ∧ k_ ≠ gb138) (.slice A1 l1.length c1) l1) ∧ Aside0 (Kd.V k94 94 w' w.heap.size (fun k_ => ((P0_ k_ ∨ P1_ k_ ∨ P2_ k_) ∨ w.heap.size ≤ k_) ∧ some k_ ≠ (v140 : Value).ownBlock ∧ k_ ≠ gb138) (.slice A2 l2.length c2) l2) ∧ Aside0 (Kd.N (Kd.slice 94 k94) 24 w' w.heap.size (fun k_ => ((P0_ k_ ∨ P1_ k_ ∨ P2_ k_) ∨ w.heap.size ≤ k_) ∧ k_ ≠ gb138) v140 y139) ∧ Aside0 (w'.heap[gb138]? = some (.cells #[.int .i64 x139000_2, .int .i64 x139001_2, .int .i64 x139002_2] 114 (0, 0))) ∧ Aside0 (Below w.heap.size w w'))
        case atStart => exact ⟨(0), (x139000_1), (x139001_1), (x139002_1), (by first | rfl | (simp; done) | (simp [*]; done)), H', ⟨Nat.le_refl _⟩, ⟨by (with_reducible repeat (first | apply Kd.V_alloc | apply Kd.V_drewN | apply Kd.V_drew)); exact HO_0.out⟩, ⟨by (with_reducible repeat (first | apply Kd.V_alloc | apply Kd.V_drewN | apply Kd.V_drew)); exact HO_1.out⟩, ⟨by (with_reducible repeat (first | apply Kd.V_alloc | apply Kd.V_drewN | apply Kd.V_drew)); exact HO_2.out⟩, ⟨by (with_reducible repeat (first | apply Kd.N_alloc | apply Kd.N_drewN | apply Kd.N_drew)); exact HO_7.out⟩, ⟨by (with_reducible repeat (first | refine blk_drewN ?_ _ | refine blk_drew ?_ | refine blk_alloc ?_ _)); exact BK138.out⟩, ⟨by repeat (first | (with_reducible first | exact HB.out | apply below_alloc | apply pw_below_drewN | apply below_drew1 | refine below_set ?_ GE138.out) | exact HB.out)⟩⟩
        case round =>
          clear H'
          try clear c1
          try clear p1
          try clear q1
          try clear hx1
          try clear c2
          try clear p2
          try clear c5
          try clear p6
          try clear c7
          try clear c7b0
          try clear c8
          try clear c8b0
          try clear c9
          try clear c9b0
          try clear c10
          try clear c10b0
          try clear c10b1
          try clear hcz12_0
          try clear hcz12_1
          try clear hcz12_2
          try clear hfz12_0
          try clear hfz12_1
          try clear hfz12_2
          try clear hx142_0
          try clear p142
          try clear p2
          try clear q142
          obtain ⟨x9_2, x139000_2, x139001_2, x139002_2, rfl, HA, HK2, HO_0, HO_1, HO_2, HO_7, BK138, HB⟩ := hrel
          cases gk with
          | zero => exact absurd HA.out (by simp [tesseraref4_Check.l1])
          | succ k2 =>
            have H := HA.out
            clear HA
            simp only [tesseraref4_Check.l1] at H
            by_cases c14 : x9_2 < 3
            · rw [if_pos c14] at H
              have c14b0 : decide (x9_2 < 3) = true := decide_eq_true c14
              clear c14
              by_cases c15 : 0 ≤ x9_2
              · rw [if_pos c15] at H
                have c15b0 : decide (0 ≤ x9_2) = true := decide_eq_true c15
                clear c15
                by_cases c16 : x9_2 < (y139.length : Int)
                · rw [if_pos c16] at H
                  have c16b0 : decide (x9_2 < (y139.length : Int)) = true := decide_eq_true c16
                  clear c16
                  replace H := Option.bind_eq_some_iff.mp H
                  obtain ⟨⟨t144, t145⟩, A170, H⟩ := H
                  replace H : (if t145 = 0 then (tesseraref4_Check.l1 k2 l0 l1 l2 y139 (wrap64 (x9_2 + 1))) else (some (t145, wrap64 (x9_2 + 1), t144))) = some (r1, r2, r3) := H
                  have A17 := Aside0.mk A170
                  clear A170
                  by_cases c18 : t145 = 0
                  · rw [if_pos c18] at H
                    have c18b0 : (t145 == 0) = true := beq_iff_eq.mpr c18
                    have c18b1 : (t145 != 0) = false := bne_eq_false_iff_eq.mpr c18
                    clear c18
                    have H' := Aside0.mk H
                    clear H
                    obtain ⟨Ao19, co19, eo19⟩ := Kd.N_slice HO_7.out
                    subst eo19
                    have p143 : 0 ≤ (x9_2 : Int) := of_decide_eq_true (by first | (with_reducible assumption) | assumption)
                    have q143 : x9_2 < (y139.length : Int) := of_decide_eq_true (by first | (with_reducible assumption) | assumption)
                    obtain ⟨ad143, A143_0, c143_0, e143, hx143_0, hl143_0, hi143_0⟩ := at_L5 (Kd.N_reads' HO_7.out).2.2 x9_2 p143 q143
                    cases e143
                    obtain ⟨ce143, hce143, hMe143, hcc143⟩ := Kd.N_get HO_7.out [] x9_2 p143 (by first | exact q143 | exact of_decide_eq_true (by first | (with_reducible assumption) | assumption) | (have e_ := (Kd.N_reads' HO_7.out).1; omega))
                    obtain ⟨ua143_0, uc143_0, rfl, ul143_0, ge143_0⟩ := Kd.FK_slice_open hMe143
                    have hv143_0 := hcc143 0 _ rfl
                    rw [Nat.add_zero, show ((Kd.slice 94 k94)).sz = 1 from rfl, Nat.mul_one] at hv143_0
                    replace hv143_0 := Option.some.inj (hv143_0.symm.trans hx143_0)
                    injection hv143_0 with hva_ hvn_ hvc_
                    rw [hva_] at ge143_0
                    rw [hvc_] at ul143_0
                    have HL143_0 := Aside0.mk (show Kd.V k94 94 _ w.heap.size _ _ (rd_L5 y139 x9_2) from Kd.V_mk ul143_0 ge143_0)
                    clear hva_ hvn_ hvc_ ge143_0 ul143_0
                    clear hcc143 hce143
                    have HR143_0 := Aside0.mk hi143_0
                    have HC143_0 := Aside0.mk hl143_0
                    clear hi143_0 hl143_0
                    replace p143 := eq_true p143
                    replace q143 := eq_true q143
                    go_wp2_with (first | (go_at_call 78; (with_reducible refine (tesseraref3_Right.calls k2 _ _ (rd_L5 y139 x9_2) t144 t145 _ ?side1 ?side2 A17.out).mono ?_); (case side1 => repeat (first | exact (by repeat (first | (with_reducible exact HR143_0.out) | (with_reducible refine Kd.C_alloc ?_ _) | (with_reducible refine Kd.C_drewN ?_ _) | (with_reducible refine Kd.C_drew ?_) | exact HR143_0.out)) | (with_reducible refine Kd.C_alloc ?_ _) | (with_reducible refine Kd.C_drewN ?_ _) | (with_reducible refine Kd.C_drew ?_))); (case side2 => exact HC143_0.out); rintro e w' ⟨rfl, ⟨nd, rfl⟩⟩; (try first | exact ⟨rfl, _, World.drewN_drewN _ _ _⟩ | exact ⟨rfl, _, Eq.trans (World.drewN_drewN _ _ _) (congrArg (World.drewN _) (Nat.add_assoc _ _ _))⟩)))
                    repeat (go_quiet (first | (go_at_call 78; (with_reducible refine (tesseraref3_Right.calls k2 _ _ (rd_L5 y139 x9_2) t144 t145 _ ?side1 ?side2 A17.out).mono ?_); (case side1 => repeat (first | exact (by repeat (first | (with_reducible exact HR143_0.out) | (with_reducible refine Kd.C_alloc ?_ _) | (with_reducible refine Kd.C_drewN ?_ _) | (with_reducible refine Kd.C_drew ?_) | exact HR143_0.out)) | (with_reducible refine Kd.C_alloc ?_ _) | (with_reducible refine Kd.C_drewN ?_ _) | (with_reducible refine Kd.C_drew ?_))); (case side2 => exact HC143_0.out); rintro e w' ⟨rfl, ⟨nd, rfl⟩⟩; (try first | exact ⟨rfl, _, World.drewN_drewN _ _ _⟩ | exact ⟨rfl, _, Eq.trans (World.drewN_drewN _ _ _) (congrArg (World.drewN _) (Nat.add_assoc _ _ _))⟩))); try go_wp2_with (first | (go_at_call 78; (with_reducible refine (tesseraref3_Right.calls k2 _ _ (rd_L5 y139 x9_2) t144 t145 _ ?side1 ?side2 A17.out).mono ?_); (case side1 => repeat (first | exact (by repeat (first | (with_reducible exact HR143_0.out) | (with_reducible refine Kd.C_alloc ?_ _) | (with_reducible refine Kd.C_drewN ?_ _) | (with_reducible refine Kd.C_drew ?_) | exact HR143_0.out)) | (with_reducible refine Kd.C_alloc ?_ _) | (with_reducible refine Kd.C_drewN ?_ _) | (with_reducible refine Kd.C_drew ?_))); (case side2 => exact HC143_0.out); rintro e w' ⟨rfl, ⟨nd, rfl⟩⟩; (try first | exact ⟨rfl, _, World.drewN_drewN _ _ _⟩ | exact ⟨rfl, _, Eq.trans (World.drewN_drewN _ _ _) (congrArg (World.drewN _) (Nat.add_assoc _ _ _))⟩))))
                    go_roundg k2
                    case measure => have := HK1.out; have := HK2.out; omega
                    case rel => exact ⟨(wrap64 (x9_2 + 1)), (x139000_2), (x139001_2), (x139002_2), (by first | rfl | (simp; done) | (simp [*]; done)), H', ⟨by have := HK1.out; have := HK2.out; omega⟩, ⟨by (with_reducible repeat (first | apply Kd.V_alloc | apply Kd.V_drewN | apply Kd.V_drew)); exact HO_0.out⟩, ⟨by (with_reducible repeat (first | apply Kd.V_alloc | apply Kd.V_drewN | apply Kd.V_drew)); exact HO_1.out⟩, ⟨by (with_reducible repeat (first | apply Kd.V_alloc | apply Kd.V_drewN | apply Kd.V_drew)); exact HO_2.out⟩, ⟨by (with_reducible repeat (first | apply Kd.N_alloc | apply Kd.N_drewN | apply Kd.N_drew)); exact HO_7.out⟩, ⟨by (with_reducible repeat (first | refine blk_drewN ?_ _ | refine blk_drew ?_ | refine blk_alloc ?_ _)); exact BK138.out⟩, ⟨by repeat (first | (with_reducible first | exact HB.out | apply below_alloc | apply pw_below_drewN | apply below_drew1 | refine below_set ?_ GE138.out) | exact HB.out)⟩⟩
                  · rw [if_neg c18] at H
                    have c18b0 : (t145 == 0) = false := beq_eq_false_iff_ne.mpr c18
                    have c18b1 : (t145 != 0) = true := bne_iff_ne.mpr c18
                    simp only [Option.some.injEq, Prod.mk.injEq] at H
                    obtain ⟨rfl, rfl, rfl⟩ := H
                    obtain ⟨Ao20, co20, eo20⟩ := Kd.N_slice HO_7.out
                    subst eo20
                    have p143 : 0 ≤ (x9_2 : Int) := of_decide_eq_true (by first | (with_reducible assumption) | assumption)
                    have q143 : x9_2 < (y139.length : Int) := of_decide_eq_true (by first | (with_reducible assumption) | assumption)
                    obtain ⟨ad143, A143_0, c143_0, e143, hx143_0, hl143_0, hi143_0⟩ := at_L5 (Kd.N_reads' HO_7.out).2.2 x9_2 p143 q143
                    cases e143
                    obtain ⟨ce143, hce143, hMe143, hcc143⟩ := Kd.N_get HO_7.out [] x9_2 p143 (by first | exact q143 | exact of_decide_eq_true (by first | (with_reducible assumption) | assumption) | (have e_ := (Kd.N_reads' HO_7.out).1; omega))
                    obtain ⟨ua143_0, uc143_0, rfl, ul143_0, ge143_0⟩ := Kd.FK_slice_open hMe143
                    have hv143_0 := hcc143 0 _ rfl
                    rw [Nat.add_zero, show ((Kd.slice 94 k94)).sz = 1 from rfl, Nat.mul_one] at hv143_0
                    replace hv143_0 := Option.some.inj (hv143_0.symm.trans hx143_0)
                    injection hv143_0 with hva_ hvn_ hvc_
                    rw [hva_] at ge143_0
                    rw [hvc_] at ul143_0
                    have HL143_0 := Aside0.mk (show Kd.V k94 94 _ w.heap.size _ _ (rd_L5 y139 x9_2) from Kd.V_mk ul143_0 ge143_0)
                    clear hva_ hvn_ hvc_ ge143_0 ul143_0
                    clear hcc143 hce143
                    have HR143_0 := Aside0.mk hi143_0
                    have HC143_0 := Aside0.mk hl143_0
                    clear hi143_0 hl143_0
                    replace p143 := eq_true p143
                    replace q143 := eq_true q143
                    go_wp2_with (first | (go_at_call 78; (with_reducible refine (tesseraref3_Right.calls k2 _ _ (rd_L5 y139 x9_2) t144 t145 _ ?side1 ?side2 A17.out).mono ?_); (case side1 => repeat (first | exact (by repeat (first | (with_reducible exact HR143_0.out) | (with_reducible refine Kd.C_alloc ?_ _) | (with_reducible refine Kd.C_drewN ?_ _) | (with_reducible refine Kd.C_drew ?_) | exact HR143_0.out)) | (with_reducible refine Kd.C_alloc ?_ _) | (with_reducible refine Kd.C_drewN ?_ _) | (with_reducible refine Kd.C_drew ?_))); (case side2 => exact HC143_0.out); rintro e w' ⟨rfl, ⟨nd, rfl⟩⟩; (try first | exact ⟨rfl, _, World.drewN_drewN _ _ _⟩ | exact ⟨rfl, _, Eq.trans (World.drewN_drewN _ _ _) (congrArg (World.drewN _) (Nat.add_assoc _ _ _))⟩); have hcz21_0 : wr.cell? ⟨gb138, 0, none⟩ = some (.int .i64 x139000_2) := (blk_cell BK138.out 0).trans rfl; have hcz21_1 : wr.cell? ⟨gb138, 1, none⟩ = some (.int .i64 x139001_2) := (blk_cell BK138.out 1).trans rfl; have hcz21_2 : wr.cell? ⟨gb138, 2, none⟩ = some (.int .i64 x139002_2) := (blk_cell BK138.out 2).trans rfl; have hfz21_0 := blk_frozen BK138.out 0; have hfz21_1 := blk_frozen BK138.out 1; have hfz21_2 := blk_frozen BK138.out 2))
                    repeat (go_quiet (first | (go_at_call 78; (with_reducible refine (tesseraref3_Right.calls k2 _ _ (rd_L5 y139 x9_2) t144 t145 _ ?side1 ?side2 A17.out).mono ?_); (case side1 => repeat (first | exact (by repeat (first | (with_reducible exact HR143_0.out) | (with_reducible refine Kd.C_alloc ?_ _) | (with_reducible refine Kd.C_drewN ?_ _) | (with_reducible refine Kd.C_drew ?_) | exact HR143_0.out)) | (with_reducible refine Kd.C_alloc ?_ _) | (with_reducible refine Kd.C_drewN ?_ _) | (with_reducible refine Kd.C_drew ?_))); (case side2 => exact HC143_0.out); rintro e w' ⟨rfl, ⟨nd, rfl⟩⟩; (try first | exact ⟨rfl, _, World.drewN_drewN _ _ _⟩ | exact ⟨rfl, _, Eq.trans (World.drewN_drewN _ _ _) (congrArg (World.drewN _) (Nat.add_assoc _ _ _))⟩); have hcz21_0 : wr.cell? ⟨gb138, 0, none⟩ = some (.int .i64 x139000_2) := (blk_cell BK138.out 0).trans rfl; have hcz21_1 : wr.cell? ⟨gb138, 1, none⟩ = some (.int .i64 x139001_2) := (blk_cell BK138.out 1).trans rfl; have hcz21_2 : wr.cell? ⟨gb138, 2, none⟩ = some (.int .i64 x139002_2) := (blk_cell BK138.out 2).trans rfl; have hfz21_0 := blk_frozen BK138.out 0; have hfz21_1 := blk_frozen BK138.out 1; have hfz21_2 := blk_frozen BK138.out 2)); try go_wp2_with (first | (go_at_call 78; (with_reducible refine (tesseraref3_Right.calls k2 _ _ (rd_L5 y139 x9_2) t144 t145 _ ?side1 ?side2 A17.out).mono ?_); (case side1 => repeat (first | exact (by repeat (first | (with_reducible exact HR143_0.out) | (with_reducible refine Kd.C_alloc ?_ _) | (with_reducible refine Kd.C_drewN ?_ _) | (with_reducible refine Kd.C_drew ?_) | exact HR143_0.out)) | (with_reducible refine Kd.C_alloc ?_ _) | (with_reducible refine Kd.C_drewN ?_ _) | (with_reducible refine Kd.C_drew ?_))); (case side2 => exact HC143_0.out); rintro e w' ⟨rfl, ⟨nd, rfl⟩⟩; (try first | exact ⟨rfl, _, World.drewN_drewN _ _ _⟩ | exact ⟨rfl, _, Eq.trans (World.drewN_drewN _ _ _) (congrArg (World.drewN _) (Nat.add_assoc _ _ _))⟩); have hcz21_0 : wr.cell? ⟨gb138, 0, none⟩ = some (.int .i64 x139000_2) := (blk_cell BK138.out 0).trans rfl; have hcz21_1 : wr.cell? ⟨gb138, 1, none⟩ = some (.int .i64 x139001_2) := (blk_cell BK138.out 1).trans rfl; have hcz21_2 : wr.cell? ⟨gb138, 2, none⟩ = some (.int .i64 x139002_2) := (blk_cell BK138.out 2).trans rfl; have hfz21_0 := blk_frozen BK138.out 0; have hfz21_1 := blk_frozen BK138.out 1; have hfz21_2 := blk_frozen BK138.out 2)))
                    refine bodyPost_ret (results_cell_row rfl _ _ gb138 114 #[.int .i64 t145, .int .i64 (wrap64 (x9_2 + 1)), .int .i64 t144] (0, 0) _ rfl (by (with_reducible repeat (first | refine blk_drewN ?_ _ | refine blk_drew ?_ | refine blk_alloc ?_ _)); refine blk_put (cs := #[.int .i64 t145, .int .i64 (wrap64 (x9_2 + 1)), .int .i64 x139002_2]) ?_ 2 _ rfl; (with_reducible repeat (first | refine blk_drewN ?_ _ | refine blk_drew ?_ | refine blk_alloc ?_ _)); refine blk_put (cs := #[.int .i64 t145, .int .i64 x139001_2, .int .i64 x139002_2]) ?_ 1 _ rfl; (with_reducible repeat (first | refine blk_drewN ?_ _ | refine blk_drew ?_ | refine blk_alloc ?_ _)); refine blk_put (cs := #[.int .i64 x139000_2, .int .i64 x139001_2, .int .i64 x139002_2]) ?_ 0 _ rfl; (with_reducible repeat (first | refine blk_drewN ?_ _ | refine blk_drew ?_ | refine blk_alloc ?_ _)); exact BK138.out) Try.underlying114 rfl (by kernel_rfl)) rfl ?_
                    exact ⟨by first | rfl | (simp [errW_none, errW_some] <;> rfl) | (simp [*, errW_none, errW_some] <;> rfl), by repeat (first | (with_reducible first | exact HB.out | apply below_alloc | apply pw_below_drewN | apply below_drew1 | refine below_set ?_ GE138.out) | exact HB.out)⟩
                · rw [if_neg c16] at H
                  exact absurd H (by simp)
              · rw [if_neg c15] at H
                exact absurd H (by simp)
            · rw [if_neg c14] at H
              have c14b0 : decide (x9_2 < 3) = false := decide_eq_false c14
              clear c14
              have H' := Aside0.mk H
              clear H
              go_wp2
              repeat (go_quiet (fail); try go_wp2)
              go_loopg [12] k2 (fun kq v12 w' => ∃ (x12_3 : Int) (x139000_3 : Int) (x139001_3 : Int) (x139002_3 : Int), v12 = .int .i64 x12_3 ∧ Aside0 (tesseraref4_Check.l2 kq l0 l1 l2 y139 x12_3 = some (r1, r2, r3)) ∧ Aside0 (kq ≤ k2) ∧ Aside0 (Kd.V k94 94 w' w.heap.size (fun k_ => ((P0_ k_ ∨ P1_ k_ ∨ P2_ k_) ∨ w.heap.size ≤ k_) ∧ some k_ ≠ (v140 : Value).ownBlock ∧ k_ ≠ gb138) (.slice A0 l0.length c0) l0) ∧ Aside0 (Kd.V k94 94 w' w.heap.size (fun k_ => ((P0_ k_ ∨ P1_ k_ ∨ P2_ k_) ∨ w.heap.size ≤ k_) ∧ some k_ ≠ (v140 : Value).ownBlock ∧ k_ ≠ gb138) (.slice A1 l1.length c1) l1) ∧ Aside0 (Kd.V k94 94 w' w.heap.size (fun k_ => ((P0_ k_ ∨ P1_ k_ ∨ P2_ k_) ∨ w.heap.size ≤ k_) ∧ some k_ ≠ (v140 : Value).ownBlock ∧ k_ ≠ gb138) (.slice A2 l2.length c2) l2) ∧ Aside0 (Kd.N (Kd.slice 94 k94) 24 w' w.heap.size (fun k_ => ((P0_ k_ ∨ P1_ k_ ∨ P2_ k_) ∨ w.heap.size ≤ k_) ∧ k_ ≠ gb138) v140 y139) ∧ Aside0 (w'.heap[gb138]? = some (.cells #[.int .i64 x139000_3, .int .i64 x139001_3, .int .i64 x139002_3] 114 (0, 0))) ∧ Aside0 (Below w.heap.size w w'))
              case atStart => exact ⟨(1), (x139000_2), (x139001_2), (x139002_2), (by first | rfl | (simp; done) | (simp [*]; done)), H', ⟨Nat.le_refl _⟩, ⟨by (with_reducible repeat (first | apply Kd.V_alloc | apply Kd.V_drewN | apply Kd.V_drew)); exact HO_0.out⟩, ⟨by (with_reducible repeat (first | apply Kd.V_alloc | apply Kd.V_drewN | apply Kd.V_drew)); exact HO_1.out⟩, ⟨by (with_reducible repeat (first | apply Kd.V_alloc | apply Kd.V_drewN | apply Kd.V_drew)); exact HO_2.out⟩, ⟨by (with_reducible repeat (first | apply Kd.N_alloc | apply Kd.N_drewN | apply Kd.N_drew)); exact HO_7.out⟩, ⟨by (with_reducible repeat (first | refine blk_drewN ?_ _ | refine blk_drew ?_ | refine blk_alloc ?_ _)); exact BK138.out⟩, ⟨by repeat (first | (with_reducible first | exact HB.out | apply below_alloc | apply pw_below_drewN | apply below_drew1 | refine below_set ?_ GE138.out) | exact HB.out)⟩⟩
              case round =>
                clear H'
                try clear c1
                try clear p1
                try clear q1
                try clear hx1
                try clear c2
                try clear p2
                try clear c5
                try clear p6
                try clear c7
                try clear c7b0
                try clear c8
                try clear c8b0
                try clear c9
                try clear c9b0
                try clear c10
                try clear c10b0
                try clear c10b1
                try clear c14
                try clear c14b0
                try clear p14
                try clear q14
                try clear hx14
                try clear c15
                try clear c15b0
                try clear c16
                try clear c16b0
                try clear c18
                try clear c18b0
                try clear c18b1
                try clear hcz12_0
                try clear hcz12_1
                try clear hcz12_2
                try clear hcz21_0
                try clear hcz21_1
                try clear hcz21_2
                try clear hfz12_0
                try clear hfz12_1
                try clear hfz12_2
                try clear hfz21_0
                try clear hfz21_1
                try clear hfz21_2
                try clear hx142_0
                try clear hx143_0
                try clear p1
                try clear p142
                try clear p143
                try clear p2
                try clear p6
                try clear q1
                try clear q142
                try clear q143
                obtain ⟨x12_3, x139000_3, x139001_3, x139002_3, rfl, HA, HK3, HO_0, HO_1, HO_2, HO_7, BK138, HB⟩ := hrel
                cases gk with
                | zero => exact absurd HA.out (by simp [tesseraref4_Check.l2])
                | succ k3 =>
                  have H := HA.out
                  clear HA
                  simp only [tesseraref4_Check.l2] at H
                  by_cases c22 : x12_3 < 3
                  · rw [if_pos c22] at H
                    have c22b0 : decide (x12_3 < 3) = true := decide_eq_true c22
                    clear c22
                    have H' := Aside0.mk H
                    clear H
                    go_wp2
                    repeat (go_quiet (fail); try go_wp2)
                    go_loopg [13, 14] k3 (fun kq v13 v14 w' => ∃ (x13_4 : Int) (x14_4 : Int), v13 = .int .i64 x13_4 ∧ v14 = .int .i64 x14_4 ∧ Aside0 (tesseraref4_Check.l3 kq l0 l1 l2 y139 x12_3 x13_4 x14_4 = some (r1, r2, r3)) ∧ Aside0 (kq ≤ k3) ∧ Aside0 (Kd.V k94 94 w' w.heap.size (fun k_ => ((P0_ k_ ∨ P1_ k_ ∨ P2_ k_) ∨ w.heap.size ≤ k_) ∧ some k_ ≠ (v140 : Value).ownBlock ∧ k_ ≠ gb138) (.slice A0 l0.length c0) l0) ∧ Aside0 (Kd.V k94 94 w' w.heap.size (fun k_ => ((P0_ k_ ∨ P1_ k_ ∨ P2_ k_) ∨ w.heap.size ≤ k_) ∧ some k_ ≠ (v140 : Value).ownBlock ∧ k_ ≠ gb138) (.slice A1 l1.length c1) l1) ∧ Aside0 (Kd.V k94 94 w' w.heap.size (fun k_ => ((P0_ k_ ∨ P1_ k_ ∨ P2_ k_) ∨ w.heap.size ≤ k_) ∧ some k_ ≠ (v140 : Value).ownBlock ∧ k_ ≠ gb138) (.slice A2 l2.length c2) l2) ∧ Aside0 (Kd.N (Kd.slice 94 k94) 24 w' w.heap.size (fun k_ => ((P0_ k_ ∨ P1_ k_ ∨ P2_ k_) ∨ w.heap.size ≤ k_) ∧ k_ ≠ gb138) v140 y139) ∧ Aside0 (w'.heap[gb138]? = some (.cells #[.int .i64 x139000_3, .int .i64 x139001_3, .int .i64 x139002_3] 114 (0, 0))) ∧ Aside0 (Below w.heap.size w w'))
                    case atStart => exact ⟨((-1)), (0), (by first | rfl | (simp; done) | (simp [*]; done)), (by first | rfl | (simp; done) | (simp [*]; done)), H', ⟨Nat.le_refl _⟩, ⟨by (with_reducible repeat (first | apply Kd.V_alloc | apply Kd.V_drewN | apply Kd.V_drew)); exact HO_0.out⟩, ⟨by (with_reducible repeat (first | apply Kd.V_alloc | apply Kd.V_drewN | apply Kd.V_drew)); exact HO_1.out⟩, ⟨by (with_reducible repeat (first | apply Kd.V_alloc | apply Kd.V_drewN | apply Kd.V_drew)); exact HO_2.out⟩, ⟨by (with_reducible repeat (first | apply Kd.N_alloc | apply Kd.N_drewN | apply Kd.N_drew)); exact HO_7.out⟩, ⟨by (with_reducible repeat (first | refine blk_drewN ?_ _ | refine blk_drew ?_ | refine blk_alloc ?_ _)); exact BK138.out⟩, ⟨by repeat (first | (with_reducible first | exact HB.out | apply below_alloc | apply pw_below_drewN | apply below_drew1 | refine below_set ?_ GE138.out) | exact HB.out)⟩⟩
                    case round =>
                      clear H'
                      try clear c1
                      try clear p1
                      try clear q1
                      try clear hx1
                      try clear c2
                      try clear p2
                      try clear c5
                      try clear p6
                      try clear c7
                      try clear c7b0
                      try clear c8
                      try clear c8b0
                      try clear c9
                      try clear c9b0
                      try clear c10
                      try clear c10b0
                      try clear c10b1
                      try clear c14
                      try clear c14b0
                      try clear p14
                      try clear q14
                      try clear hx14
                      try clear c15
                      try clear c15b0
                      try clear c16
                      try clear c16b0
                      try clear c18
                      try clear c18b0
                      try clear c18b1
                      try clear c22
                      try clear c22b0
                      try clear hcz12_0
                      try clear hcz12_1
                      try clear hcz12_2
                      try clear hcz21_0
                      try clear hcz21_1
                      try clear hcz21_2
                      try clear hfz12_0
                      try clear hfz12_1
                      try clear hfz12_2
                      try clear hfz21_0
                      try clear hfz21_1
                      try clear hfz21_2
                      try clear hx142_0
                      try clear hx143_0
                      try clear p1
                      try clear p14
                      try clear p142
                      try clear p143
                      try clear p2
                      try clear p6
                      try clear q1
                      try clear q14
                      try clear q142
                      try clear q143
                      obtain ⟨x13_4, x14_4, rfl, rfl, HA, HK4, HO_0, HO_1, HO_2, HO_7, BK138, HB⟩ := hrel
                      cases gk with
                      | zero => exact absurd HA.out (by simp [tesseraref4_Check.l3])
                      | succ k4 =>
                        have H := HA.out
                        clear HA
                        simp only [tesseraref4_Check.l3] at H
                        by_cases c23 : x14_4 < x12_3
                        · rw [if_pos c23] at H
                          have c23b0 : decide (x14_4 < x12_3) = true := decide_eq_true c23
                          clear c23
                          by_cases c24 : 0 ≤ x12_3
                          · rw [if_pos c24] at H
                            have c24b0 : decide (0 ≤ x12_3) = true := decide_eq_true c24
                            clear c24
                            by_cases c25 : x12_3 < (y139.length : Int)
                            · rw [if_pos c25] at H
                              have c25b0 : decide (x12_3 < (y139.length : Int)) = true := decide_eq_true c25
                              clear c25
                              by_cases c26 : 0 ≤ x14_4
                              · rw [if_pos c26] at H
                                have c26b0 : decide (0 ≤ x14_4) = true := decide_eq_true c26
                                clear c26
                                by_cases c27 : x14_4 < (y139.length : Int)
                                · rw [if_pos c27] at H
                                  have c27b0 : decide (x14_4 < (y139.length : Int)) = true := decide_eq_true c27
                                  clear c27
                                  replace H := Option.bind_eq_some_iff.mp H
                                  obtain ⟨⟨t148, t149⟩, A280, H⟩ := H
                                  replace H : (if t149 = true then (if x13_4 < 0 then (tesseraref4_Check.l3 k4 l0 l1 l2 y139 x12_3 t148 (wrap64 (x14_4 + 1))) else (if t148 < x13_4 then (tesseraref4_Check.l3 k4 l0 l1 l2 y139 x12_3 t148 (wrap64 (x14_4 + 1))) else (tesseraref4_Check.l3 k4 l0 l1 l2 y139 x12_3 x13_4 (wrap64 (x14_4 + 1))))) else (tesseraref4_Check.l3 k4 l0 l1 l2 y139 x12_3 x13_4 (wrap64 (x14_4 + 1)))) = some (r1, r2, r3) := H
                                  have A28 := Aside0.mk A280
                                  clear A280
                                  by_cases c29 : t149 = true
                                  · subst c29
                                    have H1 : (if x13_4 < 0 then (tesseraref4_Check.l3 k4 l0 l1 l2 y139 x12_3 t148 (wrap64 (x14_4 + 1))) else (if t148 < x13_4 then (tesseraref4_Check.l3 k4 l0 l1 l2 y139 x12_3 t148 (wrap64 (x14_4 + 1))) else (tesseraref4_Check.l3 k4 l0 l1 l2 y139 x12_3 x13_4 (wrap64 (x14_4 + 1))))) = some (r1, r2, r3) := by rw [if_pos rfl] at H; exact H
                                    clear H
                                    have H := H1
                                    clear H1
                                    by_cases c30 : x13_4 < 0
                                    · rw [if_pos c30] at H
                                      have c30b0 : decide (x13_4 < 0) = true := decide_eq_true c30
                                      clear c30
                                      have H' := Aside0.mk H
                                      clear H
                                      obtain ⟨Ao31, co31, eo31⟩ := Kd.N_slice HO_7.out
                                      subst eo31
                                      have p146 : 0 ≤ (x12_3 : Int) := of_decide_eq_true (by first | (with_reducible assumption) | assumption)
                                      have q146 : x12_3 < (y139.length : Int) := of_decide_eq_true (by first | (with_reducible assumption) | assumption)
                                      obtain ⟨ad146, A146_0, c146_0, e146, hx146_0, hl146_0, hi146_0⟩ := at_L5 (Kd.N_reads' HO_7.out).2.2 x12_3 p146 q146
                                      cases e146
                                      obtain ⟨ce146, hce146, hMe146, hcc146⟩ := Kd.N_get HO_7.out [] x12_3 p146 (by first | exact q146 | exact of_decide_eq_true (by first | (with_reducible assumption) | assumption) | (have e_ := (Kd.N_reads' HO_7.out).1; omega))
                                      obtain ⟨ua146_0, uc146_0, rfl, ul146_0, ge146_0⟩ := Kd.FK_slice_open hMe146
                                      have hv146_0 := hcc146 0 _ rfl
                                      rw [Nat.add_zero, show ((Kd.slice 94 k94)).sz = 1 from rfl, Nat.mul_one] at hv146_0
                                      replace hv146_0 := Option.some.inj (hv146_0.symm.trans hx146_0)
                                      injection hv146_0 with hva_ hvn_ hvc_
                                      rw [hva_] at ge146_0
                                      rw [hvc_] at ul146_0
                                      have HL146_0 := Aside0.mk (show Kd.V k94 94 _ w.heap.size _ _ (rd_L5 y139 x12_3) from Kd.V_mk ul146_0 ge146_0)
                                      clear hva_ hvn_ hvc_ ge146_0 ul146_0
                                      clear hcc146 hce146
                                      have HR146_0 := Aside0.mk hi146_0
                                      have HC146_0 := Aside0.mk hl146_0
                                      clear hi146_0 hl146_0
                                      replace p146 := eq_true p146
                                      replace q146 := eq_true q146
                                      have p147 : 0 ≤ (x14_4 : Int) := of_decide_eq_true (by first | (with_reducible assumption) | assumption)
                                      have q147 : x14_4 < (y139.length : Int) := of_decide_eq_true (by first | (with_reducible assumption) | assumption)
                                      obtain ⟨ad147, A147_0, c147_0, e147, hx147_0, hl147_0, hi147_0⟩ := at_L5 (Kd.N_reads' HO_7.out).2.2 x14_4 p147 q147
                                      obtain rfl : ad146 = ad147 := (by injection e147)
                                      obtain ⟨ce147, hce147, hMe147, hcc147⟩ := Kd.N_get HO_7.out [] x14_4 p147 (by first | exact q147 | exact of_decide_eq_true (by first | (with_reducible assumption) | assumption) | (have e_ := (Kd.N_reads' HO_7.out).1; omega))
                                      obtain ⟨ua147_0, uc147_0, rfl, ul147_0, ge147_0⟩ := Kd.FK_slice_open hMe147
                                      have hv147_0 := hcc147 0 _ rfl
                                      rw [Nat.add_zero, show ((Kd.slice 94 k94)).sz = 1 from rfl, Nat.mul_one] at hv147_0
                                      replace hv147_0 := Option.some.inj (hv147_0.symm.trans hx147_0)
                                      injection hv147_0 with hva_ hvn_ hvc_
                                      rw [hva_] at ge147_0
                                      rw [hvc_] at ul147_0
                                      have HL147_0 := Aside0.mk (show Kd.V k94 94 _ w.heap.size _ _ (rd_L5 y139 x14_4) from Kd.V_mk ul147_0 ge147_0)
                                      clear hva_ hvn_ hvc_ ge147_0 ul147_0
                                      clear hcc147 hce147
                                      have HR147_0 := Aside0.mk hi147_0
                                      have HC147_0 := Aside0.mk hl147_0
                                      clear hi147_0 hl147_0
                                      replace p147 := eq_true p147
                                      replace q147 := eq_true q147
                                      go_wp2_with (first | (go_at_call 79; (with_reducible refine (tesseraref3_Meet.calls k4 _ _ (rd_L5 y139 x12_3) _ _ (rd_L5 y139 x14_4) t148 true _ ?side1 ?side2 ?side3 ?side4 A28.out).mono ?_); (case side1 => repeat (first | exact (by repeat (first | (with_reducible exact HR146_0.out) | (with_reducible refine Kd.C_alloc ?_ _) | (with_reducible refine Kd.C_drewN ?_ _) | (with_reducible refine Kd.C_drew ?_) | exact HR146_0.out)) | (with_reducible refine Kd.C_alloc ?_ _) | (with_reducible refine Kd.C_drewN ?_ _) | (with_reducible refine Kd.C_drew ?_))); (case side2 => exact HC146_0.out); (case side3 => repeat (first | exact (by repeat (first | (with_reducible exact HR147_0.out) | (with_reducible refine Kd.C_alloc ?_ _) | (with_reducible refine Kd.C_drewN ?_ _) | (with_reducible refine Kd.C_drew ?_) | exact HR147_0.out)) | (with_reducible refine Kd.C_alloc ?_ _) | (with_reducible refine Kd.C_drewN ?_ _) | (with_reducible refine Kd.C_drew ?_))); (case side4 => exact HC147_0.out); rintro e w' ⟨rfl, ⟨nd, rfl⟩⟩; (try first | exact ⟨rfl, _, World.drewN_drewN _ _ _⟩ | exact ⟨rfl, _, Eq.trans (World.drewN_drewN _ _ _) (congrArg (World.drewN _) (Nat.add_assoc _ _ _))⟩)))
                                      repeat (go_quiet (first | (go_at_call 79; (with_reducible refine (tesseraref3_Meet.calls k4 _ _ (rd_L5 y139 x12_3) _ _ (rd_L5 y139 x14_4) t148 true _ ?side1 ?side2 ?side3 ?side4 A28.out).mono ?_); (case side1 => repeat (first | exact (by repeat (first | (with_reducible exact HR146_0.out) | (with_reducible refine Kd.C_alloc ?_ _) | (with_reducible refine Kd.C_drewN ?_ _) | (with_reducible refine Kd.C_drew ?_) | exact HR146_0.out)) | (with_reducible refine Kd.C_alloc ?_ _) | (with_reducible refine Kd.C_drewN ?_ _) | (with_reducible refine Kd.C_drew ?_))); (case side2 => exact HC146_0.out); (case side3 => repeat (first | exact (by repeat (first | (with_reducible exact HR147_0.out) | (with_reducible refine Kd.C_alloc ?_ _) | (with_reducible refine Kd.C_drewN ?_ _) | (with_reducible refine Kd.C_drew ?_) | exact HR147_0.out)) | (with_reducible refine Kd.C_alloc ?_ _) | (with_reducible refine Kd.C_drewN ?_ _) | (with_reducible refine Kd.C_drew ?_))); (case side4 => exact HC147_0.out); rintro e w' ⟨rfl, ⟨nd, rfl⟩⟩; (try first | exact ⟨rfl, _, World.drewN_drewN _ _ _⟩ | exact ⟨rfl, _, Eq.trans (World.drewN_drewN _ _ _) (congrArg (World.drewN _) (Nat.add_assoc _ _ _))⟩))); try go_wp2_with (first | (go_at_call 79; (with_reducible refine (tesseraref3_Meet.calls k4 _ _ (rd_L5 y139 x12_3) _ _ (rd_L5 y139 x14_4) t148 true _ ?side1 ?side2 ?side3 ?side4 A28.out).mono ?_); (case side1 => repeat (first | exact (by repeat (first | (with_reducible exact HR146_0.out) | (with_reducible refine Kd.C_alloc ?_ _) | (with_reducible refine Kd.C_drewN ?_ _) | (with_reducible refine Kd.C_drew ?_) | exact HR146_0.out)) | (with_reducible refine Kd.C_alloc ?_ _) | (with_reducible refine Kd.C_drewN ?_ _) | (with_reducible refine Kd.C_drew ?_))); (case side2 => exact HC146_0.out); (case side3 => repeat (first | exact (by repeat (first | (with_reducible exact HR147_0.out) | (with_reducible refine Kd.C_alloc ?_ _) | (with_reducible refine Kd.C_drewN ?_ _) | (with_reducible refine Kd.C_drew ?_) | exact HR147_0.out)) | (with_reducible refine Kd.C_alloc ?_ _) | (with_reducible refine Kd.C_drewN ?_ _) | (with_reducible refine Kd.C_drew ?_))); (case side4 => exact HC147_0.out); rintro e w' ⟨rfl, ⟨nd, rfl⟩⟩; (try first | exact ⟨rfl, _, World.drewN_drewN _ _ _⟩ | exact ⟨rfl, _, Eq.trans (World.drewN_drewN _ _ _) (congrArg (World.drewN _) (Nat.add_assoc _ _ _))⟩))))
                                      go_roundg k4
                                      case measure => have := HK1.out; have := HK2.out; have := HK3.out; have := HK4.out; omega
                                      case rel => exact ⟨(t148), (wrap64 (x14_4 + 1)), (by first | rfl | (simp; done) | (simp [*]; done)), (by first | rfl | (simp; done) | (simp [*]; done)), H', ⟨by have := HK1.out; have := HK2.out; have := HK3.out; have := HK4.out; omega⟩, ⟨by (with_reducible repeat (first | apply Kd.V_alloc | apply Kd.V_drewN | apply Kd.V_drew)); exact HO_0.out⟩, ⟨by (with_reducible repeat (first | apply Kd.V_alloc | apply Kd.V_drewN | apply Kd.V_drew)); exact HO_1.out⟩, ⟨by (with_reducible repeat (first | apply Kd.V_alloc | apply Kd.V_drewN | apply Kd.V_drew)); exact HO_2.out⟩, ⟨by (with_reducible repeat (first | apply Kd.N_alloc | apply Kd.N_drewN | apply Kd.N_drew)); exact HO_7.out⟩, ⟨by (with_reducible repeat (first | refine blk_drewN ?_ _ | refine blk_drew ?_ | refine blk_alloc ?_ _)); exact BK138.out⟩, ⟨by repeat (first | (with_reducible first | exact HB.out | apply below_alloc | apply pw_below_drewN | apply below_drew1 | refine below_set ?_ GE138.out) | exact HB.out)⟩⟩
                                    · rw [if_neg c30] at H
                                      have c30b0 : decide (x13_4 < 0) = false := decide_eq_false c30
                                      clear c30
                                      by_cases c32 : t148 < x13_4
                                      · rw [if_pos c32] at H
                                        have c32b0 : decide (t148 < x13_4) = true := decide_eq_true c32
                                        clear c32
                                        have H' := Aside0.mk H
                                        clear H
                                        obtain ⟨Ao33, co33, eo33⟩ := Kd.N_slice HO_7.out
                                        subst eo33
                                        have p146 : 0 ≤ (x12_3 : Int) := of_decide_eq_true (by first | (with_reducible assumption) | assumption)
                                        have q146 : x12_3 < (y139.length : Int) := of_decide_eq_true (by first | (with_reducible assumption) | assumption)
                                        obtain ⟨ad146, A146_0, c146_0, e146, hx146_0, hl146_0, hi146_0⟩ := at_L5 (Kd.N_reads' HO_7.out).2.2 x12_3 p146 q146
                                        cases e146
                                        obtain ⟨ce146, hce146, hMe146, hcc146⟩ := Kd.N_get HO_7.out [] x12_3 p146 (by first | exact q146 | exact of_decide_eq_true (by first | (with_reducible assumption) | assumption) | (have e_ := (Kd.N_reads' HO_7.out).1; omega))
                                        obtain ⟨ua146_0, uc146_0, rfl, ul146_0, ge146_0⟩ := Kd.FK_slice_open hMe146
                                        have hv146_0 := hcc146 0 _ rfl
                                        rw [Nat.add_zero, show ((Kd.slice 94 k94)).sz = 1 from rfl, Nat.mul_one] at hv146_0
                                        replace hv146_0 := Option.some.inj (hv146_0.symm.trans hx146_0)
                                        injection hv146_0 with hva_ hvn_ hvc_
                                        rw [hva_] at ge146_0
                                        rw [hvc_] at ul146_0
                                        have HL146_0 := Aside0.mk (show Kd.V k94 94 _ w.heap.size _ _ (rd_L5 y139 x12_3) from Kd.V_mk ul146_0 ge146_0)
                                        clear hva_ hvn_ hvc_ ge146_0 ul146_0
                                        clear hcc146 hce146
                                        have HR146_0 := Aside0.mk hi146_0
                                        have HC146_0 := Aside0.mk hl146_0
                                        clear hi146_0 hl146_0
                                        replace p146 := eq_true p146
                                        replace q146 := eq_true q146
                                        have p147 : 0 ≤ (x14_4 : Int) := of_decide_eq_true (by first | (with_reducible assumption) | assumption)
                                        have q147 : x14_4 < (y139.length : Int) := of_decide_eq_true (by first | (with_reducible assumption) | assumption)
                                        obtain ⟨ad147, A147_0, c147_0, e147, hx147_0, hl147_0, hi147_0⟩ := at_L5 (Kd.N_reads' HO_7.out).2.2 x14_4 p147 q147
                                        obtain rfl : ad146 = ad147 := (by injection e147)
                                        obtain ⟨ce147, hce147, hMe147, hcc147⟩ := Kd.N_get HO_7.out [] x14_4 p147 (by first | exact q147 | exact of_decide_eq_true (by first | (with_reducible assumption) | assumption) | (have e_ := (Kd.N_reads' HO_7.out).1; omega))
                                        obtain ⟨ua147_0, uc147_0, rfl, ul147_0, ge147_0⟩ := Kd.FK_slice_open hMe147
                                        have hv147_0 := hcc147 0 _ rfl
                                        rw [Nat.add_zero, show ((Kd.slice 94 k94)).sz = 1 from rfl, Nat.mul_one] at hv147_0
                                        replace hv147_0 := Option.some.inj (hv147_0.symm.trans hx147_0)
                                        injection hv147_0 with hva_ hvn_ hvc_
                                        rw [hva_] at ge147_0
                                        rw [hvc_] at ul147_0
                                        have HL147_0 := Aside0.mk (show Kd.V k94 94 _ w.heap.size _ _ (rd_L5 y139 x14_4) from Kd.V_mk ul147_0 ge147_0)
                                        clear hva_ hvn_ hvc_ ge147_0 ul147_0
                                        clear hcc147 hce147
                                        have HR147_0 := Aside0.mk hi147_0
                                        have HC147_0 := Aside0.mk hl147_0
                                        clear hi147_0 hl147_0
                                        replace p147 := eq_true p147
                                        replace q147 := eq_true q147
                                        go_wp2_with (first | (go_at_call 79; (with_reducible refine (tesseraref3_Meet.calls k4 _ _ (rd_L5 y139 x12_3) _ _ (rd_L5 y139 x14_4) t148 true _ ?side1 ?side2 ?side3 ?side4 A28.out).mono ?_); (case side1 => repeat (first | exact (by repeat (first | (with_reducible exact HR146_0.out) | (with_reducible refine Kd.C_alloc ?_ _) | (with_reducible refine Kd.C_drewN ?_ _) | (with_reducible refine Kd.C_drew ?_) | exact HR146_0.out)) | (with_reducible refine Kd.C_alloc ?_ _) | (with_reducible refine Kd.C_drewN ?_ _) | (with_reducible refine Kd.C_drew ?_))); (case side2 => exact HC146_0.out); (case side3 => repeat (first | exact (by repeat (first | (with_reducible exact HR147_0.out) | (with_reducible refine Kd.C_alloc ?_ _) | (with_reducible refine Kd.C_drewN ?_ _) | (with_reducible refine Kd.C_drew ?_) | exact HR147_0.out)) | (with_reducible refine Kd.C_alloc ?_ _) | (with_reducible refine Kd.C_drewN ?_ _) | (with_reducible refine Kd.C_drew ?_))); (case side4 => exact HC147_0.out); rintro e w' ⟨rfl, ⟨nd, rfl⟩⟩; (try first | exact ⟨rfl, _, World.drewN_drewN _ _ _⟩ | exact ⟨rfl, _, Eq.trans (World.drewN_drewN _ _ _) (congrArg (World.drewN _) (Nat.add_assoc _ _ _))⟩)))
                                        repeat (go_quiet (first | (go_at_call 79; (with_reducible refine (tesseraref3_Meet.calls k4 _ _ (rd_L5 y139 x12_3) _ _ (rd_L5 y139 x14_4) t148 true _ ?side1 ?side2 ?side3 ?side4 A28.out).mono ?_); (case side1 => repeat (first | exact (by repeat (first | (with_reducible exact HR146_0.out) | (with_reducible refine Kd.C_alloc ?_ _) | (with_reducible refine Kd.C_drewN ?_ _) | (with_reducible refine Kd.C_drew ?_) | exact HR146_0.out)) | (with_reducible refine Kd.C_alloc ?_ _) | (with_reducible refine Kd.C_drewN ?_ _) | (with_reducible refine Kd.C_drew ?_))); (case side2 => exact HC146_0.out); (case side3 => repeat (first | exact (by repeat (first | (with_reducible exact HR147_0.out) | (with_reducible refine Kd.C_alloc ?_ _) | (with_reducible refine Kd.C_drewN ?_ _) | (with_reducible refine Kd.C_drew ?_) | exact HR147_0.out)) | (with_reducible refine Kd.C_alloc ?_ _) | (with_reducible refine Kd.C_drewN ?_ _) | (with_reducible refine Kd.C_drew ?_))); (case side4 => exact HC147_0.out); rintro e w' ⟨rfl, ⟨nd, rfl⟩⟩; (try first | exact ⟨rfl, _, World.drewN_drewN _ _ _⟩ | exact ⟨rfl, _, Eq.trans (World.drewN_drewN _ _ _) (congrArg (World.drewN _) (Nat.add_assoc _ _ _))⟩))); try go_wp2_with (first | (go_at_call 79; (with_reducible refine (tesseraref3_Meet.calls k4 _ _ (rd_L5 y139 x12_3) _ _ (rd_L5 y139 x14_4) t148 true _ ?side1 ?side2 ?side3 ?side4 A28.out).mono ?_); (case side1 => repeat (first | exact (by repeat (first | (with_reducible exact HR146_0.out) | (with_reducible refine Kd.C_alloc ?_ _) | (with_reducible refine Kd.C_drewN ?_ _) | (with_reducible refine Kd.C_drew ?_) | exact HR146_0.out)) | (with_reducible refine Kd.C_alloc ?_ _) | (with_reducible refine Kd.C_drewN ?_ _) | (with_reducible refine Kd.C_drew ?_))); (case side2 => exact HC146_0.out); (case side3 => repeat (first | exact (by repeat (first | (with_reducible exact HR147_0.out) | (with_reducible refine Kd.C_alloc ?_ _) | (with_reducible refine Kd.C_drewN ?_ _) | (with_reducible refine Kd.C_drew ?_) | exact HR147_0.out)) | (with_reducible refine Kd.C_alloc ?_ _) | (with_reducible refine Kd.C_drewN ?_ _) | (with_reducible refine Kd.C_drew ?_))); (case side4 => exact HC147_0.out); rintro e w' ⟨rfl, ⟨nd, rfl⟩⟩; (try first | exact ⟨rfl, _, World.drewN_drewN _ _ _⟩ | exact ⟨rfl, _, Eq.trans (World.drewN_drewN _ _ _) (congrArg (World.drewN _) (Nat.add_assoc _ _ _))⟩))))
                                        go_roundg k4
                                        case measure => have := HK1.out; have := HK2.out; have := HK3.out; have := HK4.out; omega
                                        case rel => exact ⟨(t148), (wrap64 (x14_4 + 1)), (by first | rfl | (simp; done) | (simp [*]; done)), (by first | rfl | (simp; done) | (simp [*]; done)), H', ⟨by have := HK1.out; have := HK2.out; have := HK3.out; have := HK4.out; omega⟩, ⟨by (with_reducible repeat (first | apply Kd.V_alloc | apply Kd.V_drewN | apply Kd.V_drew)); exact HO_0.out⟩, ⟨by (with_reducible repeat (first | apply Kd.V_alloc | apply Kd.V_drewN | apply Kd.V_drew)); exact HO_1.out⟩, ⟨by (with_reducible repeat (first | apply Kd.V_alloc | apply Kd.V_drewN | apply Kd.V_drew)); exact HO_2.out⟩, ⟨by (with_reducible repeat (first | apply Kd.N_alloc | apply Kd.N_drewN | apply Kd.N_drew)); exact HO_7.out⟩, ⟨by (with_reducible repeat (first | refine blk_drewN ?_ _ | refine blk_drew ?_ | refine blk_alloc ?_ _)); exact BK138.out⟩, ⟨by repeat (first | (with_reducible first | exact HB.out | apply below_alloc | apply pw_below_drewN | apply below_drew1 | refine below_set ?_ GE138.out) | exact HB.out)⟩⟩
                                      · rw [if_neg c32] at H
                                        have c32b0 : decide (t148 < x13_4) = false := decide_eq_false c32
                                        clear c32
                                        have H' := Aside0.mk H
                                        clear H
                                        obtain ⟨Ao34, co34, eo34⟩ := Kd.N_slice HO_7.out
                                        subst eo34
                                        have p146 : 0 ≤ (x12_3 : Int) := of_decide_eq_true (by first | (with_reducible assumption) | assumption)
                                        have q146 : x12_3 < (y139.length : Int) := of_decide_eq_true (by first | (with_reducible assumption) | assumption)
                                        obtain ⟨ad146, A146_0, c146_0, e146, hx146_0, hl146_0, hi146_0⟩ := at_L5 (Kd.N_reads' HO_7.out).2.2 x12_3 p146 q146
                                        cases e146
                                        obtain ⟨ce146, hce146, hMe146, hcc146⟩ := Kd.N_get HO_7.out [] x12_3 p146 (by first | exact q146 | exact of_decide_eq_true (by first | (with_reducible assumption) | assumption) | (have e_ := (Kd.N_reads' HO_7.out).1; omega))
                                        obtain ⟨ua146_0, uc146_0, rfl, ul146_0, ge146_0⟩ := Kd.FK_slice_open hMe146
                                        have hv146_0 := hcc146 0 _ rfl
                                        rw [Nat.add_zero, show ((Kd.slice 94 k94)).sz = 1 from rfl, Nat.mul_one] at hv146_0
                                        replace hv146_0 := Option.some.inj (hv146_0.symm.trans hx146_0)
                                        injection hv146_0 with hva_ hvn_ hvc_
                                        rw [hva_] at ge146_0
                                        rw [hvc_] at ul146_0
                                        have HL146_0 := Aside0.mk (show Kd.V k94 94 _ w.heap.size _ _ (rd_L5 y139 x12_3) from Kd.V_mk ul146_0 ge146_0)
                                        clear hva_ hvn_ hvc_ ge146_0 ul146_0
                                        clear hcc146 hce146
                                        have HR146_0 := Aside0.mk hi146_0
                                        have HC146_0 := Aside0.mk hl146_0
                                        clear hi146_0 hl146_0
                                        replace p146 := eq_true p146
                                        replace q146 := eq_true q146
                                        have p147 : 0 ≤ (x14_4 : Int) := of_decide_eq_true (by first | (with_reducible assumption) | assumption)
                                        have q147 : x14_4 < (y139.length : Int) := of_decide_eq_true (by first | (with_reducible assumption) | assumption)
                                        obtain ⟨ad147, A147_0, c147_0, e147, hx147_0, hl147_0, hi147_0⟩ := at_L5 (Kd.N_reads' HO_7.out).2.2 x14_4 p147 q147
                                        obtain rfl : ad146 = ad147 := (by injection e147)
                                        obtain ⟨ce147, hce147, hMe147, hcc147⟩ := Kd.N_get HO_7.out [] x14_4 p147 (by first | exact q147 | exact of_decide_eq_true (by first | (with_reducible assumption) | assumption) | (have e_ := (Kd.N_reads' HO_7.out).1; omega))
                                        obtain ⟨ua147_0, uc147_0, rfl, ul147_0, ge147_0⟩ := Kd.FK_slice_open hMe147
                                        have hv147_0 := hcc147 0 _ rfl
                                        rw [Nat.add_zero, show ((Kd.slice 94 k94)).sz = 1 from rfl, Nat.mul_one] at hv147_0
                                        replace hv147_0 := Option.some.inj (hv147_0.symm.trans hx147_0)
                                        injection hv147_0 with hva_ hvn_ hvc_
                                        rw [hva_] at ge147_0
                                        rw [hvc_] at ul147_0
                                        have HL147_0 := Aside0.mk (show Kd.V k94 94 _ w.heap.size _ _ (rd_L5 y139 x14_4) from Kd.V_mk ul147_0 ge147_0)
                                        clear hva_ hvn_ hvc_ ge147_0 ul147_0
                                        clear hcc147 hce147
                                        have HR147_0 := Aside0.mk hi147_0
                                        have HC147_0 := Aside0.mk hl147_0
                                        clear hi147_0 hl147_0
                                        replace p147 := eq_true p147
                                        replace q147 := eq_true q147
                                        go_wp2_with (first | (go_at_call 79; (with_reducible refine (tesseraref3_Meet.calls k4 _ _ (rd_L5 y139 x12_3) _ _ (rd_L5 y139 x14_4) t148 true _ ?side1 ?side2 ?side3 ?side4 A28.out).mono ?_); (case side1 => repeat (first | exact (by repeat (first | (with_reducible exact HR146_0.out) | (with_reducible refine Kd.C_alloc ?_ _) | (with_reducible refine Kd.C_drewN ?_ _) | (with_reducible refine Kd.C_drew ?_) | exact HR146_0.out)) | (with_reducible refine Kd.C_alloc ?_ _) | (with_reducible refine Kd.C_drewN ?_ _) | (with_reducible refine Kd.C_drew ?_))); (case side2 => exact HC146_0.out); (case side3 => repeat (first | exact (by repeat (first | (with_reducible exact HR147_0.out) | (with_reducible refine Kd.C_alloc ?_ _) | (with_reducible refine Kd.C_drewN ?_ _) | (with_reducible refine Kd.C_drew ?_) | exact HR147_0.out)) | (with_reducible refine Kd.C_alloc ?_ _) | (with_reducible refine Kd.C_drewN ?_ _) | (with_reducible refine Kd.C_drew ?_))); (case side4 => exact HC147_0.out); rintro e w' ⟨rfl, ⟨nd, rfl⟩⟩; (try first | exact ⟨rfl, _, World.drewN_drewN _ _ _⟩ | exact ⟨rfl, _, Eq.trans (World.drewN_drewN _ _ _) (congrArg (World.drewN _) (Nat.add_assoc _ _ _))⟩)))
                                        repeat (go_quiet (first | (go_at_call 79; (with_reducible refine (tesseraref3_Meet.calls k4 _ _ (rd_L5 y139 x12_3) _ _ (rd_L5 y139 x14_4) t148 true _ ?side1 ?side2 ?side3 ?side4 A28.out).mono ?_); (case side1 => repeat (first | exact (by repeat (first | (with_reducible exact HR146_0.out) | (with_reducible refine Kd.C_alloc ?_ _) | (with_reducible refine Kd.C_drewN ?_ _) | (with_reducible refine Kd.C_drew ?_) | exact HR146_0.out)) | (with_reducible refine Kd.C_alloc ?_ _) | (with_reducible refine Kd.C_drewN ?_ _) | (with_reducible refine Kd.C_drew ?_))); (case side2 => exact HC146_0.out); (case side3 => repeat (first | exact (by repeat (first | (with_reducible exact HR147_0.out) | (with_reducible refine Kd.C_alloc ?_ _) | (with_reducible refine Kd.C_drewN ?_ _) | (with_reducible refine Kd.C_drew ?_) | exact HR147_0.out)) | (with_reducible refine Kd.C_alloc ?_ _) | (with_reducible refine Kd.C_drewN ?_ _) | (with_reducible refine Kd.C_drew ?_))); (case side4 => exact HC147_0.out); rintro e w' ⟨rfl, ⟨nd, rfl⟩⟩; (try first | exact ⟨rfl, _, World.drewN_drewN _ _ _⟩ | exact ⟨rfl, _, Eq.trans (World.drewN_drewN _ _ _) (congrArg (World.drewN _) (Nat.add_assoc _ _ _))⟩))); try go_wp2_with (first | (go_at_call 79; (with_reducible refine (tesseraref3_Meet.calls k4 _ _ (rd_L5 y139 x12_3) _ _ (rd_L5 y139 x14_4) t148 true _ ?side1 ?side2 ?side3 ?side4 A28.out).mono ?_); (case side1 => repeat (first | exact (by repeat (first | (with_reducible exact HR146_0.out) | (with_reducible refine Kd.C_alloc ?_ _) | (with_reducible refine Kd.C_drewN ?_ _) | (with_reducible refine Kd.C_drew ?_) | exact HR146_0.out)) | (with_reducible refine Kd.C_alloc ?_ _) | (with_reducible refine Kd.C_drewN ?_ _) | (with_reducible refine Kd.C_drew ?_))); (case side2 => exact HC146_0.out); (case side3 => repeat (first | exact (by repeat (first | (with_reducible exact HR147_0.out) | (with_reducible refine Kd.C_alloc ?_ _) | (with_reducible refine Kd.C_drewN ?_ _) | (with_reducible refine Kd.C_drew ?_) | exact HR147_0.out)) | (with_reducible refine Kd.C_alloc ?_ _) | (with_reducible refine Kd.C_drewN ?_ _) | (with_reducible refine Kd.C_drew ?_))); (case side4 => exact HC147_0.out); rintro e w' ⟨rfl, ⟨nd, rfl⟩⟩; (try first | exact ⟨rfl, _, World.drewN_drewN _ _ _⟩ | exact ⟨rfl, _, Eq.trans (World.drewN_drewN _ _ _) (congrArg (World.drewN _) (Nat.add_assoc _ _ _))⟩))))
                                        go_roundg k4
                                        case measure => have := HK1.out; have := HK2.out; have := HK3.out; have := HK4.out; omega
                                        case rel => exact ⟨(x13_4), (wrap64 (x14_4 + 1)), (by first | rfl | (simp; done) | (simp [*]; done)), (by first | rfl | (simp; done) | (simp [*]; done)), H', ⟨by have := HK1.out; have := HK2.out; have := HK3.out; have := HK4.out; omega⟩, ⟨by (with_reducible repeat (first | apply Kd.V_alloc | apply Kd.V_drewN | apply Kd.V_drew)); exact HO_0.out⟩, ⟨by (with_reducible repeat (first | apply Kd.V_alloc | apply Kd.V_drewN | apply Kd.V_drew)); exact HO_1.out⟩, ⟨by (with_reducible repeat (first | apply Kd.V_alloc | apply Kd.V_drewN | apply Kd.V_drew)); exact HO_2.out⟩, ⟨by (with_reducible repeat (first | apply Kd.N_alloc | apply Kd.N_drewN | apply Kd.N_drew)); exact HO_7.out⟩, ⟨by (with_reducible repeat (first | refine blk_drewN ?_ _ | refine blk_drew ?_ | refine blk_alloc ?_ _)); exact BK138.out⟩, ⟨by repeat (first | (with_reducible first | exact HB.out | apply below_alloc | apply pw_below_drewN | apply below_drew1 | refine below_set ?_ GE138.out) | exact HB.out)⟩⟩
                                  · replace c29 := Bool.eq_false_iff.mpr c29
                                    subst c29
                                    have H1 : (tesseraref4_Check.l3 k4 l0 l1 l2 y139 x12_3 x13_4 (wrap64 (x14_4 + 1))) = some (r1, r2, r3) := by rw [if_neg (show ¬ (false = true) by decide)] at H; exact H
                                    clear H
                                    have H := H1
                                    clear H1
                                    have H' := Aside0.mk H
                                    clear H
                                    obtain ⟨Ao35, co35, eo35⟩ := Kd.N_slice HO_7.out
                                    subst eo35
                                    have p146 : 0 ≤ (x12_3 : Int) := of_decide_eq_true (by first | (with_reducible assumption) | assumption)
                                    have q146 : x12_3 < (y139.length : Int) := of_decide_eq_true (by first | (with_reducible assumption) | assumption)
                                    obtain ⟨ad146, A146_0, c146_0, e146, hx146_0, hl146_0, hi146_0⟩ := at_L5 (Kd.N_reads' HO_7.out).2.2 x12_3 p146 q146
                                    cases e146
                                    obtain ⟨ce146, hce146, hMe146, hcc146⟩ := Kd.N_get HO_7.out [] x12_3 p146 (by first | exact q146 | exact of_decide_eq_true (by first | (with_reducible assumption) | assumption) | (have e_ := (Kd.N_reads' HO_7.out).1; omega))
                                    obtain ⟨ua146_0, uc146_0, rfl, ul146_0, ge146_0⟩ := Kd.FK_slice_open hMe146
                                    have hv146_0 := hcc146 0 _ rfl
                                    rw [Nat.add_zero, show ((Kd.slice 94 k94)).sz = 1 from rfl, Nat.mul_one] at hv146_0
                                    replace hv146_0 := Option.some.inj (hv146_0.symm.trans hx146_0)
                                    injection hv146_0 with hva_ hvn_ hvc_
                                    rw [hva_] at ge146_0
                                    rw [hvc_] at ul146_0
                                    have HL146_0 := Aside0.mk (show Kd.V k94 94 _ w.heap.size _ _ (rd_L5 y139 x12_3) from Kd.V_mk ul146_0 ge146_0)
                                    clear hva_ hvn_ hvc_ ge146_0 ul146_0
                                    clear hcc146 hce146
                                    have HR146_0 := Aside0.mk hi146_0
                                    have HC146_0 := Aside0.mk hl146_0
                                    clear hi146_0 hl146_0
                                    replace p146 := eq_true p146
                                    replace q146 := eq_true q146
                                    have p147 : 0 ≤ (x14_4 : Int) := of_decide_eq_true (by first | (with_reducible assumption) | assumption)
                                    have q147 : x14_4 < (y139.length : Int) := of_decide_eq_true (by first | (with_reducible assumption) | assumption)
                                    obtain ⟨ad147, A147_0, c147_0, e147, hx147_0, hl147_0, hi147_0⟩ := at_L5 (Kd.N_reads' HO_7.out).2.2 x14_4 p147 q147
                                    obtain rfl : ad146 = ad147 := (by injection e147)
                                    obtain ⟨ce147, hce147, hMe147, hcc147⟩ := Kd.N_get HO_7.out [] x14_4 p147 (by first | exact q147 | exact of_decide_eq_true (by first | (with_reducible assumption) | assumption) | (have e_ := (Kd.N_reads' HO_7.out).1; omega))
                                    obtain ⟨ua147_0, uc147_0, rfl, ul147_0, ge147_0⟩ := Kd.FK_slice_open hMe147
                                    have hv147_0 := hcc147 0 _ rfl
                                    rw [Nat.add_zero, show ((Kd.slice 94 k94)).sz = 1 from rfl, Nat.mul_one] at hv147_0
                                    replace hv147_0 := Option.some.inj (hv147_0.symm.trans hx147_0)
                                    injection hv147_0 with hva_ hvn_ hvc_
                                    rw [hva_] at ge147_0
                                    rw [hvc_] at ul147_0
                                    have HL147_0 := Aside0.mk (show Kd.V k94 94 _ w.heap.size _ _ (rd_L5 y139 x14_4) from Kd.V_mk ul147_0 ge147_0)
                                    clear hva_ hvn_ hvc_ ge147_0 ul147_0
                                    clear hcc147 hce147
                                    have HR147_0 := Aside0.mk hi147_0
                                    have HC147_0 := Aside0.mk hl147_0
                                    clear hi147_0 hl147_0
                                    replace p147 := eq_true p147
                                    replace q147 := eq_true q147
                                    go_wp2_with (first | (go_at_call 79; (with_reducible refine (tesseraref3_Meet.calls k4 _ _ (rd_L5 y139 x12_3) _ _ (rd_L5 y139 x14_4) t148 false _ ?side1 ?side2 ?side3 ?side4 A28.out).mono ?_); (case side1 => repeat (first | exact (by repeat (first | (with_reducible exact HR146_0.out) | (with_reducible refine Kd.C_alloc ?_ _) | (with_reducible refine Kd.C_drewN ?_ _) | (with_reducible refine Kd.C_drew ?_) | exact HR146_0.out)) | (with_reducible refine Kd.C_alloc ?_ _) | (with_reducible refine Kd.C_drewN ?_ _) | (with_reducible refine Kd.C_drew ?_))); (case side2 => exact HC146_0.out); (case side3 => repeat (first | exact (by repeat (first | (with_reducible exact HR147_0.out) | (with_reducible refine Kd.C_alloc ?_ _) | (with_reducible refine Kd.C_drewN ?_ _) | (with_reducible refine Kd.C_drew ?_) | exact HR147_0.out)) | (with_reducible refine Kd.C_alloc ?_ _) | (with_reducible refine Kd.C_drewN ?_ _) | (with_reducible refine Kd.C_drew ?_))); (case side4 => exact HC147_0.out); rintro e w' ⟨rfl, ⟨nd, rfl⟩⟩; (try first | exact ⟨rfl, _, World.drewN_drewN _ _ _⟩ | exact ⟨rfl, _, Eq.trans (World.drewN_drewN _ _ _) (congrArg (World.drewN _) (Nat.add_assoc _ _ _))⟩)))
                                    repeat (go_quiet (first | (go_at_call 79; (with_reducible refine (tesseraref3_Meet.calls k4 _ _ (rd_L5 y139 x12_3) _ _ (rd_L5 y139 x14_4) t148 false _ ?side1 ?side2 ?side3 ?side4 A28.out).mono ?_); (case side1 => repeat (first | exact (by repeat (first | (with_reducible exact HR146_0.out) | (with_reducible refine Kd.C_alloc ?_ _) | (with_reducible refine Kd.C_drewN ?_ _) | (with_reducible refine Kd.C_drew ?_) | exact HR146_0.out)) | (with_reducible refine Kd.C_alloc ?_ _) | (with_reducible refine Kd.C_drewN ?_ _) | (with_reducible refine Kd.C_drew ?_))); (case side2 => exact HC146_0.out); (case side3 => repeat (first | exact (by repeat (first | (with_reducible exact HR147_0.out) | (with_reducible refine Kd.C_alloc ?_ _) | (with_reducible refine Kd.C_drewN ?_ _) | (with_reducible refine Kd.C_drew ?_) | exact HR147_0.out)) | (with_reducible refine Kd.C_alloc ?_ _) | (with_reducible refine Kd.C_drewN ?_ _) | (with_reducible refine Kd.C_drew ?_))); (case side4 => exact HC147_0.out); rintro e w' ⟨rfl, ⟨nd, rfl⟩⟩; (try first | exact ⟨rfl, _, World.drewN_drewN _ _ _⟩ | exact ⟨rfl, _, Eq.trans (World.drewN_drewN _ _ _) (congrArg (World.drewN _) (Nat.add_assoc _ _ _))⟩))); try go_wp2_with (first | (go_at_call 79; (with_reducible refine (tesseraref3_Meet.calls k4 _ _ (rd_L5 y139 x12_3) _ _ (rd_L5 y139 x14_4) t148 false _ ?side1 ?side2 ?side3 ?side4 A28.out).mono ?_); (case side1 => repeat (first | exact (by repeat (first | (with_reducible exact HR146_0.out) | (with_reducible refine Kd.C_alloc ?_ _) | (with_reducible refine Kd.C_drewN ?_ _) | (with_reducible refine Kd.C_drew ?_) | exact HR146_0.out)) | (with_reducible refine Kd.C_alloc ?_ _) | (with_reducible refine Kd.C_drewN ?_ _) | (with_reducible refine Kd.C_drew ?_))); (case side2 => exact HC146_0.out); (case side3 => repeat (first | exact (by repeat (first | (with_reducible exact HR147_0.out) | (with_reducible refine Kd.C_alloc ?_ _) | (with_reducible refine Kd.C_drewN ?_ _) | (with_reducible refine Kd.C_drew ?_) | exact HR147_0.out)) | (with_reducible refine Kd.C_alloc ?_ _) | (with_reducible refine Kd.C_drewN ?_ _) | (with_reducible refine Kd.C_drew ?_))); (case side4 => exact HC147_0.out); rintro e w' ⟨rfl, ⟨nd, rfl⟩⟩; (try first | exact ⟨rfl, _, World.drewN_drewN _ _ _⟩ | exact ⟨rfl, _, Eq.trans (World.drewN_drewN _ _ _) (congrArg (World.drewN _) (Nat.add_assoc _ _ _))⟩))))
                                    go_roundg k4
                                    case measure => have := HK1.out; have := HK2.out; have := HK3.out; have := HK4.out; omega
                                    case rel => exact ⟨(x13_4), (wrap64 (x14_4 + 1)), (by first | rfl | (simp; done) | (simp [*]; done)), (by first | rfl | (simp; done) | (simp [*]; done)), H', ⟨by have := HK1.out; have := HK2.out; have := HK3.out; have := HK4.out; omega⟩, ⟨by (with_reducible repeat (first | apply Kd.V_alloc | apply Kd.V_drewN | apply Kd.V_drew)); exact HO_0.out⟩, ⟨by (with_reducible repeat (first | apply Kd.V_alloc | apply Kd.V_drewN | apply Kd.V_drew)); exact HO_1.out⟩, ⟨by (with_reducible repeat (first | apply Kd.V_alloc | apply Kd.V_drewN | apply Kd.V_drew)); exact HO_2.out⟩, ⟨by (with_reducible repeat (first | apply Kd.N_alloc | apply Kd.N_drewN | apply Kd.N_drew)); exact HO_7.out⟩, ⟨by (with_reducible repeat (first | refine blk_drewN ?_ _ | refine blk_drew ?_ | refine blk_alloc ?_ _)); exact BK138.out⟩, ⟨by repeat (first | (with_reducible first | exact HB.out | apply below_alloc | apply pw_below_drewN | apply below_drew1 | refine below_set ?_ GE138.out) | exact HB.out)⟩⟩
                                · rw [if_neg c27] at H
                                  exact absurd H (by simp)
                              · rw [if_neg c26] at H
                                exact absurd H (by simp)
                            · rw [if_neg c25] at H
                              exact absurd H (by simp)
                          · rw [if_neg c24] at H
                            exact absurd H (by simp)
                        · rw [if_neg c23] at H
                          have c23b0 : decide (x14_4 < x12_3) = false := decide_eq_false c23
                          clear c23
                          by_cases c36 : x13_4 ≥ 0
                          · rw [if_pos c36] at H
                            have c36b0 : decide (0 ≤ x13_4) = true := decide_eq_true c36
                            clear c36
                            simp only [Option.some.injEq, Prod.mk.injEq] at H
                            obtain ⟨rfl, rfl, rfl⟩ := H
                            have hcz37_0 : wr.cell? ⟨gb138, 0, none⟩ = some (.int .i64 x139000_3) := (blk_cell BK138.out 0).trans rfl
                            have hcz37_1 : wr.cell? ⟨gb138, 1, none⟩ = some (.int .i64 x139001_3) := (blk_cell BK138.out 1).trans rfl
                            have hcz37_2 : wr.cell? ⟨gb138, 2, none⟩ = some (.int .i64 x139002_3) := (blk_cell BK138.out 2).trans rfl
                            have hfz37_0 := blk_frozen BK138.out 0
                            have hfz37_1 := blk_frozen BK138.out 1
                            have hfz37_2 := blk_frozen BK138.out 2
                            go_wp2
                            repeat (go_quiet (fail); try go_wp2)
                            refine bodyPost_ret (results_cell_row rfl _ _ gb138 114 #[.int .i64 16, .int .i64 (wrap64 (x12_3 + 1)), .int .i64 x13_4] (0, 0) _ rfl (by (with_reducible repeat (first | refine blk_drewN ?_ _ | refine blk_drew ?_ | refine blk_alloc ?_ _)); refine blk_put (cs := #[.int .i64 16, .int .i64 (wrap64 (x12_3 + 1)), .int .i64 x139002_3]) ?_ 2 _ rfl; (with_reducible repeat (first | refine blk_drewN ?_ _ | refine blk_drew ?_ | refine blk_alloc ?_ _)); refine blk_put (cs := #[.int .i64 16, .int .i64 x139001_3, .int .i64 x139002_3]) ?_ 1 _ rfl; (with_reducible repeat (first | refine blk_drewN ?_ _ | refine blk_drew ?_ | refine blk_alloc ?_ _)); refine blk_put (cs := #[.int .i64 x139000_3, .int .i64 x139001_3, .int .i64 x139002_3]) ?_ 0 _ rfl; (with_reducible repeat (first | refine blk_drewN ?_ _ | refine blk_drew ?_ | refine blk_alloc ?_ _)); exact BK138.out) Try.underlying114 rfl (by kernel_rfl)) rfl ?_
                            exact ⟨by first | rfl | (simp [errW_none, errW_some] <;> rfl) | (simp [*, errW_none, errW_some] <;> rfl), by repeat (first | (with_reducible first | exact HB.out | apply below_alloc | apply pw_below_drewN | apply below_drew1 | refine below_set ?_ GE138.out) | exact HB.out)⟩
                          · rw [if_neg c36] at H
                            have c36b0 : decide (0 ≤ x13_4) = false := decide_eq_false c36
                            clear c36
                            have H' := Aside0.mk H
                            clear H
                            go_wp2
                            repeat (go_quiet (fail); try go_wp2)
                            go_roundg k4
                            case measure => have := HK1.out; have := HK2.out; have := HK3.out; have := HK4.out; omega
                            case rel => exact ⟨(wrap64 (x12_3 + 1)), (x139000_3), (x139001_3), (x139002_3), (by first | rfl | (simp; done) | (simp [*]; done)), H', ⟨by have := HK1.out; have := HK2.out; have := HK3.out; have := HK4.out; omega⟩, ⟨by (with_reducible repeat (first | apply Kd.V_alloc | apply Kd.V_drewN | apply Kd.V_drew)); exact HO_0.out⟩, ⟨by (with_reducible repeat (first | apply Kd.V_alloc | apply Kd.V_drewN | apply Kd.V_drew)); exact HO_1.out⟩, ⟨by (with_reducible repeat (first | apply Kd.V_alloc | apply Kd.V_drewN | apply Kd.V_drew)); exact HO_2.out⟩, ⟨by (with_reducible repeat (first | apply Kd.N_alloc | apply Kd.N_drewN | apply Kd.N_drew)); exact HO_7.out⟩, ⟨by (with_reducible repeat (first | refine blk_drewN ?_ _ | refine blk_drew ?_ | refine blk_alloc ?_ _)); exact BK138.out⟩, ⟨by repeat (first | (with_reducible first | exact HB.out | apply below_alloc | apply pw_below_drewN | apply below_drew1 | refine below_set ?_ GE138.out) | exact HB.out)⟩⟩
                  · rw [if_neg c22] at H
                    have c22b0 : decide (x12_3 < 3) = false := decide_eq_false c22
                    clear c22
                    replace H := Option.bind_eq_some_iff.mp H
                    obtain ⟨t150, A380, H⟩ := H
                    replace H : (if t150 = true then ((tesseraref3_In.f k3 l0 39).bind fun t151 => (if t151 = true then (some (20, 3, 0)) else ((tesseraref3_In.f k3 l1 39).bind fun t152 => (if t152 = true then (some (20, 3, 0)) else ((tesseraref3_In.f k3 l2 39).bind fun t153 => (if t153 = true then (some (20, 3, 0)) else (some (0, 0, 0)))))))) else (some (20, 3, 0))) = some (r1, r2, r3) := H
                    have A38 := Aside0.mk A380
                    clear A380
                    by_cases c39 : t150 = true
                    · subst c39
                      have H1 : ((tesseraref3_In.f k3 l0 39).bind fun t151 => (if t151 = true then (some (20, 3, 0)) else ((tesseraref3_In.f k3 l1 39).bind fun t152 => (if t152 = true then (some (20, 3, 0)) else ((tesseraref3_In.f k3 l2 39).bind fun t153 => (if t153 = true then (some (20, 3, 0)) else (some (0, 0, 0)))))))) = some (r1, r2, r3) := by rw [if_pos rfl] at H; exact H
                      clear H
                      have H := H1
                      clear H1
                      replace H := Option.bind_eq_some_iff.mp H
                      obtain ⟨t151, A400, H⟩ := H
                      replace H : (if t151 = true then (some (20, 3, 0)) else ((tesseraref3_In.f k3 l1 39).bind fun t152 => (if t152 = true then (some (20, 3, 0)) else ((tesseraref3_In.f k3 l2 39).bind fun t153 => (if t153 = true then (some (20, 3, 0)) else (some (0, 0, 0))))))) = some (r1, r2, r3) := H
                      have A40 := Aside0.mk A400
                      clear A400
                      by_cases c41 : t151 = true
                      · subst c41
                        have H1 : (some (20, 3, 0)) = some (r1, r2, r3) := by rw [if_pos rfl] at H; exact H
                        clear H
                        have H := H1
                        clear H1
                        simp only [Option.some.injEq, Prod.mk.injEq] at H
                        obtain ⟨rfl, rfl, rfl⟩ := H
                        go_wp2_with (first | (go_at_call 80; (with_reducible refine (tesseraref3_In.calls k3 _ _ l2 32 true _ ?side1 ?side2 A38.out).mono ?_); (case side1 => repeat (first | exact (Kd.V_reads' HO_2.out).2.2 | (with_reducible refine Kd.C_alloc ?_ _) | (with_reducible refine Kd.C_drewN ?_ _) | (with_reducible refine Kd.C_drew ?_))); (case side2 => exact (Kd.V_reads' HO_2.out).2.1); rintro e w' ⟨rfl, ⟨nd, rfl⟩⟩; (try first | exact ⟨rfl, _, World.drewN_drewN _ _ _⟩ | exact ⟨rfl, _, Eq.trans (World.drewN_drewN _ _ _) (congrArg (World.drewN _) (Nat.add_assoc _ _ _))⟩)) | (go_at_call 80; (with_reducible refine (tesseraref3_In.calls k3 _ _ l0 39 true _ ?side1 ?side2 A40.out).mono ?_); (case side1 => repeat (first | exact (Kd.V_reads' HO_0.out).2.2 | (with_reducible refine Kd.C_alloc ?_ _) | (with_reducible refine Kd.C_drewN ?_ _) | (with_reducible refine Kd.C_drew ?_))); (case side2 => exact (Kd.V_reads' HO_0.out).2.1); rintro e w' ⟨rfl, ⟨nd, rfl⟩⟩; (try first | exact ⟨rfl, _, World.drewN_drewN _ _ _⟩ | exact ⟨rfl, _, Eq.trans (World.drewN_drewN _ _ _) (congrArg (World.drewN _) (Nat.add_assoc _ _ _))⟩); have hcz42_0 : wr.cell? ⟨gb138, 0, none⟩ = some (.int .i64 x139000_3) := (blk_cell BK138.out 0).trans rfl; have hcz42_1 : wr.cell? ⟨gb138, 1, none⟩ = some (.int .i64 x139001_3) := (blk_cell BK138.out 1).trans rfl; have hcz42_2 : wr.cell? ⟨gb138, 2, none⟩ = some (.int .i64 x139002_3) := (blk_cell BK138.out 2).trans rfl; have hfz42_0 := blk_frozen BK138.out 0; have hfz42_1 := blk_frozen BK138.out 1; have hfz42_2 := blk_frozen BK138.out 2))
                        repeat (go_quiet (first | (go_at_call 80; (with_reducible refine (tesseraref3_In.calls k3 _ _ l2 32 true _ ?side1 ?side2 A38.out).mono ?_); (case side1 => repeat (first | exact (Kd.V_reads' HO_2.out).2.2 | (with_reducible refine Kd.C_alloc ?_ _) | (with_reducible refine Kd.C_drewN ?_ _) | (with_reducible refine Kd.C_drew ?_))); (case side2 => exact (Kd.V_reads' HO_2.out).2.1); rintro e w' ⟨rfl, ⟨nd, rfl⟩⟩; (try first | exact ⟨rfl, _, World.drewN_drewN _ _ _⟩ | exact ⟨rfl, _, Eq.trans (World.drewN_drewN _ _ _) (congrArg (World.drewN _) (Nat.add_assoc _ _ _))⟩)) | (go_at_call 80; (with_reducible refine (tesseraref3_In.calls k3 _ _ l0 39 true _ ?side1 ?side2 A40.out).mono ?_); (case side1 => repeat (first | exact (Kd.V_reads' HO_0.out).2.2 | (with_reducible refine Kd.C_alloc ?_ _) | (with_reducible refine Kd.C_drewN ?_ _) | (with_reducible refine Kd.C_drew ?_))); (case side2 => exact (Kd.V_reads' HO_0.out).2.1); rintro e w' ⟨rfl, ⟨nd, rfl⟩⟩; (try first | exact ⟨rfl, _, World.drewN_drewN _ _ _⟩ | exact ⟨rfl, _, Eq.trans (World.drewN_drewN _ _ _) (congrArg (World.drewN _) (Nat.add_assoc _ _ _))⟩); have hcz42_0 : wr.cell? ⟨gb138, 0, none⟩ = some (.int .i64 x139000_3) := (blk_cell BK138.out 0).trans rfl; have hcz42_1 : wr.cell? ⟨gb138, 1, none⟩ = some (.int .i64 x139001_3) := (blk_cell BK138.out 1).trans rfl; have hcz42_2 : wr.cell? ⟨gb138, 2, none⟩ = some (.int .i64 x139002_3) := (blk_cell BK138.out 2).trans rfl; have hfz42_0 := blk_frozen BK138.out 0; have hfz42_1 := blk_frozen BK138.out 1; have hfz42_2 := blk_frozen BK138.out 2)); try go_wp2_with (first | (go_at_call 80; (with_reducible refine (tesseraref3_In.calls k3 _ _ l2 32 true _ ?side1 ?side2 A38.out).mono ?_); (case side1 => repeat (first | exact (Kd.V_reads' HO_2.out).2.2 | (with_reducible refine Kd.C_alloc ?_ _) | (with_reducible refine Kd.C_drewN ?_ _) | (with_reducible refine Kd.C_drew ?_))); (case side2 => exact (Kd.V_reads' HO_2.out).2.1); rintro e w' ⟨rfl, ⟨nd, rfl⟩⟩; (try first | exact ⟨rfl, _, World.drewN_drewN _ _ _⟩ | exact ⟨rfl, _, Eq.trans (World.drewN_drewN _ _ _) (congrArg (World.drewN _) (Nat.add_assoc _ _ _))⟩)) | (go_at_call 80; (with_reducible refine (tesseraref3_In.calls k3 _ _ l0 39 true _ ?side1 ?side2 A40.out).mono ?_); (case side1 => repeat (first | exact (Kd.V_reads' HO_0.out).2.2 | (with_reducible refine Kd.C_alloc ?_ _) | (with_reducible refine Kd.C_drewN ?_ _) | (with_reducible refine Kd.C_drew ?_))); (case side2 => exact (Kd.V_reads' HO_0.out).2.1); rintro e w' ⟨rfl, ⟨nd, rfl⟩⟩; (try first | exact ⟨rfl, _, World.drewN_drewN _ _ _⟩ | exact ⟨rfl, _, Eq.trans (World.drewN_drewN _ _ _) (congrArg (World.drewN _) (Nat.add_assoc _ _ _))⟩); have hcz42_0 : wr.cell? ⟨gb138, 0, none⟩ = some (.int .i64 x139000_3) := (blk_cell BK138.out 0).trans rfl; have hcz42_1 : wr.cell? ⟨gb138, 1, none⟩ = some (.int .i64 x139001_3) := (blk_cell BK138.out 1).trans rfl; have hcz42_2 : wr.cell? ⟨gb138, 2, none⟩ = some (.int .i64 x139002_3) := (blk_cell BK138.out 2).trans rfl; have hfz42_0 := blk_frozen BK138.out 0; have hfz42_1 := blk_frozen BK138.out 1; have hfz42_2 := blk_frozen BK138.out 2)))
                        refine bodyPost_ret (results_cell_row rfl _ _ gb138 114 #[.int .i64 20, .int .i64 3, .int .i64 0] (0, 0) _ rfl (by (with_reducible repeat (first | refine blk_drewN ?_ _ | refine blk_drew ?_ | refine blk_alloc ?_ _)); refine blk_put (cs := #[.int .i64 20, .int .i64 3, .int .i64 x139002_3]) ?_ 2 _ rfl; (with_reducible repeat (first | refine blk_drewN ?_ _ | refine blk_drew ?_ | refine blk_alloc ?_ _)); refine blk_put (cs := #[.int .i64 20, .int .i64 x139001_3, .int .i64 x139002_3]) ?_ 1 _ rfl; (with_reducible repeat (first | refine blk_drewN ?_ _ | refine blk_drew ?_ | refine blk_alloc ?_ _)); refine blk_put (cs := #[.int .i64 x139000_3, .int .i64 x139001_3, .int .i64 x139002_3]) ?_ 0 _ rfl; (with_reducible repeat (first | refine blk_drewN ?_ _ | refine blk_drew ?_ | refine blk_alloc ?_ _)); exact BK138.out) Try.underlying114 rfl (by kernel_rfl)) rfl ?_
                        exact ⟨by first | rfl | (simp [errW_none, errW_some] <;> rfl) | (simp [*, errW_none, errW_some] <;> rfl), by repeat (first | (with_reducible first | exact HB.out | apply below_alloc | apply pw_below_drewN | apply below_drew1 | refine below_set ?_ GE138.out) | exact HB.out)⟩
                      · replace c41 := Bool.eq_false_iff.mpr c41
                        subst c41
                        have H1 : ((tesseraref3_In.f k3 l1 39).bind fun t152 => (if t152 = true then (some (20, 3, 0)) else ((tesseraref3_In.f k3 l2 39).bind fun t153 => (if t153 = true then (some (20, 3, 0)) else (some (0, 0, 0)))))) = some (r1, r2, r3) := by rw [if_neg (show ¬ (false = true) by decide)] at H; exact H
                        clear H
                        have H := H1
                        clear H1
                        replace H := Option.bind_eq_some_iff.mp H
                        obtain ⟨t152, A430, H⟩ := H
                        replace H : (if t152 = true then (some (20, 3, 0)) else ((tesseraref3_In.f k3 l2 39).bind fun t153 => (if t153 = true then (some (20, 3, 0)) else (some (0, 0, 0))))) = some (r1, r2, r3) := H
                        have A43 := Aside0.mk A430
                        clear A430
                        by_cases c44 : t152 = true
                        · subst c44
                          have H1 : (some (20, 3, 0)) = some (r1, r2, r3) := by rw [if_pos rfl] at H; exact H
                          clear H
                          have H := H1
                          clear H1
                          simp only [Option.some.injEq, Prod.mk.injEq] at H
                          obtain ⟨rfl, rfl, rfl⟩ := H
                          go_wp2_with (first | (go_at_call 80; (with_reducible refine (tesseraref3_In.calls k3 _ _ l2 32 true _ ?side1 ?side2 A38.out).mono ?_); (case side1 => repeat (first | exact (Kd.V_reads' HO_2.out).2.2 | (with_reducible refine Kd.C_alloc ?_ _) | (with_reducible refine Kd.C_drewN ?_ _) | (with_reducible refine Kd.C_drew ?_))); (case side2 => exact (Kd.V_reads' HO_2.out).2.1); rintro e w' ⟨rfl, ⟨nd, rfl⟩⟩; (try first | exact ⟨rfl, _, World.drewN_drewN _ _ _⟩ | exact ⟨rfl, _, Eq.trans (World.drewN_drewN _ _ _) (congrArg (World.drewN _) (Nat.add_assoc _ _ _))⟩)) | (go_at_call 80; (with_reducible refine (tesseraref3_In.calls k3 _ _ l0 39 false _ ?side1 ?side2 A40.out).mono ?_); (case side1 => repeat (first | exact (Kd.V_reads' HO_0.out).2.2 | (with_reducible refine Kd.C_alloc ?_ _) | (with_reducible refine Kd.C_drewN ?_ _) | (with_reducible refine Kd.C_drew ?_))); (case side2 => exact (Kd.V_reads' HO_0.out).2.1); rintro e w' ⟨rfl, ⟨nd, rfl⟩⟩; (try first | exact ⟨rfl, _, World.drewN_drewN _ _ _⟩ | exact ⟨rfl, _, Eq.trans (World.drewN_drewN _ _ _) (congrArg (World.drewN _) (Nat.add_assoc _ _ _))⟩)) | (go_at_call 80; (with_reducible refine (tesseraref3_In.calls k3 _ _ l1 39 true _ ?side1 ?side2 A43.out).mono ?_); (case side1 => repeat (first | exact (Kd.V_reads' HO_1.out).2.2 | (with_reducible refine Kd.C_alloc ?_ _) | (with_reducible refine Kd.C_drewN ?_ _) | (with_reducible refine Kd.C_drew ?_))); (case side2 => exact (Kd.V_reads' HO_1.out).2.1); rintro e w' ⟨rfl, ⟨nd, rfl⟩⟩; (try first | exact ⟨rfl, _, World.drewN_drewN _ _ _⟩ | exact ⟨rfl, _, Eq.trans (World.drewN_drewN _ _ _) (congrArg (World.drewN _) (Nat.add_assoc _ _ _))⟩); have hcz45_0 : wr.cell? ⟨gb138, 0, none⟩ = some (.int .i64 x139000_3) := (blk_cell BK138.out 0).trans rfl; have hcz45_1 : wr.cell? ⟨gb138, 1, none⟩ = some (.int .i64 x139001_3) := (blk_cell BK138.out 1).trans rfl; have hcz45_2 : wr.cell? ⟨gb138, 2, none⟩ = some (.int .i64 x139002_3) := (blk_cell BK138.out 2).trans rfl; have hfz45_0 := blk_frozen BK138.out 0; have hfz45_1 := blk_frozen BK138.out 1; have hfz45_2 := blk_frozen BK138.out 2))
                          repeat (go_quiet (first | (go_at_call 80; (with_reducible refine (tesseraref3_In.calls k3 _ _ l2 32 true _ ?side1 ?side2 A38.out).mono ?_); (case side1 => repeat (first | exact (Kd.V_reads' HO_2.out).2.2 | (with_reducible refine Kd.C_alloc ?_ _) | (with_reducible refine Kd.C_drewN ?_ _) | (with_reducible refine Kd.C_drew ?_))); (case side2 => exact (Kd.V_reads' HO_2.out).2.1); rintro e w' ⟨rfl, ⟨nd, rfl⟩⟩; (try first | exact ⟨rfl, _, World.drewN_drewN _ _ _⟩ | exact ⟨rfl, _, Eq.trans (World.drewN_drewN _ _ _) (congrArg (World.drewN _) (Nat.add_assoc _ _ _))⟩)) | (go_at_call 80; (with_reducible refine (tesseraref3_In.calls k3 _ _ l0 39 false _ ?side1 ?side2 A40.out).mono ?_); (case side1 => repeat (first | exact (Kd.V_reads' HO_0.out).2.2 | (with_reducible refine Kd.C_alloc ?_ _) | (with_reducible refine Kd.C_drewN ?_ _) | (with_reducible refine Kd.C_drew ?_))); (case side2 => exact (Kd.V_reads' HO_0.out).2.1); rintro e w' ⟨rfl, ⟨nd, rfl⟩⟩; (try first | exact ⟨rfl, _, World.drewN_drewN _ _ _⟩ | exact ⟨rfl, _, Eq.trans (World.drewN_drewN _ _ _) (congrArg (World.drewN _) (Nat.add_assoc _ _ _))⟩)) | (go_at_call 80; (with_reducible refine (tesseraref3_In.calls k3 _ _ l1 39 true _ ?side1 ?side2 A43.out).mono ?_); (case side1 => repeat (first | exact (Kd.V_reads' HO_1.out).2.2 | (with_reducible refine Kd.C_alloc ?_ _) | (with_reducible refine Kd.C_drewN ?_ _) | (with_reducible refine Kd.C_drew ?_))); (case side2 => exact (Kd.V_reads' HO_1.out).2.1); rintro e w' ⟨rfl, ⟨nd, rfl⟩⟩; (try first | exact ⟨rfl, _, World.drewN_drewN _ _ _⟩ | exact ⟨rfl, _, Eq.trans (World.drewN_drewN _ _ _) (congrArg (World.drewN _) (Nat.add_assoc _ _ _))⟩); have hcz45_0 : wr.cell? ⟨gb138, 0, none⟩ = some (.int .i64 x139000_3) := (blk_cell BK138.out 0).trans rfl; have hcz45_1 : wr.cell? ⟨gb138, 1, none⟩ = some (.int .i64 x139001_3) := (blk_cell BK138.out 1).trans rfl; have hcz45_2 : wr.cell? ⟨gb138, 2, none⟩ = some (.int .i64 x139002_3) := (blk_cell BK138.out 2).trans rfl; have hfz45_0 := blk_frozen BK138.out 0; have hfz45_1 := blk_frozen BK138.out 1; have hfz45_2 := blk_frozen BK138.out 2)); try go_wp2_with (first | (go_at_call 80; (with_reducible refine (tesseraref3_In.calls k3 _ _ l2 32 true _ ?side1 ?side2 A38.out).mono ?_); (case side1 => repeat (first | exact (Kd.V_reads' HO_2.out).2.2 | (with_reducible refine Kd.C_alloc ?_ _) | (with_reducible refine Kd.C_drewN ?_ _) | (with_reducible refine Kd.C_drew ?_))); (case side2 => exact (Kd.V_reads' HO_2.out).2.1); rintro e w' ⟨rfl, ⟨nd, rfl⟩⟩; (try first | exact ⟨rfl, _, World.drewN_drewN _ _ _⟩ | exact ⟨rfl, _, Eq.trans (World.drewN_drewN _ _ _) (congrArg (World.drewN _) (Nat.add_assoc _ _ _))⟩)) | (go_at_call 80; (with_reducible refine (tesseraref3_In.calls k3 _ _ l0 39 false _ ?side1 ?side2 A40.out).mono ?_); (case side1 => repeat (first | exact (Kd.V_reads' HO_0.out).2.2 | (with_reducible refine Kd.C_alloc ?_ _) | (with_reducible refine Kd.C_drewN ?_ _) | (with_reducible refine Kd.C_drew ?_))); (case side2 => exact (Kd.V_reads' HO_0.out).2.1); rintro e w' ⟨rfl, ⟨nd, rfl⟩⟩; (try first | exact ⟨rfl, _, World.drewN_drewN _ _ _⟩ | exact ⟨rfl, _, Eq.trans (World.drewN_drewN _ _ _) (congrArg (World.drewN _) (Nat.add_assoc _ _ _))⟩)) | (go_at_call 80; (with_reducible refine (tesseraref3_In.calls k3 _ _ l1 39 true _ ?side1 ?side2 A43.out).mono ?_); (case side1 => repeat (first | exact (Kd.V_reads' HO_1.out).2.2 | (with_reducible refine Kd.C_alloc ?_ _) | (with_reducible refine Kd.C_drewN ?_ _) | (with_reducible refine Kd.C_drew ?_))); (case side2 => exact (Kd.V_reads' HO_1.out).2.1); rintro e w' ⟨rfl, ⟨nd, rfl⟩⟩; (try first | exact ⟨rfl, _, World.drewN_drewN _ _ _⟩ | exact ⟨rfl, _, Eq.trans (World.drewN_drewN _ _ _) (congrArg (World.drewN _) (Nat.add_assoc _ _ _))⟩); have hcz45_0 : wr.cell? ⟨gb138, 0, none⟩ = some (.int .i64 x139000_3) := (blk_cell BK138.out 0).trans rfl; have hcz45_1 : wr.cell? ⟨gb138, 1, none⟩ = some (.int .i64 x139001_3) := (blk_cell BK138.out 1).trans rfl; have hcz45_2 : wr.cell? ⟨gb138, 2, none⟩ = some (.int .i64 x139002_3) := (blk_cell BK138.out 2).trans rfl; have hfz45_0 := blk_frozen BK138.out 0; have hfz45_1 := blk_frozen BK138.out 1; have hfz45_2 := blk_frozen BK138.out 2)))
                          refine bodyPost_ret (results_cell_row rfl _ _ gb138 114 #[.int .i64 20, .int .i64 3, .int .i64 0] (0, 0) _ rfl (by (with_reducible repeat (first | refine blk_drewN ?_ _ | refine blk_drew ?_ | refine blk_alloc ?_ _)); refine blk_put (cs := #[.int .i64 20, .int .i64 3, .int .i64 x139002_3]) ?_ 2 _ rfl; (with_reducible repeat (first | refine blk_drewN ?_ _ | refine blk_drew ?_ | refine blk_alloc ?_ _)); refine blk_put (cs := #[.int .i64 20, .int .i64 x139001_3, .int .i64 x139002_3]) ?_ 1 _ rfl; (with_reducible repeat (first | refine blk_drewN ?_ _ | refine blk_drew ?_ | refine blk_alloc ?_ _)); refine blk_put (cs := #[.int .i64 x139000_3, .int .i64 x139001_3, .int .i64 x139002_3]) ?_ 0 _ rfl; (with_reducible repeat (first | refine blk_drewN ?_ _ | refine blk_drew ?_ | refine blk_alloc ?_ _)); exact BK138.out) Try.underlying114 rfl (by kernel_rfl)) rfl ?_
                          exact ⟨by first | rfl | (simp [errW_none, errW_some] <;> rfl) | (simp [*, errW_none, errW_some] <;> rfl), by repeat (first | (with_reducible first | exact HB.out | apply below_alloc | apply pw_below_drewN | apply below_drew1 | refine below_set ?_ GE138.out) | exact HB.out)⟩
                        · replace c44 := Bool.eq_false_iff.mpr c44
                          subst c44
                          have H1 : ((tesseraref3_In.f k3 l2 39).bind fun t153 => (if t153 = true then (some (20, 3, 0)) else (some (0, 0, 0)))) = some (r1, r2, r3) := by rw [if_neg (show ¬ (false = true) by decide)] at H; exact H
                          clear H
                          have H := H1
                          clear H1
                          replace H := Option.bind_eq_some_iff.mp H
                          obtain ⟨t153, A460, H⟩ := H
                          replace H : (if t153 = true then (some (20, 3, 0)) else (some (0, 0, 0))) = some (r1, r2, r3) := H
                          have A46 := Aside0.mk A460
                          clear A460
                          by_cases c47 : t153 = true
                          · subst c47
                            have H1 : (some (20, 3, 0)) = some (r1, r2, r3) := by rw [if_pos rfl] at H; exact H
                            clear H
                            have H := H1
                            clear H1
                            simp only [Option.some.injEq, Prod.mk.injEq] at H
                            obtain ⟨rfl, rfl, rfl⟩ := H
                            go_wp2_with (first | (go_at_call 80; (with_reducible refine (tesseraref3_In.calls k3 _ _ l2 32 true _ ?side1 ?side2 A38.out).mono ?_); (case side1 => repeat (first | exact (Kd.V_reads' HO_2.out).2.2 | (with_reducible refine Kd.C_alloc ?_ _) | (with_reducible refine Kd.C_drewN ?_ _) | (with_reducible refine Kd.C_drew ?_))); (case side2 => exact (Kd.V_reads' HO_2.out).2.1); rintro e w' ⟨rfl, ⟨nd, rfl⟩⟩; (try first | exact ⟨rfl, _, World.drewN_drewN _ _ _⟩ | exact ⟨rfl, _, Eq.trans (World.drewN_drewN _ _ _) (congrArg (World.drewN _) (Nat.add_assoc _ _ _))⟩)) | (go_at_call 80; (with_reducible refine (tesseraref3_In.calls k3 _ _ l0 39 false _ ?side1 ?side2 A40.out).mono ?_); (case side1 => repeat (first | exact (Kd.V_reads' HO_0.out).2.2 | (with_reducible refine Kd.C_alloc ?_ _) | (with_reducible refine Kd.C_drewN ?_ _) | (with_reducible refine Kd.C_drew ?_))); (case side2 => exact (Kd.V_reads' HO_0.out).2.1); rintro e w' ⟨rfl, ⟨nd, rfl⟩⟩; (try first | exact ⟨rfl, _, World.drewN_drewN _ _ _⟩ | exact ⟨rfl, _, Eq.trans (World.drewN_drewN _ _ _) (congrArg (World.drewN _) (Nat.add_assoc _ _ _))⟩)) | (go_at_call 80; (with_reducible refine (tesseraref3_In.calls k3 _ _ l1 39 false _ ?side1 ?side2 A43.out).mono ?_); (case side1 => repeat (first | exact (Kd.V_reads' HO_1.out).2.2 | (with_reducible refine Kd.C_alloc ?_ _) | (with_reducible refine Kd.C_drewN ?_ _) | (with_reducible refine Kd.C_drew ?_))); (case side2 => exact (Kd.V_reads' HO_1.out).2.1); rintro e w' ⟨rfl, ⟨nd, rfl⟩⟩; (try first | exact ⟨rfl, _, World.drewN_drewN _ _ _⟩ | exact ⟨rfl, _, Eq.trans (World.drewN_drewN _ _ _) (congrArg (World.drewN _) (Nat.add_assoc _ _ _))⟩)) | (go_at_call 80; (with_reducible refine (tesseraref3_In.calls k3 _ _ l2 39 true _ ?side1 ?side2 A46.out).mono ?_); (case side1 => repeat (first | exact (Kd.V_reads' HO_2.out).2.2 | (with_reducible refine Kd.C_alloc ?_ _) | (with_reducible refine Kd.C_drewN ?_ _) | (with_reducible refine Kd.C_drew ?_))); (case side2 => exact (Kd.V_reads' HO_2.out).2.1); rintro e w' ⟨rfl, ⟨nd, rfl⟩⟩; (try first | exact ⟨rfl, _, World.drewN_drewN _ _ _⟩ | exact ⟨rfl, _, Eq.trans (World.drewN_drewN _ _ _) (congrArg (World.drewN _) (Nat.add_assoc _ _ _))⟩); have hcz48_0 : wr.cell? ⟨gb138, 0, none⟩ = some (.int .i64 x139000_3) := (blk_cell BK138.out 0).trans rfl; have hcz48_1 : wr.cell? ⟨gb138, 1, none⟩ = some (.int .i64 x139001_3) := (blk_cell BK138.out 1).trans rfl; have hcz48_2 : wr.cell? ⟨gb138, 2, none⟩ = some (.int .i64 x139002_3) := (blk_cell BK138.out 2).trans rfl; have hfz48_0 := blk_frozen BK138.out 0; have hfz48_1 := blk_frozen BK138.out 1; have hfz48_2 := blk_frozen BK138.out 2))
                            repeat (go_quiet (first | (go_at_call 80; (with_reducible refine (tesseraref3_In.calls k3 _ _ l2 32 true _ ?side1 ?side2 A38.out).mono ?_); (case side1 => repeat (first | exact (Kd.V_reads' HO_2.out).2.2 | (with_reducible refine Kd.C_alloc ?_ _) | (with_reducible refine Kd.C_drewN ?_ _) | (with_reducible refine Kd.C_drew ?_))); (case side2 => exact (Kd.V_reads' HO_2.out).2.1); rintro e w' ⟨rfl, ⟨nd, rfl⟩⟩; (try first | exact ⟨rfl, _, World.drewN_drewN _ _ _⟩ | exact ⟨rfl, _, Eq.trans (World.drewN_drewN _ _ _) (congrArg (World.drewN _) (Nat.add_assoc _ _ _))⟩)) | (go_at_call 80; (with_reducible refine (tesseraref3_In.calls k3 _ _ l0 39 false _ ?side1 ?side2 A40.out).mono ?_); (case side1 => repeat (first | exact (Kd.V_reads' HO_0.out).2.2 | (with_reducible refine Kd.C_alloc ?_ _) | (with_reducible refine Kd.C_drewN ?_ _) | (with_reducible refine Kd.C_drew ?_))); (case side2 => exact (Kd.V_reads' HO_0.out).2.1); rintro e w' ⟨rfl, ⟨nd, rfl⟩⟩; (try first | exact ⟨rfl, _, World.drewN_drewN _ _ _⟩ | exact ⟨rfl, _, Eq.trans (World.drewN_drewN _ _ _) (congrArg (World.drewN _) (Nat.add_assoc _ _ _))⟩)) | (go_at_call 80; (with_reducible refine (tesseraref3_In.calls k3 _ _ l1 39 false _ ?side1 ?side2 A43.out).mono ?_); (case side1 => repeat (first | exact (Kd.V_reads' HO_1.out).2.2 | (with_reducible refine Kd.C_alloc ?_ _) | (with_reducible refine Kd.C_drewN ?_ _) | (with_reducible refine Kd.C_drew ?_))); (case side2 => exact (Kd.V_reads' HO_1.out).2.1); rintro e w' ⟨rfl, ⟨nd, rfl⟩⟩; (try first | exact ⟨rfl, _, World.drewN_drewN _ _ _⟩ | exact ⟨rfl, _, Eq.trans (World.drewN_drewN _ _ _) (congrArg (World.drewN _) (Nat.add_assoc _ _ _))⟩)) | (go_at_call 80; (with_reducible refine (tesseraref3_In.calls k3 _ _ l2 39 true _ ?side1 ?side2 A46.out).mono ?_); (case side1 => repeat (first | exact (Kd.V_reads' HO_2.out).2.2 | (with_reducible refine Kd.C_alloc ?_ _) | (with_reducible refine Kd.C_drewN ?_ _) | (with_reducible refine Kd.C_drew ?_))); (case side2 => exact (Kd.V_reads' HO_2.out).2.1); rintro e w' ⟨rfl, ⟨nd, rfl⟩⟩; (try first | exact ⟨rfl, _, World.drewN_drewN _ _ _⟩ | exact ⟨rfl, _, Eq.trans (World.drewN_drewN _ _ _) (congrArg (World.drewN _) (Nat.add_assoc _ _ _))⟩); have hcz48_0 : wr.cell? ⟨gb138, 0, none⟩ = some (.int .i64 x139000_3) := (blk_cell BK138.out 0).trans rfl; have hcz48_1 : wr.cell? ⟨gb138, 1, none⟩ = some (.int .i64 x139001_3) := (blk_cell BK138.out 1).trans rfl; have hcz48_2 : wr.cell? ⟨gb138, 2, none⟩ = some (.int .i64 x139002_3) := (blk_cell BK138.out 2).trans rfl; have hfz48_0 := blk_frozen BK138.out 0; have hfz48_1 := blk_frozen BK138.out 1; have hfz48_2 := blk_frozen BK138.out 2)); try go_wp2_with (first | (go_at_call 80; (with_reducible refine (tesseraref3_In.calls k3 _ _ l2 32 true _ ?side1 ?side2 A38.out).mono ?_); (case side1 => repeat (first | exact (Kd.V_reads' HO_2.out).2.2 | (with_reducible refine Kd.C_alloc ?_ _) | (with_reducible refine Kd.C_drewN ?_ _) | (with_reducible refine Kd.C_drew ?_))); (case side2 => exact (Kd.V_reads' HO_2.out).2.1); rintro e w' ⟨rfl, ⟨nd, rfl⟩⟩; (try first | exact ⟨rfl, _, World.drewN_drewN _ _ _⟩ | exact ⟨rfl, _, Eq.trans (World.drewN_drewN _ _ _) (congrArg (World.drewN _) (Nat.add_assoc _ _ _))⟩)) | (go_at_call 80; (with_reducible refine (tesseraref3_In.calls k3 _ _ l0 39 false _ ?side1 ?side2 A40.out).mono ?_); (case side1 => repeat (first | exact (Kd.V_reads' HO_0.out).2.2 | (with_reducible refine Kd.C_alloc ?_ _) | (with_reducible refine Kd.C_drewN ?_ _) | (with_reducible refine Kd.C_drew ?_))); (case side2 => exact (Kd.V_reads' HO_0.out).2.1); rintro e w' ⟨rfl, ⟨nd, rfl⟩⟩; (try first | exact ⟨rfl, _, World.drewN_drewN _ _ _⟩ | exact ⟨rfl, _, Eq.trans (World.drewN_drewN _ _ _) (congrArg (World.drewN _) (Nat.add_assoc _ _ _))⟩)) | (go_at_call 80; (with_reducible refine (tesseraref3_In.calls k3 _ _ l1 39 false _ ?side1 ?side2 A43.out).mono ?_); (case side1 => repeat (first | exact (Kd.V_reads' HO_1.out).2.2 | (with_reducible refine Kd.C_alloc ?_ _) | (with_reducible refine Kd.C_drewN ?_ _) | (with_reducible refine Kd.C_drew ?_))); (case side2 => exact (Kd.V_reads' HO_1.out).2.1); rintro e w' ⟨rfl, ⟨nd, rfl⟩⟩; (try first | exact ⟨rfl, _, World.drewN_drewN _ _ _⟩ | exact ⟨rfl, _, Eq.trans (World.drewN_drewN _ _ _) (congrArg (World.drewN _) (Nat.add_assoc _ _ _))⟩)) | (go_at_call 80; (with_reducible refine (tesseraref3_In.calls k3 _ _ l2 39 true _ ?side1 ?side2 A46.out).mono ?_); (case side1 => repeat (first | exact (Kd.V_reads' HO_2.out).2.2 | (with_reducible refine Kd.C_alloc ?_ _) | (with_reducible refine Kd.C_drewN ?_ _) | (with_reducible refine Kd.C_drew ?_))); (case side2 => exact (Kd.V_reads' HO_2.out).2.1); rintro e w' ⟨rfl, ⟨nd, rfl⟩⟩; (try first | exact ⟨rfl, _, World.drewN_drewN _ _ _⟩ | exact ⟨rfl, _, Eq.trans (World.drewN_drewN _ _ _) (congrArg (World.drewN _) (Nat.add_assoc _ _ _))⟩); have hcz48_0 : wr.cell? ⟨gb138, 0, none⟩ = some (.int .i64 x139000_3) := (blk_cell BK138.out 0).trans rfl; have hcz48_1 : wr.cell? ⟨gb138, 1, none⟩ = some (.int .i64 x139001_3) := (blk_cell BK138.out 1).trans rfl; have hcz48_2 : wr.cell? ⟨gb138, 2, none⟩ = some (.int .i64 x139002_3) := (blk_cell BK138.out 2).trans rfl; have hfz48_0 := blk_frozen BK138.out 0; have hfz48_1 := blk_frozen BK138.out 1; have hfz48_2 := blk_frozen BK138.out 2)))
                            refine bodyPost_ret (results_cell_row rfl _ _ gb138 114 #[.int .i64 20, .int .i64 3, .int .i64 0] (0, 0) _ rfl (by (with_reducible repeat (first | refine blk_drewN ?_ _ | refine blk_drew ?_ | refine blk_alloc ?_ _)); refine blk_put (cs := #[.int .i64 20, .int .i64 3, .int .i64 x139002_3]) ?_ 2 _ rfl; (with_reducible repeat (first | refine blk_drewN ?_ _ | refine blk_drew ?_ | refine blk_alloc ?_ _)); refine blk_put (cs := #[.int .i64 20, .int .i64 x139001_3, .int .i64 x139002_3]) ?_ 1 _ rfl; (with_reducible repeat (first | refine blk_drewN ?_ _ | refine blk_drew ?_ | refine blk_alloc ?_ _)); refine blk_put (cs := #[.int .i64 x139000_3, .int .i64 x139001_3, .int .i64 x139002_3]) ?_ 0 _ rfl; (with_reducible repeat (first | refine blk_drewN ?_ _ | refine blk_drew ?_ | refine blk_alloc ?_ _)); exact BK138.out) Try.underlying114 rfl (by kernel_rfl)) rfl ?_
                            exact ⟨by first | rfl | (simp [errW_none, errW_some] <;> rfl) | (simp [*, errW_none, errW_some] <;> rfl), by repeat (first | (with_reducible first | exact HB.out | apply below_alloc | apply pw_below_drewN | apply below_drew1 | refine below_set ?_ GE138.out) | exact HB.out)⟩
                          · replace c47 := Bool.eq_false_iff.mpr c47
                            subst c47
                            have H1 : (some (0, 0, 0)) = some (r1, r2, r3) := by rw [if_neg (show ¬ (false = true) by decide)] at H; exact H
                            clear H
                            have H := H1
                            clear H1
                            simp only [Option.some.injEq, Prod.mk.injEq] at H
                            obtain ⟨rfl, rfl, rfl⟩ := H
                            go_wp2_with (first | (go_at_call 80; (with_reducible refine (tesseraref3_In.calls k3 _ _ l2 32 true _ ?side1 ?side2 A38.out).mono ?_); (case side1 => repeat (first | exact (Kd.V_reads' HO_2.out).2.2 | (with_reducible refine Kd.C_alloc ?_ _) | (with_reducible refine Kd.C_drewN ?_ _) | (with_reducible refine Kd.C_drew ?_))); (case side2 => exact (Kd.V_reads' HO_2.out).2.1); rintro e w' ⟨rfl, ⟨nd, rfl⟩⟩; (try first | exact ⟨rfl, _, World.drewN_drewN _ _ _⟩ | exact ⟨rfl, _, Eq.trans (World.drewN_drewN _ _ _) (congrArg (World.drewN _) (Nat.add_assoc _ _ _))⟩)) | (go_at_call 80; (with_reducible refine (tesseraref3_In.calls k3 _ _ l0 39 false _ ?side1 ?side2 A40.out).mono ?_); (case side1 => repeat (first | exact (Kd.V_reads' HO_0.out).2.2 | (with_reducible refine Kd.C_alloc ?_ _) | (with_reducible refine Kd.C_drewN ?_ _) | (with_reducible refine Kd.C_drew ?_))); (case side2 => exact (Kd.V_reads' HO_0.out).2.1); rintro e w' ⟨rfl, ⟨nd, rfl⟩⟩; (try first | exact ⟨rfl, _, World.drewN_drewN _ _ _⟩ | exact ⟨rfl, _, Eq.trans (World.drewN_drewN _ _ _) (congrArg (World.drewN _) (Nat.add_assoc _ _ _))⟩)) | (go_at_call 80; (with_reducible refine (tesseraref3_In.calls k3 _ _ l1 39 false _ ?side1 ?side2 A43.out).mono ?_); (case side1 => repeat (first | exact (Kd.V_reads' HO_1.out).2.2 | (with_reducible refine Kd.C_alloc ?_ _) | (with_reducible refine Kd.C_drewN ?_ _) | (with_reducible refine Kd.C_drew ?_))); (case side2 => exact (Kd.V_reads' HO_1.out).2.1); rintro e w' ⟨rfl, ⟨nd, rfl⟩⟩; (try first | exact ⟨rfl, _, World.drewN_drewN _ _ _⟩ | exact ⟨rfl, _, Eq.trans (World.drewN_drewN _ _ _) (congrArg (World.drewN _) (Nat.add_assoc _ _ _))⟩)) | (go_at_call 80; (with_reducible refine (tesseraref3_In.calls k3 _ _ l2 39 false _ ?side1 ?side2 A46.out).mono ?_); (case side1 => repeat (first | exact (Kd.V_reads' HO_2.out).2.2 | (with_reducible refine Kd.C_alloc ?_ _) | (with_reducible refine Kd.C_drewN ?_ _) | (with_reducible refine Kd.C_drew ?_))); (case side2 => exact (Kd.V_reads' HO_2.out).2.1); rintro e w' ⟨rfl, ⟨nd, rfl⟩⟩; (try first | exact ⟨rfl, _, World.drewN_drewN _ _ _⟩ | exact ⟨rfl, _, Eq.trans (World.drewN_drewN _ _ _) (congrArg (World.drewN _) (Nat.add_assoc _ _ _))⟩); have hcz49_0 : wr.cell? ⟨gb138, 0, none⟩ = some (.int .i64 x139000_3) := (blk_cell BK138.out 0).trans rfl; have hcz49_1 : wr.cell? ⟨gb138, 1, none⟩ = some (.int .i64 x139001_3) := (blk_cell BK138.out 1).trans rfl; have hcz49_2 : wr.cell? ⟨gb138, 2, none⟩ = some (.int .i64 x139002_3) := (blk_cell BK138.out 2).trans rfl; have hfz49_0 := blk_frozen BK138.out 0; have hfz49_1 := blk_frozen BK138.out 1; have hfz49_2 := blk_frozen BK138.out 2))
                            repeat (go_quiet (first | (go_at_call 80; (with_reducible refine (tesseraref3_In.calls k3 _ _ l2 32 true _ ?side1 ?side2 A38.out).mono ?_); (case side1 => repeat (first | exact (Kd.V_reads' HO_2.out).2.2 | (with_reducible refine Kd.C_alloc ?_ _) | (with_reducible refine Kd.C_drewN ?_ _) | (with_reducible refine Kd.C_drew ?_))); (case side2 => exact (Kd.V_reads' HO_2.out).2.1); rintro e w' ⟨rfl, ⟨nd, rfl⟩⟩; (try first | exact ⟨rfl, _, World.drewN_drewN _ _ _⟩ | exact ⟨rfl, _, Eq.trans (World.drewN_drewN _ _ _) (congrArg (World.drewN _) (Nat.add_assoc _ _ _))⟩)) | (go_at_call 80; (with_reducible refine (tesseraref3_In.calls k3 _ _ l0 39 false _ ?side1 ?side2 A40.out).mono ?_); (case side1 => repeat (first | exact (Kd.V_reads' HO_0.out).2.2 | (with_reducible refine Kd.C_alloc ?_ _) | (with_reducible refine Kd.C_drewN ?_ _) | (with_reducible refine Kd.C_drew ?_))); (case side2 => exact (Kd.V_reads' HO_0.out).2.1); rintro e w' ⟨rfl, ⟨nd, rfl⟩⟩; (try first | exact ⟨rfl, _, World.drewN_drewN _ _ _⟩ | exact ⟨rfl, _, Eq.trans (World.drewN_drewN _ _ _) (congrArg (World.drewN _) (Nat.add_assoc _ _ _))⟩)) | (go_at_call 80; (with_reducible refine (tesseraref3_In.calls k3 _ _ l1 39 false _ ?side1 ?side2 A43.out).mono ?_); (case side1 => repeat (first | exact (Kd.V_reads' HO_1.out).2.2 | (with_reducible refine Kd.C_alloc ?_ _) | (with_reducible refine Kd.C_drewN ?_ _) | (with_reducible refine Kd.C_drew ?_))); (case side2 => exact (Kd.V_reads' HO_1.out).2.1); rintro e w' ⟨rfl, ⟨nd, rfl⟩⟩; (try first | exact ⟨rfl, _, World.drewN_drewN _ _ _⟩ | exact ⟨rfl, _, Eq.trans (World.drewN_drewN _ _ _) (congrArg (World.drewN _) (Nat.add_assoc _ _ _))⟩)) | (go_at_call 80; (with_reducible refine (tesseraref3_In.calls k3 _ _ l2 39 false _ ?side1 ?side2 A46.out).mono ?_); (case side1 => repeat (first | exact (Kd.V_reads' HO_2.out).2.2 | (with_reducible refine Kd.C_alloc ?_ _) | (with_reducible refine Kd.C_drewN ?_ _) | (with_reducible refine Kd.C_drew ?_))); (case side2 => exact (Kd.V_reads' HO_2.out).2.1); rintro e w' ⟨rfl, ⟨nd, rfl⟩⟩; (try first | exact ⟨rfl, _, World.drewN_drewN _ _ _⟩ | exact ⟨rfl, _, Eq.trans (World.drewN_drewN _ _ _) (congrArg (World.drewN _) (Nat.add_assoc _ _ _))⟩); have hcz49_0 : wr.cell? ⟨gb138, 0, none⟩ = some (.int .i64 x139000_3) := (blk_cell BK138.out 0).trans rfl; have hcz49_1 : wr.cell? ⟨gb138, 1, none⟩ = some (.int .i64 x139001_3) := (blk_cell BK138.out 1).trans rfl; have hcz49_2 : wr.cell? ⟨gb138, 2, none⟩ = some (.int .i64 x139002_3) := (blk_cell BK138.out 2).trans rfl; have hfz49_0 := blk_frozen BK138.out 0; have hfz49_1 := blk_frozen BK138.out 1; have hfz49_2 := blk_frozen BK138.out 2)); try go_wp2_with (first | (go_at_call 80; (with_reducible refine (tesseraref3_In.calls k3 _ _ l2 32 true _ ?side1 ?side2 A38.out).mono ?_); (case side1 => repeat (first | exact (Kd.V_reads' HO_2.out).2.2 | (with_reducible refine Kd.C_alloc ?_ _) | (with_reducible refine Kd.C_drewN ?_ _) | (with_reducible refine Kd.C_drew ?_))); (case side2 => exact (Kd.V_reads' HO_2.out).2.1); rintro e w' ⟨rfl, ⟨nd, rfl⟩⟩; (try first | exact ⟨rfl, _, World.drewN_drewN _ _ _⟩ | exact ⟨rfl, _, Eq.trans (World.drewN_drewN _ _ _) (congrArg (World.drewN _) (Nat.add_assoc _ _ _))⟩)) | (go_at_call 80; (with_reducible refine (tesseraref3_In.calls k3 _ _ l0 39 false _ ?side1 ?side2 A40.out).mono ?_); (case side1 => repeat (first | exact (Kd.V_reads' HO_0.out).2.2 | (with_reducible refine Kd.C_alloc ?_ _) | (with_reducible refine Kd.C_drewN ?_ _) | (with_reducible refine Kd.C_drew ?_))); (case side2 => exact (Kd.V_reads' HO_0.out).2.1); rintro e w' ⟨rfl, ⟨nd, rfl⟩⟩; (try first | exact ⟨rfl, _, World.drewN_drewN _ _ _⟩ | exact ⟨rfl, _, Eq.trans (World.drewN_drewN _ _ _) (congrArg (World.drewN _) (Nat.add_assoc _ _ _))⟩)) | (go_at_call 80; (with_reducible refine (tesseraref3_In.calls k3 _ _ l1 39 false _ ?side1 ?side2 A43.out).mono ?_); (case side1 => repeat (first | exact (Kd.V_reads' HO_1.out).2.2 | (with_reducible refine Kd.C_alloc ?_ _) | (with_reducible refine Kd.C_drewN ?_ _) | (with_reducible refine Kd.C_drew ?_))); (case side2 => exact (Kd.V_reads' HO_1.out).2.1); rintro e w' ⟨rfl, ⟨nd, rfl⟩⟩; (try first | exact ⟨rfl, _, World.drewN_drewN _ _ _⟩ | exact ⟨rfl, _, Eq.trans (World.drewN_drewN _ _ _) (congrArg (World.drewN _) (Nat.add_assoc _ _ _))⟩)) | (go_at_call 80; (with_reducible refine (tesseraref3_In.calls k3 _ _ l2 39 false _ ?side1 ?side2 A46.out).mono ?_); (case side1 => repeat (first | exact (Kd.V_reads' HO_2.out).2.2 | (with_reducible refine Kd.C_alloc ?_ _) | (with_reducible refine Kd.C_drewN ?_ _) | (with_reducible refine Kd.C_drew ?_))); (case side2 => exact (Kd.V_reads' HO_2.out).2.1); rintro e w' ⟨rfl, ⟨nd, rfl⟩⟩; (try first | exact ⟨rfl, _, World.drewN_drewN _ _ _⟩ | exact ⟨rfl, _, Eq.trans (World.drewN_drewN _ _ _) (congrArg (World.drewN _) (Nat.add_assoc _ _ _))⟩); have hcz49_0 : wr.cell? ⟨gb138, 0, none⟩ = some (.int .i64 x139000_3) := (blk_cell BK138.out 0).trans rfl; have hcz49_1 : wr.cell? ⟨gb138, 1, none⟩ = some (.int .i64 x139001_3) := (blk_cell BK138.out 1).trans rfl; have hcz49_2 : wr.cell? ⟨gb138, 2, none⟩ = some (.int .i64 x139002_3) := (blk_cell BK138.out 2).trans rfl; have hfz49_0 := blk_frozen BK138.out 0; have hfz49_1 := blk_frozen BK138.out 1; have hfz49_2 := blk_frozen BK138.out 2)))
                            refine bodyPost_ret (results_cell_row rfl _ _ gb138 114 #[.int .i64 0, .int .i64 0, .int .i64 0] (0, 0) _ rfl (by (with_reducible repeat (first | refine blk_drewN ?_ _ | refine blk_drew ?_ | refine blk_alloc ?_ _)); refine blk_put (cs := #[.int .i64 0, .int .i64 0, .int .i64 x139002_3]) ?_ 2 _ rfl; (with_reducible repeat (first | refine blk_drewN ?_ _ | refine blk_drew ?_ | refine blk_alloc ?_ _)); refine blk_put (cs := #[.int .i64 0, .int .i64 x139001_3, .int .i64 x139002_3]) ?_ 1 _ rfl; (with_reducible repeat (first | refine blk_drewN ?_ _ | refine blk_drew ?_ | refine blk_alloc ?_ _)); refine blk_put (cs := #[.int .i64 x139000_3, .int .i64 x139001_3, .int .i64 x139002_3]) ?_ 0 _ rfl; (with_reducible repeat (first | refine blk_drewN ?_ _ | refine blk_drew ?_ | refine blk_alloc ?_ _)); exact BK138.out) Try.underlying114 rfl (by kernel_rfl)) rfl ?_
                            exact ⟨by first | rfl | (simp [errW_none, errW_some] <;> rfl) | (simp [*, errW_none, errW_some] <;> rfl), by repeat (first | (with_reducible first | exact HB.out | apply below_alloc | apply pw_below_drewN | apply below_drew1 | refine below_set ?_ GE138.out) | exact HB.out)⟩
                    · replace c39 := Bool.eq_false_iff.mpr c39
                      subst c39
                      have H1 : (some (20, 3, 0)) = some (r1, r2, r3) := by rw [if_neg (show ¬ (false = true) by decide)] at H; exact H
                      clear H
                      have H := H1
                      clear H1
                      simp only [Option.some.injEq, Prod.mk.injEq] at H
                      obtain ⟨rfl, rfl, rfl⟩ := H
                      go_wp2_with (first | (go_at_call 80; (with_reducible refine (tesseraref3_In.calls k3 _ _ l2 32 false _ ?side1 ?side2 A38.out).mono ?_); (case side1 => repeat (first | exact (Kd.V_reads' HO_2.out).2.2 | (with_reducible refine Kd.C_alloc ?_ _) | (with_reducible refine Kd.C_drewN ?_ _) | (with_reducible refine Kd.C_drew ?_))); (case side2 => exact (Kd.V_reads' HO_2.out).2.1); rintro e w' ⟨rfl, ⟨nd, rfl⟩⟩; (try first | exact ⟨rfl, _, World.drewN_drewN _ _ _⟩ | exact ⟨rfl, _, Eq.trans (World.drewN_drewN _ _ _) (congrArg (World.drewN _) (Nat.add_assoc _ _ _))⟩); have hcz50_0 : wr.cell? ⟨gb138, 0, none⟩ = some (.int .i64 x139000_3) := (blk_cell BK138.out 0).trans rfl; have hcz50_1 : wr.cell? ⟨gb138, 1, none⟩ = some (.int .i64 x139001_3) := (blk_cell BK138.out 1).trans rfl; have hcz50_2 : wr.cell? ⟨gb138, 2, none⟩ = some (.int .i64 x139002_3) := (blk_cell BK138.out 2).trans rfl; have hfz50_0 := blk_frozen BK138.out 0; have hfz50_1 := blk_frozen BK138.out 1; have hfz50_2 := blk_frozen BK138.out 2))
                      repeat (go_quiet (first | (go_at_call 80; (with_reducible refine (tesseraref3_In.calls k3 _ _ l2 32 false _ ?side1 ?side2 A38.out).mono ?_); (case side1 => repeat (first | exact (Kd.V_reads' HO_2.out).2.2 | (with_reducible refine Kd.C_alloc ?_ _) | (with_reducible refine Kd.C_drewN ?_ _) | (with_reducible refine Kd.C_drew ?_))); (case side2 => exact (Kd.V_reads' HO_2.out).2.1); rintro e w' ⟨rfl, ⟨nd, rfl⟩⟩; (try first | exact ⟨rfl, _, World.drewN_drewN _ _ _⟩ | exact ⟨rfl, _, Eq.trans (World.drewN_drewN _ _ _) (congrArg (World.drewN _) (Nat.add_assoc _ _ _))⟩); have hcz50_0 : wr.cell? ⟨gb138, 0, none⟩ = some (.int .i64 x139000_3) := (blk_cell BK138.out 0).trans rfl; have hcz50_1 : wr.cell? ⟨gb138, 1, none⟩ = some (.int .i64 x139001_3) := (blk_cell BK138.out 1).trans rfl; have hcz50_2 : wr.cell? ⟨gb138, 2, none⟩ = some (.int .i64 x139002_3) := (blk_cell BK138.out 2).trans rfl; have hfz50_0 := blk_frozen BK138.out 0; have hfz50_1 := blk_frozen BK138.out 1; have hfz50_2 := blk_frozen BK138.out 2)); try go_wp2_with (first | (go_at_call 80; (with_reducible refine (tesseraref3_In.calls k3 _ _ l2 32 false _ ?side1 ?side2 A38.out).mono ?_); (case side1 => repeat (first | exact (Kd.V_reads' HO_2.out).2.2 | (with_reducible refine Kd.C_alloc ?_ _) | (with_reducible refine Kd.C_drewN ?_ _) | (with_reducible refine Kd.C_drew ?_))); (case side2 => exact (Kd.V_reads' HO_2.out).2.1); rintro e w' ⟨rfl, ⟨nd, rfl⟩⟩; (try first | exact ⟨rfl, _, World.drewN_drewN _ _ _⟩ | exact ⟨rfl, _, Eq.trans (World.drewN_drewN _ _ _) (congrArg (World.drewN _) (Nat.add_assoc _ _ _))⟩); have hcz50_0 : wr.cell? ⟨gb138, 0, none⟩ = some (.int .i64 x139000_3) := (blk_cell BK138.out 0).trans rfl; have hcz50_1 : wr.cell? ⟨gb138, 1, none⟩ = some (.int .i64 x139001_3) := (blk_cell BK138.out 1).trans rfl; have hcz50_2 : wr.cell? ⟨gb138, 2, none⟩ = some (.int .i64 x139002_3) := (blk_cell BK138.out 2).trans rfl; have hfz50_0 := blk_frozen BK138.out 0; have hfz50_1 := blk_frozen BK138.out 1; have hfz50_2 := blk_frozen BK138.out 2)))
                      refine bodyPost_ret (results_cell_row rfl _ _ gb138 114 #[.int .i64 20, .int .i64 3, .int .i64 0] (0, 0) _ rfl (by (with_reducible repeat (first | refine blk_drewN ?_ _ | refine blk_drew ?_ | refine blk_alloc ?_ _)); refine blk_put (cs := #[.int .i64 20, .int .i64 3, .int .i64 x139002_3]) ?_ 2 _ rfl; (with_reducible repeat (first | refine blk_drewN ?_ _ | refine blk_drew ?_ | refine blk_alloc ?_ _)); refine blk_put (cs := #[.int .i64 20, .int .i64 x139001_3, .int .i64 x139002_3]) ?_ 1 _ rfl; (with_reducible repeat (first | refine blk_drewN ?_ _ | refine blk_drew ?_ | refine blk_alloc ?_ _)); refine blk_put (cs := #[.int .i64 x139000_3, .int .i64 x139001_3, .int .i64 x139002_3]) ?_ 0 _ rfl; (with_reducible repeat (first | refine blk_drewN ?_ _ | refine blk_drew ?_ | refine blk_alloc ?_ _)); exact BK138.out) Try.underlying114 rfl (by kernel_rfl)) rfl ?_
                      exact ⟨by first | rfl | (simp [errW_none, errW_some] <;> rfl) | (simp [*, errW_none, errW_some] <;> rfl), by repeat (first | (with_reducible first | exact HB.out | apply below_alloc | apply pw_below_drewN | apply below_drew1 | refine below_set ?_ GE138.out) | exact HB.out)⟩

end Go.Proofs.Ytbepmbihonnkaaa.PPruneDown
