-- PRINTED BY print.sh 35421559b90ae4d0a3588c463048766b98c2df88dd9212a6774a882060cdf62d: not written by this session
import Derived.Test.YtbepmbihonnkaaaPPruneDownx0
import Derived.Test.YtbepmbihonnkaaaPPruneDownx1
namespace Go.Proofs.Ytbepmbihonnkaaa.PPruneDown
open Go.RowKit Go.Proofs.YtbepmbihonnkaaaW.PrintWords Go.Proofs.YtbepmbihonnkaaaW.PrintLast Go.Proofs.YtbepmbihonnkaaaW.PrintMore
attribute [local go_sem] max2_int min2_int max_two min_two max_three min_three max_four min_four   -- for this text's walks alone
set_option linter.unusedVariables false
set_option linter.unusedSimpArgs false

/-! ### tesseraref3_Right: function 78 -/
mutual
def tesseraref3_Right.l0 : Nat → List (S94) → Int → Option (Int × Int)
  | 0, _, _ => none
  | k + 1, x0, x4 => if x4 < (x0.length : Int) then (if 0 ≤ x4 then ((tesseraref3_Rune.f ((rd_T94 x0 x4).f0)).bind fun t120 => (if t120 = true then ((tesseraref3_Rune.f ((rd_T94 x0 x4).f1)).bind fun t122 => (tesseraref3_Right.j1 k x0 x4 (!t122))) else (tesseraref3_Right.j1 k x0 x4 true))) else (none)) else (some (0, 0))
def tesseraref3_Right.j1 : Nat → List (S94) → Int → Bool → Option (Int × Int)
  | 0, _, _, _ => none
  | k + 1, x0, x4, x26 => if x26 = true then (some (x4, 14)) else (if 0 ≤ x4 then (if x4 < (x0.length : Int) then (if ((rd_T94 x0 x4).f1) < ((rd_T94 x0 x4).f0) then (some (x4, 15)) else (if x4 > 0 then (if 0 ≤ (wrap64 (x4 - 1)) then (if (wrap64 (x4 - 1)) < (x0.length : Int) then (if ((rd_T94 x0 x4).f0) ≤ ((rd_T94 x0 (wrap64 (x4 - 1))).f1) then (some (x4, 15)) else (tesseraref3_Right.l0 k x0 (wrap64 (x4 + 1)))) else (none)) else (none)) else (tesseraref3_Right.l0 k x0 (wrap64 (x4 + 1))))) else (none)) else (none))
end
def tesseraref3_Right.f (k : Nat) (l0 : List (S94)) : Option (Int × Int) := tesseraref3_Right.l0 k l0 0
theorem tesseraref3_Right.mono_l : ∀ k, (∀ y0 y1, LeO (tesseraref3_Right.l0 k y0 y1) (tesseraref3_Right.l0 (k + 1) y0 y1)) ∧ (∀ y0 y1 y2, LeO (tesseraref3_Right.j1 k y0 y1 y2) (tesseraref3_Right.j1 (k + 1) y0 y1 y2))
  | 0 => ⟨fun _ _ r h => by simp [tesseraref3_Right.l0] at h, fun _ _ _ r h => by simp [tesseraref3_Right.j1] at h⟩
  | k + 1 => by
    obtain ⟨ih0, ih1⟩ := tesseraref3_Right.mono_l k
    refine ⟨?_, ?_⟩
    · intro y0 y1
      unfold tesseraref3_Right.l0
      repeat' first
      | (with_reducible exact ih0 _ _)
      | (with_reducible exact ih1 _ _ _)
      | (with_reducible exact LeO.refl _)
      | (with_reducible exact LeO.none _)
      | (with_reducible refine LeO.ite ?_ ?_)
      | (with_reducible refine LeO.bind ?_ (fun _ => ?_))
      | exact ih0 _ _
      | exact ih1 _ _ _
      | exact LeO.none _
      | refine LeO.ite ?_ ?_
      | refine LeO.bind ?_ (fun _ => ?_)
    · intro y0 y1 y2
      unfold tesseraref3_Right.j1
      repeat' first
      | (with_reducible exact ih0 _ _)
      | (with_reducible exact ih1 _ _ _)
      | (with_reducible exact LeO.refl _)
      | (with_reducible exact LeO.none _)
      | (with_reducible refine LeO.ite ?_ ?_)
      | (with_reducible refine LeO.bind ?_ (fun _ => ?_))
      | exact ih0 _ _
      | exact ih1 _ _ _
      | exact LeO.none _
      | refine LeO.ite ?_ ?_
      | refine LeO.bind ?_ (fun _ => ?_)
theorem tesseraref3_Right.mono : ∀ a0 k, LeO (tesseraref3_Right.f k a0) (tesseraref3_Right.f (k + 1) a0) := by
  intro a0 k
  obtain ⟨ih0, ih1⟩ := tesseraref3_Right.mono_l k
  unfold tesseraref3_Right.f
  repeat' first
      | (with_reducible exact ih0 _ _)
      | (with_reducible exact ih1 _ _ _)
      | (with_reducible exact LeO.refl _)
      | (with_reducible exact LeO.none _)
      | (with_reducible refine LeO.ite ?_ ?_)
      | (with_reducible refine LeO.bind ?_ (fun _ => ?_))
      | exact ih0 _ _
      | exact ih1 _ _ _
      | exact LeO.none _
      | refine LeO.ite ?_ ?_
      | refine LeO.bind ?_ (fun _ => ?_)
set_option maxHeartbeats 8000000 in
set_option maxRecDepth 100000 in
theorem tesseraref3_Right.calls (k : Nat) (A0 : Option Addr) (c0 : Nat) (l0 : List (S94)) (r1 : Int) (r2 : Int) (w : World) (hr0 : Kd.C k94 w A0 l0.length l0) (hc0 : l0.length ≤ c0) (h : tesseraref3_Right.f k l0 = some (r1, r2)) :
    Calls Try.prog 78 #[.slice A0 l0.length c0] w fun e w' => e = .returned (.tuple #[.int .i64 r1, .int .i64 r2]) ∧ Drawn0 w w' := by
  have HR0 := Aside0.mk hr0
  have HC0 := Aside0.mk hc0
  clear hr0 hc0
  have H : (tesseraref3_Right.l0 k l0 0) = some (r1, r2) := h
  clear h
  have H' := Aside0.mk H
  clear H
  go_enter Try.func78, Try.ntmps78
  go_wp2
  repeat (go_quiet (fail); try go_wp2)
  go_loopg [4] k (fun kq v4 w' => ∃ (x4_1 : Int), v4 = .int .i64 x4_1 ∧ Aside0 (tesseraref3_Right.l0 kq l0 x4_1 = some (r1, r2)) ∧ Aside0 (kq ≤ k) ∧ Drawn0 w w')
  case atStart => exact ⟨(0), (by first | rfl | (simp; done) | (simp [*]; done)), H', ⟨Nat.le_refl _⟩, by repeat (first | exact Drawn0.refl _ | apply Drawn0.step)⟩
  case round =>
    clear H'
    obtain ⟨x4_1, rfl, HA, HK1, ⟨m1, rfl⟩⟩ := hrel
    cases gk with
    | zero => exact absurd HA.out (by simp [tesseraref3_Right.l0])
    | succ k1 =>
      have H := HA.out
      clear HA
      simp only [tesseraref3_Right.l0] at H
      by_cases c2 : x4_1 < (l0.length : Int)
      · rw [if_pos c2] at H
        have c2b0 : decide (x4_1 < (l0.length : Int)) = true := decide_eq_true c2
        clear c2
        have HC3 := Aside0.mk H
        clear H
        go_upto_region 4 with (fail)
        repeat (go_quiet (fail); go_upto_region 4 with (fail))
        go_cut [26] (fun v26 wc => ∃ (kq : Nat) (x26_2 : Bool), v26 = .bool x26_2 ∧ Aside0 (tesseraref3_Right.j1 kq l0 x4_1 x26_2 = some (r1, r2)) ∧ Aside0 (kq ≤ k1) ∧ Drawn0 w wc)
        case first =>
          have H := HC3.out
          clear HC3
          by_cases c4 : 0 ≤ x4_1
          · rw [if_pos c4] at H
            have c4b0 : decide (0 ≤ x4_1) = true := decide_eq_true c4
            clear c4
            (first | rw [c4b0] | (simp only [i64_w, i32_w]; rw [c4b0]) | skip)
            replace H := Option.bind_eq_some_iff.mp H
            obtain ⟨t120, A50, H⟩ := H
            replace H : (if t120 = true then ((tesseraref3_Rune.f ((rd_T94 l0 x4_1).f1)).bind fun t122 => (tesseraref3_Right.j1 k1 l0 x4_1 (!t122))) else (tesseraref3_Right.j1 k1 l0 x4_1 true)) = some (r1, r2) := H
            have A5 := Aside0.mk A50
            clear A50
            by_cases c6 : t120 = true
            · subst c6
              have H1 : ((tesseraref3_Rune.f ((rd_T94 l0 x4_1).f1)).bind fun t122 => (tesseraref3_Right.j1 k1 l0 x4_1 (!t122))) = some (r1, r2) := by rw [if_pos rfl] at H; exact H
              clear H
              have H := H1
              clear H1
              replace H := Option.bind_eq_some_iff.mp H
              obtain ⟨t122, A70, H⟩ := H
              replace H : (tesseraref3_Right.j1 k1 l0 x4_1 (!t122)) = some (r1, r2) := H
              have A7 := Aside0.mk A70
              clear A70
              have H' := Aside0.mk H
              clear H
              have p119 : 0 ≤ (x4_1 : Int) := of_decide_eq_true (by first | (with_reducible assumption) | assumption)
              have q119 : x4_1 < (l0.length : Int) := of_decide_eq_true (by first | (with_reducible assumption) | assumption)
              obtain ⟨ad119, e119, hx119_0, hx119_1⟩ := at_T94 HR0.out x4_1 p119 q119
              cases e119
              replace p119 := eq_true p119
              replace q119 := eq_true q119
              go_wp2_with (first | (go_at_call 92; (with_reducible refine (tesseraref3_Rune.calls ((rd_T94 l0 x4_1).f0) true _ A5.out).mono ?_); rintro e w' ⟨rfl, ⟨nd, rfl⟩⟩; (try first | exact ⟨rfl, _, World.drewN_drewN _ _ _⟩ | exact ⟨rfl, _, Eq.trans (World.drewN_drewN _ _ _) (congrArg (World.drewN _) (Nat.add_assoc _ _ _))⟩); have p121 : 0 ≤ (x4_1 : Int) := of_decide_eq_true (by first | (with_reducible assumption) | assumption); have q121 : x4_1 < (l0.length : Int) := of_decide_eq_true (by first | (with_reducible assumption) | assumption); obtain ⟨ad121, e121, hx121_0, hx121_1⟩ := at_T94 HR0.out x4_1 p121 q121; obtain rfl : ad119 = ad121 := (by injection e121); replace p121 := eq_true p121; replace q121 := eq_true q121) | (go_at_call 92; (with_reducible refine (tesseraref3_Rune.calls ((rd_T94 l0 x4_1).f1) t122 _ A7.out).mono ?_); rintro e w' ⟨rfl, ⟨nd, rfl⟩⟩; (try first | exact ⟨rfl, _, World.drewN_drewN _ _ _⟩ | exact ⟨rfl, _, Eq.trans (World.drewN_drewN _ _ _) (congrArg (World.drewN _) (Nat.add_assoc _ _ _))⟩)))
              repeat (go_quiet (first | (go_at_call 92; (with_reducible refine (tesseraref3_Rune.calls ((rd_T94 l0 x4_1).f0) true _ A5.out).mono ?_); rintro e w' ⟨rfl, ⟨nd, rfl⟩⟩; (try first | exact ⟨rfl, _, World.drewN_drewN _ _ _⟩ | exact ⟨rfl, _, Eq.trans (World.drewN_drewN _ _ _) (congrArg (World.drewN _) (Nat.add_assoc _ _ _))⟩); have p121 : 0 ≤ (x4_1 : Int) := of_decide_eq_true (by first | (with_reducible assumption) | assumption); have q121 : x4_1 < (l0.length : Int) := of_decide_eq_true (by first | (with_reducible assumption) | assumption); obtain ⟨ad121, e121, hx121_0, hx121_1⟩ := at_T94 HR0.out x4_1 p121 q121; obtain rfl : ad119 = ad121 := (by injection e121); replace p121 := eq_true p121; replace q121 := eq_true q121) | (go_at_call 92; (with_reducible refine (tesseraref3_Rune.calls ((rd_T94 l0 x4_1).f1) t122 _ A7.out).mono ?_); rintro e w' ⟨rfl, ⟨nd, rfl⟩⟩; (try first | exact ⟨rfl, _, World.drewN_drewN _ _ _⟩ | exact ⟨rfl, _, Eq.trans (World.drewN_drewN _ _ _) (congrArg (World.drewN _) (Nat.add_assoc _ _ _))⟩))); try go_wp2_with (first | (go_at_call 92; (with_reducible refine (tesseraref3_Rune.calls ((rd_T94 l0 x4_1).f0) true _ A5.out).mono ?_); rintro e w' ⟨rfl, ⟨nd, rfl⟩⟩; (try first | exact ⟨rfl, _, World.drewN_drewN _ _ _⟩ | exact ⟨rfl, _, Eq.trans (World.drewN_drewN _ _ _) (congrArg (World.drewN _) (Nat.add_assoc _ _ _))⟩); have p121 : 0 ≤ (x4_1 : Int) := of_decide_eq_true (by first | (with_reducible assumption) | assumption); have q121 : x4_1 < (l0.length : Int) := of_decide_eq_true (by first | (with_reducible assumption) | assumption); obtain ⟨ad121, e121, hx121_0, hx121_1⟩ := at_T94 HR0.out x4_1 p121 q121; obtain rfl : ad119 = ad121 := (by injection e121); replace p121 := eq_true p121; replace q121 := eq_true q121) | (go_at_call 92; (with_reducible refine (tesseraref3_Rune.calls ((rd_T94 l0 x4_1).f1) t122 _ A7.out).mono ?_); rintro e w' ⟨rfl, ⟨nd, rfl⟩⟩; (try first | exact ⟨rfl, _, World.drewN_drewN _ _ _⟩ | exact ⟨rfl, _, Eq.trans (World.drewN_drewN _ _ _) (congrArg (World.drewN _) (Nat.add_assoc _ _ _))⟩))))
              go_meet
              case rel => exact ⟨_, (!t122), (by first | rfl | (simp; done) | (simp [*]; done)), H', ⟨by have := HK1.out; first | omega | exact Nat.le_refl _⟩, by repeat (first | exact Drawn0.refl _ | apply Drawn0.step)⟩
            · replace c6 := Bool.eq_false_iff.mpr c6
              subst c6
              have H1 : (tesseraref3_Right.j1 k1 l0 x4_1 true) = some (r1, r2) := by rw [if_neg (show ¬ (false = true) by decide)] at H; exact H
              clear H
              have H := H1
              clear H1
              have H' := Aside0.mk H
              clear H
              have p119 : 0 ≤ (x4_1 : Int) := of_decide_eq_true (by first | (with_reducible assumption) | assumption)
              have q119 : x4_1 < (l0.length : Int) := of_decide_eq_true (by first | (with_reducible assumption) | assumption)
              obtain ⟨ad119, e119, hx119_0, hx119_1⟩ := at_T94 HR0.out x4_1 p119 q119
              cases e119
              replace p119 := eq_true p119
              replace q119 := eq_true q119
              go_wp2_with (first | (go_at_call 92; (with_reducible refine (tesseraref3_Rune.calls ((rd_T94 l0 x4_1).f0) false _ A5.out).mono ?_); rintro e w' ⟨rfl, ⟨nd, rfl⟩⟩; (try first | exact ⟨rfl, _, World.drewN_drewN _ _ _⟩ | exact ⟨rfl, _, Eq.trans (World.drewN_drewN _ _ _) (congrArg (World.drewN _) (Nat.add_assoc _ _ _))⟩)))
              repeat (go_quiet (first | (go_at_call 92; (with_reducible refine (tesseraref3_Rune.calls ((rd_T94 l0 x4_1).f0) false _ A5.out).mono ?_); rintro e w' ⟨rfl, ⟨nd, rfl⟩⟩; (try first | exact ⟨rfl, _, World.drewN_drewN _ _ _⟩ | exact ⟨rfl, _, Eq.trans (World.drewN_drewN _ _ _) (congrArg (World.drewN _) (Nat.add_assoc _ _ _))⟩))); try go_wp2_with (first | (go_at_call 92; (with_reducible refine (tesseraref3_Rune.calls ((rd_T94 l0 x4_1).f0) false _ A5.out).mono ?_); rintro e w' ⟨rfl, ⟨nd, rfl⟩⟩; (try first | exact ⟨rfl, _, World.drewN_drewN _ _ _⟩ | exact ⟨rfl, _, Eq.trans (World.drewN_drewN _ _ _) (congrArg (World.drewN _) (Nat.add_assoc _ _ _))⟩))))
              go_meet
              case rel => exact ⟨_, (true), (by first | rfl | (simp; done) | (simp [*]; done)), H', ⟨by have := HK1.out; first | omega | exact Nat.le_refl _⟩, by repeat (first | exact Drawn0.refl _ | apply Drawn0.step)⟩
          · rw [if_neg c4] at H
            exact absurd H (by simp)
        case rest =>
          clear HC3
          try clear p1
          try clear q1
          try clear hx1
          try clear c2
          try clear c2b0
          try clear p2
          try clear c4
          try clear c4b0
          try clear c6
          try clear c7
          try clear hx119_0
          try clear hx119_1
          try clear hx121_0
          try clear hx121_1
          try clear p119
          try clear p121
          try clear q119
          try clear q121
          obtain ⟨kq, x26_2, rfl, HA, HJ2, ⟨mc2, rfl⟩⟩ := hcut
          cases kq with
          | zero => exact absurd HA.out (by simp [tesseraref3_Right.j1])
          | succ kj2 =>
            have H := HA.out
            clear HA
            simp only [tesseraref3_Right.j1] at H
            by_cases c8 : x26_2 = true
            · subst c8
              have H1 : (some (x4_1, 14)) = some (r1, r2) := by rw [if_pos rfl] at H; exact H
              clear H
              have H := H1
              clear H1
              simp only [Option.some.injEq, Prod.mk.injEq] at H
              obtain ⟨rfl, rfl⟩ := H
              go_wp2
              repeat (go_quiet (fail); try go_wp2)
              go_ret2
              exact ⟨by first | rfl | (simp; done) | (simp [*]; done), by repeat (first | exact Drawn0.refl _ | apply Drawn0.step)⟩
            · replace c8 := Bool.eq_false_iff.mpr c8
              subst c8
              have H1 : (if 0 ≤ x4_1 then (if x4_1 < (l0.length : Int) then (if ((rd_T94 l0 x4_1).f1) < ((rd_T94 l0 x4_1).f0) then (some (x4_1, 15)) else (if x4_1 > 0 then (if 0 ≤ (wrap64 (x4_1 - 1)) then (if (wrap64 (x4_1 - 1)) < (l0.length : Int) then (if ((rd_T94 l0 x4_1).f0) ≤ ((rd_T94 l0 (wrap64 (x4_1 - 1))).f1) then (some (x4_1, 15)) else (tesseraref3_Right.l0 kj2 l0 (wrap64 (x4_1 + 1)))) else (none)) else (none)) else (tesseraref3_Right.l0 kj2 l0 (wrap64 (x4_1 + 1))))) else (none)) else (none)) = some (r1, r2) := by rw [if_neg (show ¬ (false = true) by decide)] at H; exact H
              clear H
              have H := H1
              clear H1
              by_cases c9 : 0 ≤ x4_1
              · rw [if_pos c9] at H
                have c9b0 : decide (0 ≤ x4_1) = true := decide_eq_true c9
                clear c9
                by_cases c10 : x4_1 < (l0.length : Int)
                · rw [if_pos c10] at H
                  have c10b0 : decide (x4_1 < (l0.length : Int)) = true := decide_eq_true c10
                  clear c10
                  by_cases c11 : ((rd_T94 l0 x4_1).f1) < ((rd_T94 l0 x4_1).f0)
                  · rw [if_pos c11] at H
                    have c11b0 : decide (((rd_T94 l0 x4_1).f1) < ((rd_T94 l0 x4_1).f0)) = true := decide_eq_true c11
                    clear c11
                    simp only [Option.some.injEq, Prod.mk.injEq] at H
                    obtain ⟨rfl, rfl⟩ := H
                    have p123 : 0 ≤ (x4_1 : Int) := of_decide_eq_true (by first | (with_reducible assumption) | assumption)
                    have q123 : x4_1 < (l0.length : Int) := of_decide_eq_true (by first | (with_reducible assumption) | assumption)
                    obtain ⟨ad123, e123, hx123_0, hx123_1⟩ := at_T94 HR0.out x4_1 p123 q123
                    cases e123
                    replace p123 := eq_true p123
                    replace q123 := eq_true q123
                    have p124 : 0 ≤ (x4_1 : Int) := of_decide_eq_true (by first | (with_reducible assumption) | assumption)
                    have q124 : x4_1 < (l0.length : Int) := of_decide_eq_true (by first | (with_reducible assumption) | assumption)
                    obtain ⟨ad124, e124, hx124_0, hx124_1⟩ := at_T94 HR0.out x4_1 p124 q124
                    obtain rfl : ad123 = ad124 := (by injection e124)
                    replace p124 := eq_true p124
                    replace q124 := eq_true q124
                    go_wp2
                    repeat (go_quiet (fail); try go_wp2)
                    go_ret2
                    exact ⟨by first | rfl | (simp; done) | (simp [*]; done), by repeat (first | exact Drawn0.refl _ | apply Drawn0.step)⟩
                  · rw [if_neg c11] at H
                    have c11b0 : decide (((rd_T94 l0 x4_1).f1) < ((rd_T94 l0 x4_1).f0)) = false := decide_eq_false c11
                    clear c11
                    by_cases c12 : x4_1 > 0
                    · rw [if_pos c12] at H
                      have c12b0 : decide (0 < x4_1) = true := decide_eq_true c12
                      clear c12
                      obtain ⟨ji13, hji13⟩ : ∃ j_ : Int, (wrap64 (x4_1 - 1)) = j_ := ⟨_, rfl⟩
                      replace H : (if 0 ≤ (ji13) then (if (ji13) < (l0.length : Int) then (if ((rd_T94 l0 x4_1).f0) ≤ ((rd_T94 l0 (ji13)).f1) then (some (x4_1, 15)) else (tesseraref3_Right.l0 kj2 l0 (wrap64 (x4_1 + 1)))) else (none)) else (none)) = some (r1, r2) := by first | (rw [hji13] at H; exact H) | (simp only [hji13] at H ⊢; exact H)
                      have hji13w : (IntKind.i64.wrap (x4_1 - 1)) = ji13 := (i64_w _).trans hji13
                      by_cases c14 : 0 ≤ (ji13)
                      · rw [if_pos c14] at H
                        have c14b0 : decide (0 ≤ (ji13)) = true := decide_eq_true c14
                        clear c14
                        by_cases c15 : (ji13) < (l0.length : Int)
                        · rw [if_pos c15] at H
                          have c15b0 : decide ((ji13) < (l0.length : Int)) = true := decide_eq_true c15
                          clear c15
                          by_cases c16 : ((rd_T94 l0 x4_1).f0) ≤ ((rd_T94 l0 (ji13)).f1)
                          · rw [if_pos c16] at H
                            have c16b0 : decide (((rd_T94 l0 x4_1).f0) ≤ ((rd_T94 l0 (ji13)).f1)) = true := decide_eq_true c16
                            clear c16
                            simp only [Option.some.injEq, Prod.mk.injEq] at H
                            obtain ⟨rfl, rfl⟩ := H
                            have p123 : 0 ≤ (x4_1 : Int) := of_decide_eq_true (by first | (with_reducible assumption) | assumption)
                            have q123 : x4_1 < (l0.length : Int) := of_decide_eq_true (by first | (with_reducible assumption) | assumption)
                            obtain ⟨ad123, e123, hx123_0, hx123_1⟩ := at_T94 HR0.out x4_1 p123 q123
                            cases e123
                            replace p123 := eq_true p123
                            replace q123 := eq_true q123
                            have p124 : 0 ≤ (x4_1 : Int) := of_decide_eq_true (by first | (with_reducible assumption) | assumption)
                            have q124 : x4_1 < (l0.length : Int) := of_decide_eq_true (by first | (with_reducible assumption) | assumption)
                            obtain ⟨ad124, e124, hx124_0, hx124_1⟩ := at_T94 HR0.out x4_1 p124 q124
                            obtain rfl : ad123 = ad124 := (by injection e124)
                            replace p124 := eq_true p124
                            replace q124 := eq_true q124
                            have p125 : 0 ≤ (x4_1 : Int) := of_decide_eq_true (by first | (with_reducible assumption) | assumption)
                            have q125 : x4_1 < (l0.length : Int) := of_decide_eq_true (by first | (with_reducible assumption) | assumption)
                            obtain ⟨ad125, e125, hx125_0, hx125_1⟩ := at_T94 HR0.out x4_1 p125 q125
                            obtain rfl : ad123 = ad125 := (by injection e125)
                            replace p125 := eq_true p125
                            replace q125 := eq_true q125
                            have p126 : 0 ≤ ((ji13) : Int) := of_decide_eq_true (by first | (with_reducible assumption) | assumption)
                            have q126 : (ji13) < (l0.length : Int) := of_decide_eq_true (by first | (with_reducible assumption) | assumption)
                            obtain ⟨ad126, e126, hx126_0, hx126_1⟩ := at_T94 HR0.out (ji13) p126 q126
                            obtain rfl : ad123 = ad126 := (by injection e126)
                            replace p126 := eq_true p126
                            replace q126 := eq_true q126
                            go_wp2
                            repeat (go_quiet (fail); try go_wp2)
                            go_ret2
                            exact ⟨by first | rfl | (simp; done) | (simp only [← hji13] <;> (first | rfl | simp)) | (simp [*]; done), by repeat (first | exact Drawn0.refl _ | apply Drawn0.step)⟩
                          · rw [if_neg c16] at H
                            have c16b0 : decide (((rd_T94 l0 x4_1).f0) ≤ ((rd_T94 l0 (ji13)).f1)) = false := decide_eq_false c16
                            clear c16
                            have H' := Aside0.mk H
                            clear H
                            have p123 : 0 ≤ (x4_1 : Int) := of_decide_eq_true (by first | (with_reducible assumption) | assumption)
                            have q123 : x4_1 < (l0.length : Int) := of_decide_eq_true (by first | (with_reducible assumption) | assumption)
                            obtain ⟨ad123, e123, hx123_0, hx123_1⟩ := at_T94 HR0.out x4_1 p123 q123
                            cases e123
                            replace p123 := eq_true p123
                            replace q123 := eq_true q123
                            have p124 : 0 ≤ (x4_1 : Int) := of_decide_eq_true (by first | (with_reducible assumption) | assumption)
                            have q124 : x4_1 < (l0.length : Int) := of_decide_eq_true (by first | (with_reducible assumption) | assumption)
                            obtain ⟨ad124, e124, hx124_0, hx124_1⟩ := at_T94 HR0.out x4_1 p124 q124
                            obtain rfl : ad123 = ad124 := (by injection e124)
                            replace p124 := eq_true p124
                            replace q124 := eq_true q124
                            have p125 : 0 ≤ (x4_1 : Int) := of_decide_eq_true (by first | (with_reducible assumption) | assumption)
                            have q125 : x4_1 < (l0.length : Int) := of_decide_eq_true (by first | (with_reducible assumption) | assumption)
                            obtain ⟨ad125, e125, hx125_0, hx125_1⟩ := at_T94 HR0.out x4_1 p125 q125
                            obtain rfl : ad123 = ad125 := (by injection e125)
                            replace p125 := eq_true p125
                            replace q125 := eq_true q125
                            have p126 : 0 ≤ ((ji13) : Int) := of_decide_eq_true (by first | (with_reducible assumption) | assumption)
                            have q126 : (ji13) < (l0.length : Int) := of_decide_eq_true (by first | (with_reducible assumption) | assumption)
                            obtain ⟨ad126, e126, hx126_0, hx126_1⟩ := at_T94 HR0.out (ji13) p126 q126
                            obtain rfl : ad123 = ad126 := (by injection e126)
                            replace p126 := eq_true p126
                            replace q126 := eq_true q126
                            go_wp2
                            repeat (go_quiet (fail); try go_wp2)
                            go_roundg kj2
                            case measure => have := HK1.out; have := HJ2.out; omega
                            case rel => exact ⟨(wrap64 (x4_1 + 1)), (by first | rfl | (simp; done) | (simp [*]; done)), H', ⟨by have := HK1.out; have := HJ2.out; omega⟩, by repeat (first | exact Drawn0.refl _ | apply Drawn0.step)⟩
                        · rw [if_neg c15] at H
                          exact absurd H (by simp)
                      · rw [if_neg c14] at H
                        exact absurd H (by simp)
                    · rw [if_neg c12] at H
                      have c12b0 : decide (0 < x4_1) = false := decide_eq_false c12
                      clear c12
                      have H' := Aside0.mk H
                      clear H
                      have p123 : 0 ≤ (x4_1 : Int) := of_decide_eq_true (by first | (with_reducible assumption) | assumption)
                      have q123 : x4_1 < (l0.length : Int) := of_decide_eq_true (by first | (with_reducible assumption) | assumption)
                      obtain ⟨ad123, e123, hx123_0, hx123_1⟩ := at_T94 HR0.out x4_1 p123 q123
                      cases e123
                      replace p123 := eq_true p123
                      replace q123 := eq_true q123
                      have p124 : 0 ≤ (x4_1 : Int) := of_decide_eq_true (by first | (with_reducible assumption) | assumption)
                      have q124 : x4_1 < (l0.length : Int) := of_decide_eq_true (by first | (with_reducible assumption) | assumption)
                      obtain ⟨ad124, e124, hx124_0, hx124_1⟩ := at_T94 HR0.out x4_1 p124 q124
                      obtain rfl : ad123 = ad124 := (by injection e124)
                      replace p124 := eq_true p124
                      replace q124 := eq_true q124
                      go_wp2
                      repeat (go_quiet (fail); try go_wp2)
                      go_roundg kj2
                      case measure => have := HK1.out; have := HJ2.out; omega
                      case rel => exact ⟨(wrap64 (x4_1 + 1)), (by first | rfl | (simp; done) | (simp [*]; done)), H', ⟨by have := HK1.out; have := HJ2.out; omega⟩, by repeat (first | exact Drawn0.refl _ | apply Drawn0.step)⟩
                · rw [if_neg c10] at H
                  exact absurd H (by simp)
              · rw [if_neg c9] at H
                exact absurd H (by simp)
      · rw [if_neg c2] at H
        have c2b0 : decide (x4_1 < (l0.length : Int)) = false := decide_eq_false c2
        clear c2
        simp only [Option.some.injEq, Prod.mk.injEq] at H
        obtain ⟨rfl, rfl⟩ := H
        go_wp2
        repeat (go_quiet (fail); try go_wp2)
        go_ret2
        exact ⟨by first | rfl | (simp; done) | (simp [*]; done), by repeat (first | exact Drawn0.refl _ | apply Drawn0.step)⟩

/-! ### tesseraref3_Meet: function 79 -/
mutual
def tesseraref3_Meet.l0 : Nat → List (S94) → List (S94) → Int → Option (Int × Bool)
  | 0, _, _, _ => none
  | k + 1, x0, x1, x6 => if x6 < (x0.length : Int) then (tesseraref3_Meet.l1 k x0 x1 x6 0) else (some (0, false))
def tesseraref3_Meet.l1 : Nat → List (S94) → List (S94) → Int → Int → Option (Int × Bool)
  | 0, _, _, _, _ => none
  | k + 1, x0, x1, x6, x7 => if x7 < (x1.length : Int) then (if 0 ≤ x6 then (if x6 < (x0.length : Int) then (if 0 ≤ x7 then (if ((rd_T94 x1 x7).f0) > ((rd_T94 x0 x6).f0) then (tesseraref3_Meet.j2 k x0 x1 x6 x7 ((rd_T94 x1 x7).f0) ((rd_T94 x0 x6).f1)) else (tesseraref3_Meet.j2 k x0 x1 x6 x7 ((rd_T94 x0 x6).f0) ((rd_T94 x0 x6).f1))) else (none)) else (none)) else (none)) else (tesseraref3_Meet.l0 k x0 x1 (wrap64 (x6 + 1)))
def tesseraref3_Meet.j2 : Nat → List (S94) → List (S94) → Int → Int → Int → Int → Option (Int × Bool)
  | 0, _, _, _, _, _, _ => none
  | k + 1, x0, x1, x6, x7, x8, x9 => if 0 ≤ x7 then (if x7 < (x1.length : Int) then (if ((rd_T94 x1 x7).f1) < x9 then (tesseraref3_Meet.j3 k x0 x1 x6 x7 x8 ((rd_T94 x1 x7).f1)) else (tesseraref3_Meet.j3 k x0 x1 x6 x7 x8 x9)) else (none)) else (none)
def tesseraref3_Meet.j3 : Nat → List (S94) → List (S94) → Int → Int → Int → Int → Option (Int × Bool)
  | 0, _, _, _, _, _, _ => none
  | k + 1, x0, x1, x6, x7, x8, x9 => if x8 ≤ x9 then ((tesseraref3_Rune.f x8).bind fun t133 => (if t133 = true then (some (x6, true)) else ((tesseraref3_Rune.f x9).bind fun t134 => (if t134 = true then (some (x6, true)) else (if x8 < 55296 then (if x9 > 57343 then (some (x6, true)) else (tesseraref3_Meet.l1 k x0 x1 x6 (wrap64 (x7 + 1)))) else (tesseraref3_Meet.l1 k x0 x1 x6 (wrap64 (x7 + 1)))))))) else (tesseraref3_Meet.l1 k x0 x1 x6 (wrap64 (x7 + 1)))
end
def tesseraref3_Meet.f (k : Nat) (l0 : List (S94)) (l1 : List (S94)) : Option (Int × Bool) := tesseraref3_Meet.l0 k l0 l1 0
theorem tesseraref3_Meet.mono_l : ∀ k, (∀ y0 y1 y2, LeO (tesseraref3_Meet.l0 k y0 y1 y2) (tesseraref3_Meet.l0 (k + 1) y0 y1 y2)) ∧ (∀ y0 y1 y2 y3, LeO (tesseraref3_Meet.l1 k y0 y1 y2 y3) (tesseraref3_Meet.l1 (k + 1) y0 y1 y2 y3)) ∧ (∀ y0 y1 y2 y3 y4 y5, LeO (tesseraref3_Meet.j2 k y0 y1 y2 y3 y4 y5) (tesseraref3_Meet.j2 (k + 1) y0 y1 y2 y3 y4 y5)) ∧ (∀ y0 y1 y2 y3 y4 y5, LeO (tesseraref3_Meet.j3 k y0 y1 y2 y3 y4 y5) (tesseraref3_Meet.j3 (k + 1) y0 y1 y2 y3 y4 y5))
  | 0 => ⟨fun _ _ _ r h => by simp [tesseraref3_Meet.l0] at h, fun _ _ _ _ r h => by simp [tesseraref3_Meet.l1] at h, fun _ _ _ _ _ _ r h => by simp [tesseraref3_Meet.j2] at h, fun _ _ _ _ _ _ r h => by simp [tesseraref3_Meet.j3] at h⟩
  | k + 1 => by
    obtain ⟨ih0, ih1, ih2, ih3⟩ := tesseraref3_Meet.mono_l k
    refine ⟨?_, ?_, ?_, ?_⟩
    · intro y0 y1 y2
      unfold tesseraref3_Meet.l0
      repeat' first
      | (with_reducible exact ih0 _ _ _)
      | (with_reducible exact ih1 _ _ _ _)
      | (with_reducible exact ih2 _ _ _ _ _ _)
      | (with_reducible exact ih3 _ _ _ _ _ _)
      | (with_reducible exact LeO.refl _)
      | (with_reducible exact LeO.none _)
      | (with_reducible refine LeO.ite ?_ ?_)
      | (with_reducible refine LeO.bind ?_ (fun _ => ?_))
      | exact ih0 _ _ _
      | exact ih1 _ _ _ _
      | exact ih2 _ _ _ _ _ _
      | exact ih3 _ _ _ _ _ _
      | exact LeO.none _
      | refine LeO.ite ?_ ?_
      | refine LeO.bind ?_ (fun _ => ?_)
    · intro y0 y1 y2 y3
      unfold tesseraref3_Meet.l1
      repeat' first
      | (with_reducible exact ih0 _ _ _)
      | (with_reducible exact ih1 _ _ _ _)
      | (with_reducible exact ih2 _ _ _ _ _ _)
      | (with_reducible exact ih3 _ _ _ _ _ _)
      | (with_reducible exact LeO.refl _)
      | (with_reducible exact LeO.none _)
      | (with_reducible refine LeO.ite ?_ ?_)
      | (with_reducible refine LeO.bind ?_ (fun _ => ?_))
      | exact ih0 _ _ _
      | exact ih1 _ _ _ _
      | exact ih2 _ _ _ _ _ _
      | exact ih3 _ _ _ _ _ _
      | exact LeO.none _
      | refine LeO.ite ?_ ?_
      | refine LeO.bind ?_ (fun _ => ?_)
    · intro y0 y1 y2 y3 y4 y5
      unfold tesseraref3_Meet.j2
      repeat' first
      | (with_reducible exact ih0 _ _ _)
      | (with_reducible exact ih1 _ _ _ _)
      | (with_reducible exact ih2 _ _ _ _ _ _)
      | (with_reducible exact ih3 _ _ _ _ _ _)
      | (with_reducible exact LeO.refl _)
      | (with_reducible exact LeO.none _)
      | (with_reducible refine LeO.ite ?_ ?_)
      | (with_reducible refine LeO.bind ?_ (fun _ => ?_))
      | exact ih0 _ _ _
      | exact ih1 _ _ _ _
      | exact ih2 _ _ _ _ _ _
      | exact ih3 _ _ _ _ _ _
      | exact LeO.none _
      | refine LeO.ite ?_ ?_
      | refine LeO.bind ?_ (fun _ => ?_)
    · intro y0 y1 y2 y3 y4 y5
      unfold tesseraref3_Meet.j3
      repeat' first
      | (with_reducible exact ih0 _ _ _)
      | (with_reducible exact ih1 _ _ _ _)
      | (with_reducible exact ih2 _ _ _ _ _ _)
      | (with_reducible exact ih3 _ _ _ _ _ _)
      | (with_reducible exact LeO.refl _)
      | (with_reducible exact LeO.none _)
      | (with_reducible refine LeO.ite ?_ ?_)
      | (with_reducible refine LeO.bind ?_ (fun _ => ?_))
      | exact ih0 _ _ _
      | exact ih1 _ _ _ _
      | exact ih2 _ _ _ _ _ _
      | exact ih3 _ _ _ _ _ _
      | exact LeO.none _
      | refine LeO.ite ?_ ?_
      | refine LeO.bind ?_ (fun _ => ?_)
theorem tesseraref3_Meet.mono : ∀ a0 a1 k, LeO (tesseraref3_Meet.f k a0 a1) (tesseraref3_Meet.f (k + 1) a0 a1) := by
  intro a0 a1 k
  obtain ⟨ih0, ih1, ih2, ih3⟩ := tesseraref3_Meet.mono_l k
  unfold tesseraref3_Meet.f
  repeat' first
      | (with_reducible exact ih0 _ _ _)
      | (with_reducible exact ih1 _ _ _ _)
      | (with_reducible exact ih2 _ _ _ _ _ _)
      | (with_reducible exact ih3 _ _ _ _ _ _)
      | (with_reducible exact LeO.refl _)
      | (with_reducible exact LeO.none _)
      | (with_reducible refine LeO.ite ?_ ?_)
      | (with_reducible refine LeO.bind ?_ (fun _ => ?_))
      | exact ih0 _ _ _
      | exact ih1 _ _ _ _
      | exact ih2 _ _ _ _ _ _
      | exact ih3 _ _ _ _ _ _
      | exact LeO.none _
      | refine LeO.ite ?_ ?_
      | refine LeO.bind ?_ (fun _ => ?_)
set_option maxHeartbeats 8000000 in
set_option maxRecDepth 100000 in
theorem tesseraref3_Meet.calls (k : Nat) (A0 : Option Addr) (c0 : Nat) (l0 : List (S94)) (A1 : Option Addr) (c1 : Nat) (l1 : List (S94)) (r1 : Int) (r2 : Bool) (w : World) (hr0 : Kd.C k94 w A0 l0.length l0) (hc0 : l0.length ≤ c0) (hr1 : Kd.C k94 w A1 l1.length l1) (hc1 : l1.length ≤ c1) (h : tesseraref3_Meet.f k l0 l1 = some (r1, r2)) :
    Calls Try.prog 79 #[.slice A0 l0.length c0, .slice A1 l1.length c1] w fun e w' => e = .returned (.tuple #[.int .i64 r1, .bool r2]) ∧ Drawn0 w w' := by
  have HR0 := Aside0.mk hr0
  have HC0 := Aside0.mk hc0
  clear hr0 hc0
  have HR1 := Aside0.mk hr1
  have HC1 := Aside0.mk hc1
  clear hr1 hc1
  have H : (tesseraref3_Meet.l0 k l0 l1 0) = some (r1, r2) := h
  clear h
  have H' := Aside0.mk H
  clear H
  go_enter Try.func79, Try.ntmps79
  go_wp2
  go_loopg [6] k (fun kq v6 w' => ∃ (x6_1 : Int), v6 = .int .i64 x6_1 ∧ Aside0 (tesseraref3_Meet.l0 kq l0 l1 x6_1 = some (r1, r2)) ∧ Aside0 (kq ≤ k) ∧ Drawn0 w w')
  case atStart => exact ⟨(0), (by first | rfl | (simp; done) | (simp [*]; done)), H', ⟨Nat.le_refl _⟩, by repeat (first | exact Drawn0.refl _ | apply Drawn0.step)⟩
  case round =>
    clear H'
    try clear c1
    try clear p2
    obtain ⟨x6_1, rfl, HA, HK1, ⟨m1, rfl⟩⟩ := hrel
    cases gk with
    | zero => exact absurd HA.out (by simp [tesseraref3_Meet.l0])
    | succ k1 =>
      have H := HA.out
      clear HA
      simp only [tesseraref3_Meet.l0] at H
      by_cases c3 : x6_1 < (l0.length : Int)
      · rw [if_pos c3] at H
        have c3b0 : decide (x6_1 < (l0.length : Int)) = true := decide_eq_true c3
        clear c3
        have H' := Aside0.mk H
        clear H
        go_wp2
        go_loopg [7] k1 (fun kq v7 w' => ∃ (x7_2 : Int), v7 = .int .i64 x7_2 ∧ Aside0 (tesseraref3_Meet.l1 kq l0 l1 x6_1 x7_2 = some (r1, r2)) ∧ Aside0 (kq ≤ k1) ∧ Drawn0 w w')
        case atStart => exact ⟨(0), (by first | rfl | (simp; done) | (simp [*]; done)), H', ⟨Nat.le_refl _⟩, by repeat (first | exact Drawn0.refl _ | apply Drawn0.step)⟩
        case round =>
          clear H'
          try clear c1
          try clear p2
          try clear c3
          try clear c3b0
          try clear p2
          obtain ⟨x7_2, rfl, HA, HK2, ⟨m2, rfl⟩⟩ := hrel
          cases gk with
          | zero => exact absurd HA.out (by simp [tesseraref3_Meet.l1])
          | succ k2 =>
            have H := HA.out
            clear HA
            simp only [tesseraref3_Meet.l1] at H
            by_cases c4 : x7_2 < (l1.length : Int)
            · rw [if_pos c4] at H
              have c4b0 : decide (x7_2 < (l1.length : Int)) = true := decide_eq_true c4
              clear c4
              by_cases c5 : 0 ≤ x6_1
              · rw [if_pos c5] at H
                have c5b0 : decide (0 ≤ x6_1) = true := decide_eq_true c5
                clear c5
                by_cases c6 : x6_1 < (l0.length : Int)
                · rw [if_pos c6] at H
                  have c6b0 : decide (x6_1 < (l0.length : Int)) = true := decide_eq_true c6
                  clear c6
                  by_cases c7 : 0 ≤ x7_2
                  · rw [if_pos c7] at H
                    have c7b0 : decide (0 ≤ x7_2) = true := decide_eq_true c7
                    clear c7
                    have HC8 := Aside0.mk H
                    clear H
                    have p127 : 0 ≤ (x6_1 : Int) := of_decide_eq_true (by first | (with_reducible assumption) | assumption)
                    have q127 : x6_1 < (l0.length : Int) := of_decide_eq_true (by first | (with_reducible assumption) | assumption)
                    obtain ⟨ad127, e127, hx127_0, hx127_1⟩ := at_T94 HR0.out x6_1 p127 q127
                    cases e127
                    replace p127 := eq_true p127
                    replace q127 := eq_true q127
                    have p128 : 0 ≤ (x6_1 : Int) := of_decide_eq_true (by first | (with_reducible assumption) | assumption)
                    have q128 : x6_1 < (l0.length : Int) := of_decide_eq_true (by first | (with_reducible assumption) | assumption)
                    obtain ⟨ad128, e128, hx128_0, hx128_1⟩ := at_T94 HR0.out x6_1 p128 q128
                    obtain rfl : ad127 = ad128 := (by injection e128)
                    replace p128 := eq_true p128
                    replace q128 := eq_true q128
                    have p129 : 0 ≤ (x7_2 : Int) := of_decide_eq_true (by first | (with_reducible assumption) | assumption)
                    have q129 : x7_2 < (l1.length : Int) := of_decide_eq_true (by first | (with_reducible assumption) | assumption)
                    obtain ⟨ad129, e129, hx129_0, hx129_1⟩ := at_T94 HR1.out x7_2 p129 q129
                    cases e129
                    replace p129 := eq_true p129
                    replace q129 := eq_true q129
                    go_upto_if 38 with (fail)
                    go_cut [8] (fun v8 wc => ∃ (kq : Nat) (x8_7 : Int), v8 = .int .i32 x8_7 ∧ Aside0 (tesseraref3_Meet.j2 kq l0 l1 x6_1 x7_2 x8_7 ((rd_T94 l0 x6_1).f1) = some (r1, r2)) ∧ Aside0 (kq ≤ k2) ∧ Drawn0 w wc)
                    case first =>
                      have H := HC8.out
                      clear HC8
                      by_cases c9 : ((rd_T94 l1 x7_2).f0) > ((rd_T94 l0 x6_1).f0)
                      · rw [if_pos c9] at H
                        have c9b0 : decide (((rd_T94 l0 x6_1).f0) < ((rd_T94 l1 x7_2).f0)) = true := decide_eq_true c9
                        clear c9
                        (first | rw [c9b0] | (simp only [i64_w, i32_w]; rw [c9b0]) | skip)
                        have H' := Aside0.mk H
                        clear H
                        have p130 : 0 ≤ (x7_2 : Int) := of_decide_eq_true (by first | (with_reducible assumption) | assumption)
                        have q130 : x7_2 < (l1.length : Int) := of_decide_eq_true (by first | (with_reducible assumption) | assumption)
                        obtain ⟨ad130, e130, hx130_0, hx130_1⟩ := at_T94 HR1.out x7_2 p130 q130
                        obtain rfl : ad129 = ad130 := (by injection e130)
                        replace p130 := eq_true p130
                        replace q130 := eq_true q130
                        go_wp2
                        go_meet
                        case rel => exact ⟨_, ((rd_T94 l1 x7_2).f0), (by first | rfl | (simp; done) | (simp [*]; done)), H', ⟨by have := HK1.out; have := HK2.out; first | omega | exact Nat.le_refl _⟩, by repeat (first | exact Drawn0.refl _ | apply Drawn0.step)⟩
                      · rw [if_neg c9] at H
                        have c9b0 : decide (((rd_T94 l0 x6_1).f0) < ((rd_T94 l1 x7_2).f0)) = false := decide_eq_false c9
                        clear c9
                        (first | rw [c9b0] | (simp only [i64_w, i32_w]; rw [c9b0]) | skip)
                        have H' := Aside0.mk H
                        clear H
                        go_wp2
                        go_meet
                        case rel => exact ⟨_, ((rd_T94 l0 x6_1).f0), (by first | rfl | (simp; done) | (simp [*]; done)), H', ⟨by have := HK1.out; have := HK2.out; first | omega | exact Nat.le_refl _⟩, by repeat (first | exact Drawn0.refl _ | apply Drawn0.step)⟩
                    case rest =>
                      clear HC8
                      try clear c1
                      try clear p1
                      try clear q1
                      try clear hx1
                      try clear p2
                      try clear c3
                      try clear c3b0
                      try clear c4
                      try clear c4b0
                      try clear c5
                      try clear c5b0
                      try clear c6
                      try clear c6b0
                      try clear c7
                      try clear c7b0
                      try clear c9
                      try clear c9b0
                      try clear hx127_0
                      try clear hx127_1
                      try clear hx128_0
                      try clear hx128_1
                      try clear hx129_0
                      try clear hx129_1
                      try clear hx130_0
                      try clear hx130_1
                      try clear p127
                      try clear p128
                      try clear p129
                      try clear p130
                      try clear p2
                      try clear q127
                      try clear q128
                      try clear q129
                      try clear q130
                      obtain ⟨kq, x8_7, rfl, HA, HJ7, ⟨mc7, rfl⟩⟩ := hcut
                      cases kq with
                      | zero => exact absurd HA.out (by simp [tesseraref3_Meet.j2])
                      | succ kj7 =>
                        have H := HA.out
                        clear HA
                        simp only [tesseraref3_Meet.j2] at H
                        by_cases c10 : 0 ≤ x7_2
                        · rw [if_pos c10] at H
                          have c10b0 : decide (0 ≤ x7_2) = true := decide_eq_true c10
                          clear c10
                          by_cases c11 : x7_2 < (l1.length : Int)
                          · rw [if_pos c11] at H
                            have c11b0 : decide (x7_2 < (l1.length : Int)) = true := decide_eq_true c11
                            clear c11
                            have HC12 := Aside0.mk H
                            clear H
                            have p131 : 0 ≤ (x7_2 : Int) := of_decide_eq_true (by first | (with_reducible assumption) | assumption)
                            have q131 : x7_2 < (l1.length : Int) := of_decide_eq_true (by first | (with_reducible assumption) | assumption)
                            obtain ⟨ad131, e131, hx131_0, hx131_1⟩ := at_T94 HR1.out x7_2 p131 q131
                            obtain rfl : ad129 = ad131 := (by injection e131)
                            replace p131 := eq_true p131
                            replace q131 := eq_true q131
                            go_upto_if 50 with (fail)
                            go_cut [9] (fun v9 wc => ∃ (kq : Nat) (x9_11 : Int), v9 = .int .i32 x9_11 ∧ Aside0 (tesseraref3_Meet.j3 kq l0 l1 x6_1 x7_2 x8_7 x9_11 = some (r1, r2)) ∧ Aside0 (kq ≤ kj7) ∧ Drawn0 w wc)
                            case first =>
                              have H := HC12.out
                              clear HC12
                              by_cases c13 : ((rd_T94 l1 x7_2).f1) < ((rd_T94 l0 x6_1).f1)
                              · rw [if_pos c13] at H
                                have c13b0 : decide (((rd_T94 l1 x7_2).f1) < ((rd_T94 l0 x6_1).f1)) = true := decide_eq_true c13
                                clear c13
                                (first | rw [c13b0] | (simp only [i64_w, i32_w]; rw [c13b0]) | skip)
                                have H' := Aside0.mk H
                                clear H
                                have p132 : 0 ≤ (x7_2 : Int) := of_decide_eq_true (by first | (with_reducible assumption) | assumption)
                                have q132 : x7_2 < (l1.length : Int) := of_decide_eq_true (by first | (with_reducible assumption) | assumption)
                                obtain ⟨ad132, e132, hx132_0, hx132_1⟩ := at_T94 HR1.out x7_2 p132 q132
                                obtain rfl : ad129 = ad132 := (by injection e132)
                                replace p132 := eq_true p132
                                replace q132 := eq_true q132
                                go_wp2
                                go_meet
                                case rel => exact ⟨_, ((rd_T94 l1 x7_2).f1), (by first | rfl | (simp; done) | (simp [*]; done)), H', ⟨by have := HK1.out; have := HK2.out; have := HJ7.out; first | omega | exact Nat.le_refl _⟩, by repeat (first | exact Drawn0.refl _ | apply Drawn0.step)⟩
                              · rw [if_neg c13] at H
                                have c13b0 : decide (((rd_T94 l1 x7_2).f1) < ((rd_T94 l0 x6_1).f1)) = false := decide_eq_false c13
                                clear c13
                                (first | rw [c13b0] | (simp only [i64_w, i32_w]; rw [c13b0]) | skip)
                                have H' := Aside0.mk H
                                clear H
                                go_wp2
                                go_meet
                                case rel => exact ⟨_, (((rd_T94 l0 x6_1).f1)), (by first | rfl | (simp; done) | (simp [*]; done)), H', ⟨by have := HK1.out; have := HK2.out; have := HJ7.out; first | omega | exact Nat.le_refl _⟩, by repeat (first | exact Drawn0.refl _ | apply Drawn0.step)⟩
                            case rest =>
                              clear HC12
                              try clear c1
                              try clear p1
                              try clear q1
                              try clear hx1
                              try clear p2
                              try clear c3
                              try clear c3b0
                              try clear c4
                              try clear c4b0
                              try clear c5
                              try clear c5b0
                              try clear c6
                              try clear c6b0
                              try clear c7
                              try clear c7b0
                              try clear c9
                              try clear c9b0
                              try clear c10
                              try clear c10b0
                              try clear c11
                              try clear c11b0
                              try clear p12
                              try clear q12
                              try clear hx12
                              try clear c13
                              try clear c13b0
                              try clear p13
                              try clear q13
                              try clear hx13
                              try clear hx127_0
                              try clear hx127_1
                              try clear hx128_0
                              try clear hx128_1
                              try clear hx129_0
                              try clear hx129_1
                              try clear hx130_0
                              try clear hx130_1
                              try clear hx131_0
                              try clear hx131_1
                              try clear hx132_0
                              try clear hx132_1
                              try clear p1
                              try clear p127
                              try clear p128
                              try clear p129
                              try clear p130
                              try clear p131
                              try clear p132
                              try clear p2
                              try clear q1
                              try clear q127
                              try clear q128
                              try clear q129
                              try clear q130
                              try clear q131
                              try clear q132
                              obtain ⟨kq, x9_11, rfl, HA, HJ11, ⟨mc11, rfl⟩⟩ := hcut
                              cases kq with
                              | zero => exact absurd HA.out (by simp [tesseraref3_Meet.j3])
                              | succ kj11 =>
                                have H := HA.out
                                clear HA
                                simp only [tesseraref3_Meet.j3] at H
                                by_cases c14 : x8_7 ≤ x9_11
                                · rw [if_pos c14] at H
                                  have c14b0 : decide (x8_7 ≤ x9_11) = true := decide_eq_true c14
                                  clear c14
                                  replace H := Option.bind_eq_some_iff.mp H
                                  obtain ⟨t133, A150, H⟩ := H
                                  replace H : (if t133 = true then (some (x6_1, true)) else ((tesseraref3_Rune.f x9_11).bind fun t134 => (if t134 = true then (some (x6_1, true)) else (if x8_7 < 55296 then (if x9_11 > 57343 then (some (x6_1, true)) else (tesseraref3_Meet.l1 kj11 l0 l1 x6_1 (wrap64 (x7_2 + 1)))) else (tesseraref3_Meet.l1 kj11 l0 l1 x6_1 (wrap64 (x7_2 + 1))))))) = some (r1, r2) := H
                                  have A15 := Aside0.mk A150
                                  clear A150
                                  by_cases c16 : t133 = true
                                  · subst c16
                                    have H1 : (some (x6_1, true)) = some (r1, r2) := by rw [if_pos rfl] at H; exact H
                                    clear H
                                    have H := H1
                                    clear H1
                                    simp only [Option.some.injEq, Prod.mk.injEq] at H
                                    obtain ⟨rfl, rfl⟩ := H
                                    go_wp2_with (first | (go_at_call 92; (with_reducible refine (tesseraref3_Rune.calls x8_7 true _ A15.out).mono ?_); rintro e w' ⟨rfl, ⟨nd, rfl⟩⟩))
                                    go_ret2
                                    exact ⟨by first | rfl | (simp; done) | (simp [*]; done), by repeat (first | exact Drawn0.refl _ | apply Drawn0.step)⟩
                                  · replace c16 := Bool.eq_false_iff.mpr c16
                                    subst c16
                                    have H1 : ((tesseraref3_Rune.f x9_11).bind fun t134 => (if t134 = true then (some (x6_1, true)) else (if x8_7 < 55296 then (if x9_11 > 57343 then (some (x6_1, true)) else (tesseraref3_Meet.l1 kj11 l0 l1 x6_1 (wrap64 (x7_2 + 1)))) else (tesseraref3_Meet.l1 kj11 l0 l1 x6_1 (wrap64 (x7_2 + 1)))))) = some (r1, r2) := by rw [if_neg (show ¬ (false = true) by decide)] at H; exact H
                                    clear H
                                    have H := H1
                                    clear H1
                                    replace H := Option.bind_eq_some_iff.mp H
                                    obtain ⟨t134, A170, H⟩ := H
                                    replace H : (if t134 = true then (some (x6_1, true)) else (if x8_7 < 55296 then (if x9_11 > 57343 then (some (x6_1, true)) else (tesseraref3_Meet.l1 kj11 l0 l1 x6_1 (wrap64 (x7_2 + 1)))) else (tesseraref3_Meet.l1 kj11 l0 l1 x6_1 (wrap64 (x7_2 + 1))))) = some (r1, r2) := H
                                    have A17 := Aside0.mk A170
                                    clear A170
                                    by_cases c18 : t134 = true
                                    · subst c18
                                      have H1 : (some (x6_1, true)) = some (r1, r2) := by rw [if_pos rfl] at H; exact H
                                      clear H
                                      have H := H1
                                      clear H1
                                      simp only [Option.some.injEq, Prod.mk.injEq] at H
                                      obtain ⟨rfl, rfl⟩ := H
                                      go_wp2_with (first | (go_at_call 92; (with_reducible refine (tesseraref3_Rune.calls x8_7 false _ A15.out).mono ?_); rintro e w' ⟨rfl, ⟨nd, rfl⟩⟩) | (go_at_call 92; (with_reducible refine (tesseraref3_Rune.calls x9_11 true _ A17.out).mono ?_); rintro e w' ⟨rfl, ⟨nd, rfl⟩⟩))
                                      go_ret2
                                      exact ⟨by first | rfl | (simp; done) | (simp [*]; done), by repeat (first | exact Drawn0.refl _ | apply Drawn0.step)⟩
                                    · replace c18 := Bool.eq_false_iff.mpr c18
                                      subst c18
                                      have H1 : (if x8_7 < 55296 then (if x9_11 > 57343 then (some (x6_1, true)) else (tesseraref3_Meet.l1 kj11 l0 l1 x6_1 (wrap64 (x7_2 + 1)))) else (tesseraref3_Meet.l1 kj11 l0 l1 x6_1 (wrap64 (x7_2 + 1)))) = some (r1, r2) := by rw [if_neg (show ¬ (false = true) by decide)] at H; exact H
                                      clear H
                                      have H := H1
                                      clear H1
                                      by_cases c19 : x8_7 < 55296
                                      · rw [if_pos c19] at H
                                        have c19b0 : decide (x8_7 < 55296) = true := decide_eq_true c19
                                        clear c19
                                        by_cases c20 : x9_11 > 57343
                                        · rw [if_pos c20] at H
                                          have c20b0 : decide (57343 < x9_11) = true := decide_eq_true c20
                                          clear c20
                                          simp only [Option.some.injEq, Prod.mk.injEq] at H
                                          obtain ⟨rfl, rfl⟩ := H
                                          go_wp2_with (first | (go_at_call 92; (with_reducible refine (tesseraref3_Rune.calls x8_7 false _ A15.out).mono ?_); rintro e w' ⟨rfl, ⟨nd, rfl⟩⟩) | (go_at_call 92; (with_reducible refine (tesseraref3_Rune.calls x9_11 false _ A17.out).mono ?_); rintro e w' ⟨rfl, ⟨nd, rfl⟩⟩))
                                          go_ret2
                                          exact ⟨by first | rfl | (simp; done) | (simp [*]; done), by repeat (first | exact Drawn0.refl _ | apply Drawn0.step)⟩
                                        · rw [if_neg c20] at H
                                          have c20b0 : decide (57343 < x9_11) = false := decide_eq_false c20
                                          clear c20
                                          have H' := Aside0.mk H
                                          clear H
                                          go_wp2_with (first | (go_at_call 92; (with_reducible refine (tesseraref3_Rune.calls x8_7 false _ A15.out).mono ?_); rintro e w' ⟨rfl, ⟨nd, rfl⟩⟩) | (go_at_call 92; (with_reducible refine (tesseraref3_Rune.calls x9_11 false _ A17.out).mono ?_); rintro e w' ⟨rfl, ⟨nd, rfl⟩⟩))
                                          go_roundg kj11
                                          case measure => have := HK1.out; have := HK2.out; have := HJ7.out; have := HJ11.out; omega
                                          case rel => exact ⟨(wrap64 (x7_2 + 1)), (by first | rfl | (simp; done) | (simp [*]; done)), H', ⟨by have := HK1.out; have := HK2.out; have := HJ7.out; have := HJ11.out; omega⟩, by repeat (first | exact Drawn0.refl _ | apply Drawn0.step)⟩
                                      · rw [if_neg c19] at H
                                        have c19b0 : decide (x8_7 < 55296) = false := decide_eq_false c19
                                        clear c19
                                        have H' := Aside0.mk H
                                        clear H
                                        go_wp2_with (first | (go_at_call 92; (with_reducible refine (tesseraref3_Rune.calls x8_7 false _ A15.out).mono ?_); rintro e w' ⟨rfl, ⟨nd, rfl⟩⟩) | (go_at_call 92; (with_reducible refine (tesseraref3_Rune.calls x9_11 false _ A17.out).mono ?_); rintro e w' ⟨rfl, ⟨nd, rfl⟩⟩))
                                        go_roundg kj11
                                        case measure => have := HK1.out; have := HK2.out; have := HJ7.out; have := HJ11.out; omega
                                        case rel => exact ⟨(wrap64 (x7_2 + 1)), (by first | rfl | (simp; done) | (simp [*]; done)), H', ⟨by have := HK1.out; have := HK2.out; have := HJ7.out; have := HJ11.out; omega⟩, by repeat (first | exact Drawn0.refl _ | apply Drawn0.step)⟩
                                · rw [if_neg c14] at H
                                  have c14b0 : decide (x8_7 ≤ x9_11) = false := decide_eq_false c14
                                  clear c14
                                  have H' := Aside0.mk H
                                  clear H
                                  go_wp2
                                  go_roundg kj11
                                  case measure => have := HK1.out; have := HK2.out; have := HJ7.out; have := HJ11.out; omega
                                  case rel => exact ⟨(wrap64 (x7_2 + 1)), (by first | rfl | (simp; done) | (simp [*]; done)), H', ⟨by have := HK1.out; have := HK2.out; have := HJ7.out; have := HJ11.out; omega⟩, by repeat (first | exact Drawn0.refl _ | apply Drawn0.step)⟩
                          · rw [if_neg c11] at H
                            exact absurd H (by simp)
                        · rw [if_neg c10] at H
                          exact absurd H (by simp)
                  · rw [if_neg c7] at H
                    exact absurd H (by simp)
                · rw [if_neg c6] at H
                  exact absurd H (by simp)
              · rw [if_neg c5] at H
                exact absurd H (by simp)
            · rw [if_neg c4] at H
              have c4b0 : decide (x7_2 < (l1.length : Int)) = false := decide_eq_false c4
              clear c4
              have H' := Aside0.mk H
              clear H
              go_wp2
              go_roundg k2
              case measure => have := HK1.out; have := HK2.out; omega
              case rel => exact ⟨(wrap64 (x6_1 + 1)), (by first | rfl | (simp; done) | (simp [*]; done)), H', ⟨by have := HK1.out; have := HK2.out; omega⟩, by repeat (first | exact Drawn0.refl _ | apply Drawn0.step)⟩
      · rw [if_neg c3] at H
        have c3b0 : decide (x6_1 < (l0.length : Int)) = false := decide_eq_false c3
        clear c3
        simp only [Option.some.injEq, Prod.mk.injEq] at H
        obtain ⟨rfl, rfl⟩ := H
        go_wp2
        go_ret2
        exact ⟨by first | rfl | (simp; done) | (simp [*]; done), by repeat (first | exact Drawn0.refl _ | apply Drawn0.step)⟩

end Go.Proofs.Ytbepmbihonnkaaa.PPruneDown
