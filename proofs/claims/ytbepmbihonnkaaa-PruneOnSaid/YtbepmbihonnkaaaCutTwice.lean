/- Cut down twice; cut down to all. -/
import Derived.Test.YtbepmbihonnkaaaCutPure
namespace Go.Proofs.Ytbepmbihonnkaaa.Sl
open Go.Proofs.Ytbepmbihonnkaaa.Lib
set_option linter.unusedVariables false
set_option linter.unusedSimpArgs false

section
variable {d : Dat} (hd : RightD d)
include hd in
/-- The words, seen from the cut data. -/
theorem ren_cut (n i : Nat) (hnm : n ≤ d.ms.length) (hin : i ≤ n) : ∀ j, 256 ≤ j → j ≤ 256 + d.ms.length → (renGo (cutD d n) (i : Nat) (256 + (renGo d n j).2.length)).2 = (renGo d (i : Nat) j).2 := by
  have hq := cut_right hd n hnm
  have hl := hd.len
  intro j
  induction j with
  | zero => intro h; omega
  | succ j ih =>
    intro h0 h1
    by_cases hb : j < 256
    · have e1 : ∀ (d : Dat) (k : Int) (j : Nat), j ≤ 256 → (renGo d k j).2 = [] := by
        intro d k j
        induction j with
        | zero => intro _; rfl
        | succ j ih => intro h; rw [renGo_low d k (by omega)]; exact ih (by omega)
      rw [e1 d _ _ (by omega), e1 d _ _ (by omega)]
      exact e1 _ _ _ (by simp)
    · have ih := ih (by omega) (by omega)
      obtain ⟨r, x, hr, hx, hxi, hlt⟩ := hd.rank_ex (id := (j : Int)) (by omega) (by omega)
      have ex : x.i.toNat = j := by omega
      by_cases hn : r < n
      · obtain ⟨m1, m2, m3⟩ := nm_made hd n hx hn hnm
        have hqr : rankOf (cutD d n).ms (256 + ((renGo d n j).2.length : Int)) = some r := by
          rw [ex] at m1
          have := hq.rank_at (k := r) (x := ⟨nm d n x.l, nm d n x.r, nm d n x.i⟩) (by rw [cutD_ms, List.getElem?_map, List.getElem?_take, if_pos hn, hx]; rfl)
          rwa [show (⟨nm d n x.l, nm d n x.r, nm d n x.i⟩ : Mrg).i = 256 + ((renGo d n j).2.length : Int) from m1] at this
        rw [renGo_in d _ hb (by rw [hr]; simpa using hn)]
        simp only [List.length_append, List.length_singleton]
        rw [← Nat.add_assoc]
        have hcast : ((256 + (renGo d n j).2.length : Nat) : Int) = 256 + ((renGo d n j).2.length : Int) := by omega
        by_cases hi : r < i
        · rw [renGo_in (cutD d n) _ (by omega) (by rw [hcast, hqr]; simpa using hi), renGo_in d _ hb (by rw [hr]; simpa using hi)]
          simp only
          rw [ih, Nat.add_sub_cancel_left, cutD_ws]
          rw [ex] at m3
          rw [m3, show (x.i - 256).toNat = j - 256 by omega]
        · rw [renGo_out (cutD d n) _ (by omega) (by rw [hcast, hqr]; simpa using hi), renGo_out d _ hb (by rw [hr]; simpa using hi)]
          exact ih
      · rw [renGo_out d _ hb (by rw [hr]; simpa using hn), renGo_out d _ hb (by rw [hr]; simp; omega)]
        exact ih
include hd in
theorem nm_cut (n i : Nat) (hnm : n ≤ d.ms.length) (hin : i ≤ n) {id : Int} (h : madeB (d.ms.take i) id = true) : nm (cutD d n) i (nm d n id) = nm d i id := by
  have hq := cut_right hd n hnm
  rcases part_cases h with ⟨h0, h1⟩ | ⟨k, y, hk, hy, rfl⟩
  · rw [nm_byte n h0 h1, nm_byte i h0 h1, nm_byte i h0 h1]
  · have hr := hd.idr k y hy
    have hml : (cutD d n).ms.length = n := by rw [cutD_ms, List.length_map, List.length_take]; omega
    have hqy : (cutD d n).ms[k]? = some ⟨nm d n y.l, nm d n y.r, nm d n y.i⟩ := by rw [cutD_ms, List.getElem?_map, List.getElem?_take, if_pos (by omega), hy]; rfl
    have m1 := (nm_made hd n hy (by omega) hnm).1
    have m2 := (nm_made hd i hy hk (by omega)).1
    have m3 := (nm_made hq i hqy hk (by omega)).1
    simp only at m3
    rw [m3, m2, m1]
    have := ren_cut hd n i hnm hin y.i.toNat (by omega) (by omega)
    rw [show (256 + ((renGo d n y.i.toNat).2.length : Int)).toNat = 256 + (renGo d n y.i.toNat).2.length by omega, this]
include hd in
theorem cut_cut (n i : Nat) (hnm : n ≤ d.ms.length) (hin : i ≤ n) : cutD (cutD d n) i = cutD d i := by
  have hml : (cutD d n).ms.length = n := by rw [cutD_ms, List.length_map, List.length_take]; omega
  have hw : (cutD (cutD d n) i).ws = (cutD d i).ws := by
    rw [cutD_ws, cutD_ws, hml]
    have := ren_cut hd n i hnm hin (256 + d.ms.length) (by omega) (Nat.le_refl _)
    rwa [ren_total hd n hnm] at this
  have hm : (cutD (cutD d n) i).ms = (cutD d i).ms := by
    rw [show (cutD (cutD d n) i).ms = ((cutD d n).ms.take i).map (fun x => (⟨nm (cutD d n) i x.l, nm (cutD d n) i x.r, nm (cutD d n) i x.i⟩ : Mrg)) from rfl, cutD_take n i hin, List.map_map, cutD_ms]
    refine List.map_congr_left fun x hx => ?_
    obtain ⟨r, hr⟩ := List.getElem?_of_mem hx
    rw [List.getElem?_take] at hr
    by_cases hri : r < i
    · rw [if_pos hri] at hr
      simp only [Function.comp]
      rw [nm_cut hd n i hnm hin (made_le (hd.pl r x hr) (by omega)), nm_cut hd n i hnm hin (made_le (hd.pr r x hr) (by omega)), nm_cut hd n i hnm hin (nm_self hd i (by omega) hr hri)]
    · rw [if_neg hri] at hr; cases hr
  show ({ cutD (cutD d n) i with ws := (cutD (cutD d n) i).ws, ms := (cutD (cutD d n) i).ms } : Dat) = _
  rw [hw, hm]
  rfl
include hd in
theorem ren_all : ∀ j, j ≤ d.ms.length → (renGo d (d.ms.length : Nat) (256 + j)).2 = d.ws.take j := by
  have hl := hd.len
  intro j
  induction j with
  | zero =>
    intro _
    have e1 : ∀ (k : Int) (j : Nat), j ≤ 256 → (renGo d k j).2 = [] := by
      intro k j
      induction j with
      | zero => intro _; rfl
      | succ j ih => intro h; rw [renGo_low d k (by omega)]; exact ih (by omega)
    rw [e1 _ _ (by omega), List.take_zero]
  | succ j ih =>
    intro hj
    obtain ⟨r, x, hr, hx, hxi, hlt⟩ := hd.rank_ex (id := ((256 + j : Nat) : Int)) (by omega) (by omega)
    obtain ⟨s, hs⟩ : ∃ s, d.ws[j]? = some s := ⟨_, List.getElem?_eq_getElem (by omega)⟩
    rw [← Nat.add_assoc, renGo_in d _ (by omega) (by rw [hr]; simpa using hlt), ih (by omega), Nat.add_sub_cancel_left, hs, List.take_add_one, hs]
    rfl
include hd in
theorem nm_all {id : Int} (h : madeB d.ms id = true) : nm d d.ms.length id = id := by
  have h : madeB (d.ms.take d.ms.length) id = true := by rw [List.take_length]; exact h
  rcases part_cases h with ⟨h0, h1⟩ | ⟨k, y, hk, hy, rfl⟩
  · exact nm_byte _ h0 h1
  · have hr := hd.idr k y hy
    have hl := hd.len
    rw [(nm_made hd _ hy hk (Nat.le_refl _)).1]
    have := ren_all hd (y.i.toNat - 256) (by omega)
    rw [show 256 + (y.i.toNat - 256) = y.i.toNat by omega] at this
    rw [this, List.length_take]
    omega
include hd in
theorem cut_all : cutD d d.ms.length = d := by
  have hl := hd.len
  have hw : (cutD d d.ms.length).ws = d.ws := by
    rw [cutD_ws, ren_all hd _ (Nat.le_refl _), List.take_of_length_le (by omega)]
  have hm : (cutD d d.ms.length).ms = d.ms := by
    rw [cutD_ms, List.take_length]
    conv => rhs; rw [← List.map_id d.ms]
    refine List.map_congr_left fun x hx => ?_
    obtain ⟨r, hr⟩ := List.getElem?_of_mem hx
    have hlt := (List.getElem?_eq_some_iff.1 hr).1
    have full : ∀ {id : Int} {j : Nat}, j ≤ d.ms.length → madeB (d.ms.take j) id = true → madeB d.ms id = true := fun hj h => by
      have := made_le h hj
      rwa [List.take_length] at this
    have hs := nm_self hd d.ms.length (Nat.le_refl _) hr hlt
    rw [List.take_length] at hs
    rw [nm_all hd (full (by omega) (hd.pl r x hr)), nm_all hd (full (by omega) (hd.pr r x hr)), nm_all hd hs]
    rfl
  show ({ cutD d d.ms.length with ws := (cutD d d.ms.length).ws, ms := (cutD d d.ms.length).ms } : Dat) = _
  rw [hw, hm]
  rfl
end
theorem good_cut {d : Dat} (h : good d = true) {n : Nat} (hn : n ≤ d.ms.length) : good (cutD d n) = true := by
  have hf := good_few h
  have hml : (cutD d n).ms.length = n := by rw [cutD_ms, List.length_map, List.length_take]; omega
  unfold good large
  rw [cut_check h hn, hml, decide_eq_false (show ¬ 300 < n by omega)]
  rfl
theorem cut_len {d : Dat} {n : Nat} (hn : n ≤ d.ms.length) : (cutD d n).ms.length = n := by rw [cutD_ms, List.length_map, List.length_take]; omega
/-- Cut twice, with any numbers. -/
theorem cut_kc {d : Dat} (hd : RightD d) {k j : Int} (hk : 0 ≤ k) (hj : 0 ≤ j) : cutD (cutD d (kc d k)) (kc (cutD d (kc d k)) j) = cutD d (kc d (if j < k then j else k)) := by
  have h1 := kc_le d k
  have h2 := kc_le (cutD d (kc d k)) j
  have hl := cut_len h1
  rw [hl] at h2
  rw [cut_cut hd _ _ h1 h2]
  congr 1
  have e : ∀ (d : Dat) (k : Int), 0 ≤ k → ((kc d k : Nat) : Int) = if (d.ms.length : Int) < k then (d.ms.length : Int) else k := by
    intro d k hk
    unfold kc
    rw [if_neg (by omega)]
    by_cases h : (d.ms.length : Int) < k
    · rw [if_pos h, if_pos h]
    · rw [if_neg h, if_neg h]; omega
  have e1 := e (cutD d (kc d k)) j hj
  have e2 := e d (if j < k then j else k) (by split <;> omega)
  have e3 := e d k hk
  rw [hl] at e1
  have : ((kc (cutD d (kc d k)) j : Nat) : Int) = ((kc d (if j < k then j else k) : Nat) : Int) := by
    rw [e1, e2, e3]
    by_cases c1 : j < k
    · rw [if_pos c1]
      by_cases c2 : (d.ms.length : Int) < k
      · rw [if_pos c2]
      · rw [if_neg c2, if_neg (show ¬ k < j by omega)]
        by_cases c3 : (d.ms.length : Int) < j
        · omega
        · rw [if_neg c3]
    · rw [if_neg c1]
      by_cases c2 : (d.ms.length : Int) < k
      · rw [if_pos c2]
        by_cases c3 : (d.ms.length : Int) < j
        · rw [if_pos c3]
        · omega
      · rw [if_neg c2]
        by_cases c3 : k < j
        · rw [if_pos c3]
        · rw [if_neg c3]; omega
  omega
theorem kc_all (d : Dat) : kc d (d.ms.length : Int) = d.ms.length := by
  unfold kc
  rw [if_neg (by omega), if_neg (by omega)]
  omega
end Go.Proofs.Ytbepmbihonnkaaa.Sl
