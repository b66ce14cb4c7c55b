/- The document's next pre-token is the program's. -/
import Derived.Test.YtigpaaelggnffaaGreatDoorRef12P
namespace Go.Proofs.YtigpaaelggnffaaGreatDoor.R2
open Go.Proofs.YtigpaaelggnffaaGreatDoor.Lib Go.Proofs.YtigpaaelggnffaaGreatDoor.Sl Go.Proofs.YtigpaaelggnffaaGreatDoor.Cut
set_option linter.unusedVariables false
set_option linter.unusedSimpArgs false

theorem sum_full {s : ByteArray} {f k m : Nat} (hf : s.size - k ≤ f) (hk : k ≤ s.size) (hm : m ≤ (itemsGo s f k).length) : k + sumI (itemsGo s f k) m ≤ s.size ∧ (k + sumI (itemsGo s f k) m < s.size ↔ m < (itemsGo s f k).length) := by
  obtain ⟨f', e1, e2, e3⟩ := itemsGo_skip hf hk hm
  refine ⟨e3, fun h => ?_, fun h => ?_⟩
  · obtain ⟨f2, e4, _⟩ := itemsGo_cons h e2
    rw [e4] at e1
    have := congrArg List.length e1
    rw [List.length_drop, List.length_cons] at this
    omega
  · by_cases hl : k + sumI (itemsGo s f k) m < s.size
    · exact hl
    · rw [itemsGo_end (s := s) (f := f') (k := k + sumI (itemsGo s f k) m) (by omega)] at e1
      have := congrArg List.length e1
      rw [List.length_drop, List.length_nil] at this
      omega
theorem item_pos {s : ByteArray} {f k m : Nat} {x : Cut.Item} (hf : s.size - k ≤ f) (hk : k ≤ s.size) (h : (itemsGo s f k)[m]? = some x) : 1 ≤ x.n := by
  obtain ⟨h1, h2⟩ := items_at hf hk h
  have := itemAt_bd h1
  rw [← h2] at this
  exact this.1
theorem sum_ge {s : ByteArray} {f k : Nat} (hf : s.size - k ≤ f) (hk : k ≤ s.size) : ∀ m, m ≤ (itemsGo s f k).length → m ≤ sumI (itemsGo s f k) m
  | 0, _ => Nat.zero_le _
  | m + 1, h => by
    have hx : (itemsGo s f k)[m]? = some ((itemsGo s f k)[m]'(by omega)) := List.getElem?_eq_getElem _
    have ih := sum_ge hf hk m (by omega)
    have hp := item_pos hf hk hx
    rw [sumI_next hx]
    omega
theorem run_pos {d : Dat} {x : Cut.Item} {t : List Cut.Item} : 1 ≤ runI d (kindI d x) (x :: t) := by
  rw [runI_cons rfl]
  omega
theorem short_sum {s : ByteArray} {k f : Nat} (hk : k < s.size) (hf : s.size - k ≤ f) (h : 0 < shortI (itemsGo s f k)) : sumI (itemsGo s f k) (shortI (itemsGo s f k)) = shortI (itemsGo s f k) := by
  obtain ⟨f1, e1, g1⟩ := itemsGo_cons hk hf
  have hb := itemAt_bd hk
  rw [e1] at h ⊢
  by_cases hk1 : k + (itemAt s k).n < s.size
  · obtain ⟨f2, e2, g2⟩ := itemsGo_cons hk1 g1
    have hb1 := itemAt_bd hk1
    rw [e2] at h ⊢
    rw [shortI_two] at h ⊢
    by_cases h39 : isB (itemAt s k) 39 = true
    · rw [if_pos h39] at h ⊢
      have n1 := isB_one hk (by decide) h39
      by_cases h2 : isB (itemAt s (k + (itemAt s k).n)) 115 = true ∨ isB (itemAt s (k + (itemAt s k).n)) 116 = true ∨ isB (itemAt s (k + (itemAt s k).n)) 109 = true ∨ isB (itemAt s (k + (itemAt s k).n)) 100 = true
      · rw [if_pos h2]
        have n2 : (itemAt s (k + (itemAt s k).n)).n = 1 := by
          rcases h2 with h | h | h | h <;> exact isB_one hk1 (by decide) h
        rw [sumI_succ, sumI_succ, sumI_zero]
        omega
      · rw [if_neg h2] at h ⊢
        by_cases h3 : isB (itemAt s (k + (itemAt s k).n)) 114 = true ∨ isB (itemAt s (k + (itemAt s k).n)) 118 = true ∨ isB (itemAt s (k + (itemAt s k).n)) 108 = true
        · rw [if_pos h3] at h ⊢
          have n2 : (itemAt s (k + (itemAt s k).n)).n = 1 := by
            rcases h3 with h | h | h <;> exact isB_one hk1 (by decide) h
          by_cases hk2 : k + (itemAt s k).n + (itemAt s (k + (itemAt s k).n)).n < s.size
          · obtain ⟨f3, e3, g3⟩ := itemsGo_cons hk2 g2
            rw [e3] at h ⊢
            simp only at h ⊢
            by_cases h4 : isB (itemAt s (k + (itemAt s k).n)) 108 = true ∧ isB (itemAt s (k + (itemAt s k).n + (itemAt s (k + (itemAt s k).n)).n)) 108 = true ∨ isB (itemAt s (k + (itemAt s k).n)) 108 = false ∧ isB (itemAt s (k + (itemAt s k).n + (itemAt s (k + (itemAt s k).n)).n)) 101 = true
            · rw [if_pos h4]
              have n3 : (itemAt s (k + (itemAt s k).n + (itemAt s (k + (itemAt s k).n)).n)).n = 1 := by
                rcases h4 with h | h <;> exact isB_one hk2 (by decide) h.2
              rw [sumI_succ, sumI_succ, sumI_succ, sumI_zero]
              omega
            · rw [if_neg h4] at h
              omega
          · rw [itemsGo_end (s := s) (f := f2) (k := k + (itemAt s k).n + (itemAt s (k + (itemAt s k).n)).n) (by omega)] at h
            simp at h
        · rw [if_neg h3] at h
          omega
    · rw [if_neg h39] at h
      omega
  · rw [itemsGo_end (s := s) (f := f1) (k := k + (itemAt s k).n) (by omega)] at h
    simp [shortI] at h
theorem items_ext {s : ByteArray} {k f : Nat} (hk : k ≤ s.size) (hf : s.size - k ≤ f) : items (s.extract k s.size) = (itemsGo s f k).map (shiftI k) := by
  unfold items
  rw [itemsGo_ext hk]
  congr 1
  refine itemsGo_fuel ?_ hf
  rw [ByteArray.size_extract]
  omega
theorem runT_ext {d : Dat} {s : ByteArray} {k f : Nat} {x : Cut.Item} {t : List Cut.Item} (hk : k ≤ s.size) (hf : s.size - k ≤ f) (h : itemsGo s f k = x :: t) : (Cut.runT d (s.extract k s.size)).1 = sumI (x :: t) (runI d (kindI d x) (x :: t)) ∧ (Cut.runT d (s.extract k s.size)).2.2 = kindI d x ∧
    (Cut.runT d (s.extract k s.size)).2.1 = (match (t.take (runI d (kindI d x) t)).getLast? with | some y => y.n | none => x.n) := by
  unfold Cut.runT
  rw [items_ext hk hf, h, List.map_cons]
  simp only [kind_shift, runGo_shift]
  have := runGo_sum d (kindI d x) t x.n x.n
  rw [runI_cons rfl, sumI_succ]
  exact ⟨this.1, trivial, this.2⟩
theorem last_n {x : Cut.Item} {t : List Cut.Item} {m : Nat} (hm : m ≤ t.length) : ∃ y, (x :: t)[m]? = some y ∧ (match (t.take m).getLast? with | some y => y.n | none => x.n) = y.n := by
  cases m with
  | zero => exact ⟨x, rfl, by simp⟩
  | succ m =>
    have hx : t[m]? = some (t[m]'(by omega)) := List.getElem?_eq_getElem _
    refine ⟨t[m]'(by omega), by rw [List.getElem?_cons_succ]; exact hx, ?_⟩
    have : (t.take (m + 1)).getLast? = some (t[m]'(by omega)) := by
      rw [List.take_add_one, hx, Option.toList_some, List.getLast?_concat]
    rw [this]
theorem head_ext {s : ByteArray} {k : Nat} (hk : k < s.size) : (s.extract k s.size).data.toList.head? = some 32 ↔ bt s k = 32 := by
  have h := pre_iff (s := s) (k := k) (by omega) [32]
  have h2 : [32] <+: (s.extract k s.size).data.toList ↔ (s.extract k s.size).data.toList.head? = some 32 := by
    cases (s.extract k s.size).data.toList with
    | nil => simp
    | cons a l => simp [List.cons_prefix_cons, eq_comm]
  rw [← h2, h]
  constructor
  · intro h
    have := (h 0 (by simp)).2
    simpa using this
  · intro h i hi
    obtain rfl : i = 0 := by simpa using hi
    exact ⟨by omega, by simpa using h⟩
theorem kind32 {d : Dat} (hsp : kindOf d.ls d.ns d.ss 32 = 3) {s : ByteArray} {k : Nat} (hk : k < s.size) (h : isB (itemAt s k) 32 = true) : kindI d (itemAt s k) = 3 := by
  have hb := (isB_iff hk (by decide)).1 h
  have hlt : bt s k < 128 := by omega
  have e : kindI d ⟨k, 1, bt s k, false⟩ = kindOf d.ls d.ns d.ss ((bt s k : Nat) : Int) := if_neg (by simp)
  rw [item_one hk hlt, e, hb]
  exact hsp
theorem nextR_cons (d : Dat) (x : Cut.Item) (t : List Cut.Item) : nextR d (x :: t) =
    if 0 < shortI (x :: t) then (shortI (x :: t), 1)
    else if headSp d (x :: t) = true then (1 + runI d (kindI d (t.headD x)) t, sortT (kindI d (t.headD x)))
    else if kindI d x ≠ 3 then (runI d (kindI d x) (x :: t), sortT (kindI d x))
    else if runI d 3 (x :: t) < (x :: t).length ∧ 2 ≤ runI d 3 (x :: t) then (runI d 3 (x :: t) - 1, 5)
    else (runI d 3 (x :: t), 5) := rfl
set_option maxHeartbeats 1000000 in
/-- The document's next pre-token is the program's. -/
theorem next_eq {d : Dat} (hsp : kindOf d.ls d.ns d.ss 32 = 3) {s : ByteArray} {k f : Nat} (hk : k < s.size) (hf : s.size - k ≤ f) : nextT d (s.extract k s.size) = (sumI (itemsGo s f k) (nextR d (itemsGo s f k)).1, (nextR d (itemsGo s f k)).2) := by
  have hsh := short_eq hk hf
  obtain ⟨f1, e1, g1⟩ := itemsGo_cons hk hf
  have hb := itemAt_bd hk
  have hss := short_sum hk hf
  have hrun := runT_ext (d := d) (Nat.le_of_lt hk) hf e1
  have hz : (s.extract k s.size).size = s.size - k := by rw [ByteArray.size_extract]; omega
  have hfull := fun m => sum_full (m := m) hf (Nat.le_of_lt hk)
  have hge := sum_ge hf (Nat.le_of_lt hk)
  have hN : nextT d (s.extract k s.size) = if 0 < shortT (s.extract k s.size) then (shortT (s.extract k s.size), 1)
    else if (Cut.runT d (s.extract k s.size)).2.2 ≠ 3 then ((Cut.runT d (s.extract k s.size)).1, sortT (Cut.runT d (s.extract k s.size)).2.2)
    else if (s.extract k s.size).data.toList.head? = some 32 ∧ (Cut.runT d (s.extract k s.size)).1 = 1 ∧ 1 < (s.extract k s.size).size then (1 + (Cut.runT d ((s.extract k s.size).extract 1 (s.extract k s.size).size)).1, sortT (Cut.runT d ((s.extract k s.size).extract 1 (s.extract k s.size).size)).2.2)
    else if (Cut.runT d (s.extract k s.size)).1 < (s.extract k s.size).size ∧ (Cut.runT d (s.extract k s.size)).2.1 < (Cut.runT d (s.extract k s.size)).1 then ((Cut.runT d (s.extract k s.size)).1 - (Cut.runT d (s.extract k s.size)).2.1, 5)
    else ((Cut.runT d (s.extract k s.size)).1, 5) := rfl
  rw [hN, hsh]
  clear hN
  rw [e1] at hss hfull hge ⊢
  obtain ⟨X, hX⟩ : ∃ X, itemAt s k = X := ⟨_, rfl⟩
  by_cases h0 : 0 < shortI (itemAt s k :: itemsGo s f1 (k + (itemAt s k).n))
  · have hR : nextR d (itemAt s k :: itemsGo s f1 (k + (itemAt s k).n)) = (shortI (itemAt s k :: itemsGo s f1 (k + (itemAt s k).n)), 1) := by rw [nextR_cons, if_pos h0]
    rw [if_pos h0, hR]
    simp only
    rw [hss h0]
  rw [if_neg h0]
  by_cases hsp2 : headSp d (itemAt s k :: itemsGo s f1 (k + (itemAt s k).n)) = true
  · have hR : nextR d (itemAt s k :: itemsGo s f1 (k + (itemAt s k).n)) = (1 + runI d (kindI d ((itemsGo s f1 (k + (itemAt s k).n)).headD (itemAt s k))) (itemsGo s f1 (k + (itemAt s k).n)), sortT (kindI d ((itemsGo s f1 (k + (itemAt s k).n)).headD (itemAt s k)))) := by rw [nextR_cons, if_neg h0, if_pos hsp2]
    rw [hR]
    clear hR
    by_cases hk1 : k + (itemAt s k).n < s.size
    · obtain ⟨f2, e2, g2⟩ := itemsGo_cons hk1 g1
      have hrun1 := runT_ext (d := d) (Nat.le_of_lt hk1) g1 e2
      rw [e2] at hsp2 hrun ⊢
      simp only [headSp, Bool.and_eq_true, decide_eq_true_eq] at hsp2
      have k3 := kind32 hsp hk hsp2.1
      have n1 := isB_one hk (by decide) hsp2.1
      rw [k3] at hrun
      rw [runI_cons k3, runI_stop hsp2.2, sumI_succ, sumI_zero] at hrun
      have hc2 : (s.extract k s.size).data.toList.head? = some 32 ∧ (Cut.runT d (s.extract k s.size)).1 = 1 ∧ 1 < (s.extract k s.size).size := ⟨(head_ext hk).2 ((isB_iff hk (by decide)).1 hsp2.1), by rw [hrun.1, n1], by rw [hz]; omega⟩
      rw [if_neg (fun h => h hrun.2.1), if_pos hc2]
      have hee : (s.extract k s.size).extract 1 (s.extract k s.size).size = s.extract (k + (itemAt s k).n) s.size := by rw [ext_ext (Nat.le_of_lt hk), n1]
      rw [hee, hrun1.1, hrun1.2.1]
      simp only [List.headD_cons]
      rw [Nat.add_comm 1 (runI d _ _), sumI_succ, n1]
    · rw [itemsGo_end (s := s) (f := f1) (k := k + (itemAt s k).n) (by omega)] at hsp2
      simp [headSp] at hsp2
  by_cases h3 : kindI d (itemAt s k) = 3
  · rw [h3] at hrun
    have hm1 : 1 ≤ runI d 3 (itemAt s k :: itemsGo s f1 (k + (itemAt s k).n)) := by
      have := run_pos (d := d) (x := itemAt s k) (t := itemsGo s f1 (k + (itemAt s k).n))
      rwa [h3] at this
    have hml := runI_le d 3 (itemAt s k :: itemsGo s f1 (k + (itemAt s k).n))
    have hmc : runI d 3 (itemAt s k :: itemsGo s f1 (k + (itemAt s k).n)) = runI d 3 (itemsGo s f1 (k + (itemAt s k).n)) + 1 := runI_cons h3
    have hn2 : ¬ ((s.extract k s.size).data.toList.head? = some 32 ∧ (Cut.runT d (s.extract k s.size)).1 = 1 ∧ 1 < (s.extract k s.size).size) := fun h => by
      obtain ⟨q1, q2, q3⟩ := h
      rw [hrun.1] at q2
      have q4 := hge _ hml
      have hr1 : runI d 3 (itemAt s k :: itemsGo s f1 (k + (itemAt s k).n)) = 1 := by omega
      have hlt : 1 < (itemAt s k :: itemsGo s f1 (k + (itemAt s k).n)).length := by
        have := (hfull 1 (by rw [List.length_cons]; omega)).2.1 (by rw [hr1] at q2; rw [q2]; rw [hz] at q3; omega)
        exact this
      cases hl : itemsGo s f1 (k + (itemAt s k).n) with
      | nil => rw [hl] at hlt; simp at hlt
      | cons y t =>
        apply hsp2
        rw [hl]
        rw [hl] at hmc hr1
        simp only [headSp, Bool.and_eq_true, decide_eq_true_eq]
        refine ⟨(isB_iff hk (by decide)).2 ((head_ext hk).1 q1), fun h => ?_⟩
        rw [runI_cons h3, runI_cons h] at hr1
        omega
    rw [if_neg (fun h => h hrun.2.1), if_neg hn2]
    obtain ⟨y, hy1, hy2⟩ := last_n (x := itemAt s k) (t := itemsGo s f1 (k + (itemAt s k).n)) (m := runI d 3 (itemsGo s f1 (k + (itemAt s k).n))) (runI_le _ _ _)
    have hlast := hrun.2.2
    rw [hy2] at hlast
    have hfst := hrun.1
    have hnx := sumI_next hy1
    rw [← hmc] at hnx
    have hR : nextR d (itemAt s k :: itemsGo s f1 (k + (itemAt s k).n)) = if runI d 3 (itemAt s k :: itemsGo s f1 (k + (itemAt s k).n)) < (itemAt s k :: itemsGo s f1 (k + (itemAt s k).n)).length ∧ 2 ≤ runI d 3 (itemAt s k :: itemsGo s f1 (k + (itemAt s k).n)) then (runI d 3 (itemAt s k :: itemsGo s f1 (k + (itemAt s k).n)) - 1, 5) else (runI d 3 (itemAt s k :: itemsGo s f1 (k + (itemAt s k).n)), 5) := by rw [nextR_cons, if_neg h0, if_neg hsp2, if_neg (fun h => h h3)]
    rw [hR]
    clear hR hrun hy2
    obtain ⟨m, hm⟩ : ∃ m, runI d 3 (itemAt s k :: itemsGo s f1 (k + (itemAt s k).n)) = m := ⟨_, rfl⟩
    have hm' : runI d 3 (itemsGo s f1 (k + (itemAt s k).n)) = m - 1 := by omega
    rw [hm'] at hnx hy1
    rw [hm] at hnx hm1 hml hfst ⊢
    have h1 := hfull m hml
    have h2 := hge (m - 1) (by omega)
    rw [hfst, hlast, hz]
    by_cases hc : m < (itemAt s k :: itemsGo s f1 (k + (itemAt s k).n)).length ∧ 2 ≤ m
    · have hc1 := h1.2.2 hc.1
      rw [if_pos (by omega), if_pos hc]
      simp only [Prod.mk.injEq, and_true]
      omega
    · rw [if_neg (fun h => hc (by
        refine ⟨h1.2.1 (by omega), ?_⟩
        by_cases h2m : 2 ≤ m
        · exact h2m
        · exfalso
          obtain rfl : m = 1 := by omega
          rw [show 1 - 1 = 0 from rfl, sumI_zero] at hnx
          omega)), if_neg hc]
  · have hR : nextR d (itemAt s k :: itemsGo s f1 (k + (itemAt s k).n)) = (runI d (kindI d (itemAt s k)) (itemAt s k :: itemsGo s f1 (k + (itemAt s k).n)), sortT (kindI d (itemAt s k))) := by rw [nextR_cons, if_neg h0, if_neg hsp2, if_pos h3]
    rw [hR, if_pos (by rw [hrun.2.1]; exact h3), hrun.1, hrun.2.1]
theorem nextR_bd (d : Dat) {l : List Cut.Item} (h : l ≠ []) : 1 ≤ (nextR d l).1 ∧ (nextR d l).1 ≤ l.length := by
  cases l with
  | nil => exact absurd rfl h
  | cons x t =>
    have hs := shortI_le (x :: t)
    have h1 := run_pos (d := d) (x := x) (t := t)
    have h2 := runI_le d (kindI d x) (x :: t)
    have h3 := runI_le d (kindI d (t.headD x)) t
    have h4 := runI_le d 3 (x :: t)
    have hl : (x :: t).length = t.length + 1 := rfl
    rw [nextR_cons]
    by_cases c1 : 0 < shortI (x :: t)
    · rw [if_pos c1]
      simp only
      omega
    rw [if_neg c1]
    by_cases c2 : headSp d (x :: t) = true
    · rw [if_pos c2]
      simp only
      omega
    rw [if_neg c2]
    by_cases c3 : kindI d x = 3
    · rw [if_neg (fun h => h c3)]
      rw [c3] at h1
      by_cases c4 : runI d 3 (x :: t) < (x :: t).length ∧ 2 ≤ runI d 3 (x :: t)
      · rw [if_pos c4]
        simp only
        omega
      · rw [if_neg c4]
        simp only
        omega
    · rw [if_pos c3]
      simp only
      omega
end Go.Proofs.YtigpaaelggnffaaGreatDoor.R2
