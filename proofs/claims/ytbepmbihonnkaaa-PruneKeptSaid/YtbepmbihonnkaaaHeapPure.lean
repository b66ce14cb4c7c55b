/- heap: plain laws on a binary heap in a list (no program). -/
import Derived.KernelRfl
namespace Go.Proofs.Ytbepmbihonnkaaa.HeapPure
set_option linter.unusedVariables false
set_option linter.unusedSimpArgs false
set_option linter.unusedSectionVars false

section
variable {α : Type} [Inhabited α]
def at_ (l : List α) (i : Nat) : α := l.getD i default
def swap (l : List α) (i j : Nat) : List α := (l.set i (at_ l j)).set j (at_ l i)
theorem swap_length (l : List α) (i j : Nat) : (swap l i j).length = l.length := by simp [swap]
theorem at_eq (l : List α) (i : Nat) (h : i < l.length) : at_ l i = l[i] := by simp [at_, List.getD, h]
theorem at_get (l : List α) (i : Nat) (h : i < l.length) : l[i]? = some (at_ l i) := by rw [at_eq l i h, List.getElem?_eq_getElem h]

theorem at_swap (l : List α) (i j k : Nat) (hi : i < l.length) (hj : j < l.length) : at_ (swap l i j) k = if k = j then at_ l i else if k = i then at_ l j else at_ l k := by
  unfold swap at_
  rw [List.getD_eq_getElem?_getD, List.getD_eq_getElem?_getD, List.getD_eq_getElem?_getD, List.getD_eq_getElem?_getD]
  rw [List.getElem?_set]
  by_cases e : j = k
  · subst e; simp [hj]
  · rw [if_neg e, if_neg (fun x => e x.symm), List.getElem?_set]
    by_cases e2 : i = k
    · subst e2; simp [hi]
    · rw [if_neg e2, if_neg (fun x => e2 x.symm)]

theorem set_at_self (l : List α) (i : Nat) : l.set i (at_ l i) = l := by
  by_cases h : i < l.length
  · rw [at_eq l i h]; exact List.set_getElem_self h
  · exact List.set_eq_of_length_le (by omega)

/-- A swap is a permutation. -/
theorem swap_perm (l : List α) (i j : Nat) (hi : i < l.length) (hj : j < l.length) : (swap l i j).Perm l := by
  by_cases e : i = j
  · subst e
    have : swap l i i = l := by unfold swap; rw [set_at_self, set_at_self]
    rw [this]
  · have key : ∀ (l : List α) (i j : Nat), i < j → j < l.length → ((l.set i (at_ l j)).set j (at_ l i)).Perm l := by
      intro l i j hij hj
      obtain ⟨A, x, B, y, C, hl, hA, hB⟩ : ∃ A x B y C, l = A ++ x :: (B ++ y :: C) ∧ A.length = i ∧ A.length + 1 + B.length = j := by
        refine ⟨l.take i, l[i], (l.drop (i + 1)).take (j - i - 1), l[j], l.drop (j + 1), ?_, by simp; omega, by simp; omega⟩
        have h1 : l = l.take i ++ l[i] :: l.drop (i + 1) := by rw [List.getElem_cons_drop]; simp
        have h2 : l.drop (i + 1) = (l.drop (i + 1)).take (j - i - 1) ++ l[j] :: l.drop (j + 1) := by
          have h3 := List.take_append_drop (j - i - 1) (l.drop (i + 1))
          rw [List.drop_drop, show i + 1 + (j - i - 1) = j from by omega] at h3
          rw [List.getElem_cons_drop]
          exact h3.symm
        rw [← h2]; exact h1
      have ai : at_ l i = x := by rw [at_, hl, ← hA]; simp [List.getD]
      have aj : at_ l j = y := by rw [at_, hl, ← hB]; simp [List.getD, List.getElem?_append]; rw [if_neg (by omega)]; simp [show A.length + 1 + B.length - A.length = B.length + 1 from by omega]
      rw [ai, aj, hl, ← hA]
      rw [List.set_append_right _ _ (Nat.le_refl _), Nat.sub_self, List.set_cons_zero, List.set_append_right _ _ (by omega), show j - A.length = B.length + 1 from by omega, List.set_cons_succ, List.set_append_right _ _ (Nat.le_refl _), Nat.sub_self, List.set_cons_zero]
      refine List.Perm.append_left A ?_
      refine (List.perm_middle (a := x) (l₁ := y :: B) (l₂ := C)).trans ?_
      exact List.Perm.cons x ((List.perm_middle (a := y) (l₁ := B) (l₂ := C)).symm)
    rcases Nat.lt_or_gt_of_ne e with h | h
    · exact key l i j h hj
    · have := key l j i h hi
      unfold swap
      rw [List.set_comm _ _ e]
      exact this

/-- A strict weak order: asymmetric enough, and 'not less' goes on. -/
structure Weak (less : α → α → Bool) : Prop where
  irrefl : ∀ x, less x x = false
  trans : ∀ x y z, less x y = true → less y z = true → less x z = true
  negtrans : ∀ x y z, less x y = false → less y z = false → less x z = false
theorem Weak.asymm {less : α → α → Bool} (h : Weak less) {x y : α} (hx : less x y = true) : less y x = false := by
  cases hy : less y x with
  | false => rfl
  | true => have := h.trans x y x hx hy; rw [h.irrefl] at this; cases this

/-- No child is less than its parent. -/
def Heap (less : α → α → Bool) (l : List α) : Prop := ∀ k, 0 < k → k < l.length → less (at_ l k) (at_ l ((k - 1) / 2)) = false

theorem Heap.least {less : α → α → Bool} (hw : Weak less) {l : List α} (h : Heap less l) : ∀ k, k < l.length → less (at_ l k) (at_ l 0) = false := by
  intro k
  induction k using Nat.strongRecOn with
  | ind k ih =>
    intro hk
    by_cases h0 : k = 0
    · subst h0; exact hw.irrefl _
    · exact hw.negtrans _ _ _ (h k (by omega) hk) (ih ((k - 1) / 2) (by omega) (by omega))

/-- Push's way up. -/
def up (less : α → α → Bool) (l : List α) (i : Nat) : List α :=
  if h : i = 0 then l
  else if less (at_ l i) (at_ l ((i - 1) / 2)) then up less (swap l i ((i - 1) / 2)) ((i - 1) / 2) else l
termination_by i
decreasing_by omega

theorem up_zero (less : α → α → Bool) (l : List α) : up less l 0 = l := by rw [up]; simp
theorem up_step (less : α → α → Bool) (l : List α) (i : Nat) (h0 : i ≠ 0) (h : less (at_ l i) (at_ l ((i - 1) / 2)) = true) : up less l i = up less (swap l i ((i - 1) / 2)) ((i - 1) / 2) := by
  rw [up, dif_neg h0, if_pos h]
theorem up_stop (less : α → α → Bool) (l : List α) (i : Nat) (h0 : i ≠ 0) (h : less (at_ l i) (at_ l ((i - 1) / 2)) = false) : up less l i = l := by
  rw [up, dif_neg h0, h]; rfl

theorem up_length (less : α → α → Bool) (i : Nat) : ∀ l : List α, (up less l i).length = l.length := by
  induction i using Nat.strongRecOn with
  | ind i ih =>
    intro l
    by_cases h0 : i = 0
    · subst h0; rw [up_zero]
    · cases h : less (at_ l i) (at_ l ((i - 1) / 2)) with
      | true => rw [up_step less l i h0 h, ih _ (by omega), swap_length]
      | false => rw [up_stop less l i h0 h]
theorem up_perm (less : α → α → Bool) (i : Nat) : ∀ l : List α, i < l.length → (up less l i).Perm l := by
  induction i using Nat.strongRecOn with
  | ind i ih =>
    intro l hi
    by_cases h0 : i = 0
    · subst h0; rw [up_zero]
    · cases h : less (at_ l i) (at_ l ((i - 1) / 2)) with
      | true => rw [up_step less l i h0 h]; exact (ih _ (by omega) _ (by rw [swap_length]; omega)).trans (swap_perm l _ _ hi (by omega))
      | false => rw [up_stop less l i h0 h]

/-- The heap but for i against its parent; i's children are no less than i's parent. -/
def UpInv (less : α → α → Bool) (l : List α) (i : Nat) : Prop :=
  (∀ k, 0 < k → k < l.length → k ≠ i → less (at_ l k) (at_ l ((k - 1) / 2)) = false) ∧
  (∀ k, 0 < k → k < l.length → (k - 1) / 2 = i → 0 < i → less (at_ l k) (at_ l ((i - 1) / 2)) = false)

theorem up_heap {less : α → α → Bool} (hw : Weak less) (i : Nat) : ∀ l : List α, i < l.length → UpInv less l i → Heap less (up less l i) := by
  induction i using Nat.strongRecOn with
  | ind i ih =>
    intro l hi ⟨h1, h2⟩
    by_cases h0 : i = 0
    · subst h0; rw [up_zero]
      intro k hk hk2
      exact h1 k hk hk2 (by omega)
    · cases h : less (at_ l i) (at_ l ((i - 1) / 2)) with
      | false =>
        rw [up_stop less l i h0 h]
        intro k hk hk2
        by_cases e : k = i
        · subst e; exact h
        · exact h1 k hk hk2 e
      | true =>
        rw [up_step less l i h0 h]
        have hp : (i - 1) / 2 < l.length := by omega
        refine ih _ (by omega) _ (by rw [swap_length]; exact hp) ⟨fun k hk hk2 hne => ?_, fun k hk hk2 hkp hpos => ?_⟩
        · rw [swap_length] at hk2
          rw [at_swap l _ _ _ hi hp, at_swap l _ _ _ hi hp, if_neg hne]
          by_cases e : k = i
          · subst e
            rw [if_pos rfl, if_pos rfl]
            exact hw.asymm h
          · rw [if_neg e]
            by_cases e1 : (k - 1) / 2 = (i - 1) / 2
            · rw [if_pos e1]
              have := h1 k hk hk2 e
              rw [e1] at this
              cases hx : less (at_ l k) (at_ l i) with
              | false => rfl
              | true => have := hw.trans _ _ _ hx h; simp_all
            · rw [if_neg e1]
              by_cases e2 : (k - 1) / 2 = i
              · rw [if_pos e2]
                exact h2 k hk hk2 e2 (by omega)
              · rw [if_neg e2]
                exact h1 k hk hk2 e
        · rw [swap_length] at hk2
          rw [at_swap l _ _ _ hi hp, at_swap l _ _ _ hi hp]
          have hg : ((i - 1) / 2 - 1) / 2 ≠ (i - 1) / 2 := by omega
          have hg2 : ((i - 1) / 2 - 1) / 2 ≠ i := by omega
          rw [if_neg hg, if_neg hg2]
          have hpp := h1 ((i - 1) / 2) hpos hp (by omega)
          by_cases e : k = i
          · subst e
            rw [if_neg (by omega), if_pos rfl]
            exact hpp
          · rw [if_neg (by omega), if_neg e]
            have := h1 k hk hk2 e
            rw [hkp] at this
            exact hw.negtrans _ _ _ this hpp

def push (less : α → α → Bool) (l : List α) (x : α) : List α := up less (l ++ [x]) l.length
theorem push_perm (less : α → α → Bool) (l : List α) (x : α) : (push less l x).Perm (l ++ [x]) := up_perm less _ _ (by simp)
theorem push_length (less : α → α → Bool) (l : List α) (x : α) : (push less l x).length = l.length + 1 := by rw [push, up_length]; simp
theorem at_append (l : List α) (x : α) (k : Nat) (h : k < l.length) : at_ (l ++ [x]) k = at_ l k := by simp [at_, List.getD, List.getElem?_append, h]
theorem push_heap {less : α → α → Bool} (hw : Weak less) {l : List α} (x : α) (h : Heap less l) : Heap less (push less l x) := by
  refine up_heap hw _ _ (by simp) ⟨fun k hk hk2 hne => ?_, fun k hk hk2 hkp _ => ?_⟩
  · simp at hk2
    rw [at_append _ _ _ (by omega), at_append _ _ _ (by omega)]
    exact h k hk (by omega)
  · simp at hk2; omega

/-- Pop's way down: the lesser of i and its children. -/
def low1 (less : α → α → Bool) (l : List α) (i k low : Nat) : Nat := if k < l.length ∧ less (at_ l k) (at_ l low) = true then k else low
def low (less : α → α → Bool) (l : List α) (i : Nat) : Nat := low1 less l i (2 * i + 2) (low1 less l i (2 * i + 1) i)
theorem low1_bd (less : α → α → Bool) (l : List α) (i k m : Nat) : low1 less l i k m = m ∨ (low1 less l i k m = k ∧ k < l.length) := by
  unfold low1
  split
  · rename_i h; exact .inr ⟨rfl, h.1⟩
  · exact .inl rfl
theorem low_bd (less : α → α → Bool) (l : List α) (i : Nat) (hi : i < l.length) : low less l i < l.length ∧ (low less l i = i ∨ low less l i = 2 * i + 1 ∨ low less l i = 2 * i + 2) := by
  unfold low
  have h1 := low1_bd less l i (2 * i + 1) i
  have h2 := low1_bd less l i (2 * i + 2) (low1 less l i (2 * i + 1) i)
  omega
/-- None of i and its children is less than the lesser. -/
theorem low_least {less : α → α → Bool} (hw : Weak less) (l : List α) (i : Nat) (hi : i < l.length) : less (at_ l i) (at_ l (low less l i)) = false ∧ ∀ k, (k = 2 * i + 1 ∨ k = 2 * i + 2) → k < l.length → less (at_ l k) (at_ l (low less l i)) = false := by
  unfold low
  have s1 : less (at_ l i) (at_ l (low1 less l i (2 * i + 1) i)) = false ∧ (2 * i + 1 < l.length → less (at_ l (2 * i + 1)) (at_ l (low1 less l i (2 * i + 1) i)) = false) := by
    unfold low1
    split
    · rename_i h; exact ⟨hw.asymm h.2, fun _ => hw.irrefl _⟩
    · rename_i h
      refine ⟨hw.irrefl _, fun hk => ?_⟩
      cases e : less (at_ l (2 * i + 1)) (at_ l i) with
      | false => rfl
      | true => exact absurd ⟨hk, e⟩ h
  generalize low1 less l i (2 * i + 1) i = m at s1
  unfold low1
  split
  · rename_i h
    have hx := hw.asymm h.2
    refine ⟨hw.negtrans _ _ _ s1.1 hx, fun k hk hk2 => ?_⟩
    rcases hk with rfl | rfl
    · exact hw.negtrans _ _ _ (s1.2 hk2) hx
    · exact hw.irrefl _
  · rename_i h
    refine ⟨s1.1, fun k hk hk2 => ?_⟩
    rcases hk with rfl | rfl
    · exact s1.2 hk2
    · cases e : less (at_ l (2 * i + 2)) (at_ l m) with
      | false => rfl
      | true => exact absurd ⟨hk2, e⟩ h

/-- The lesser of i and its children below k. -/
def lowTo (less : α → α → Bool) (l : List α) (i k : Nat) : Nat := if k ≤ 2 * i + 1 then i else if k = 2 * i + 2 then low1 less l i (2 * i + 1) i else low less l i
theorem lowTo_start (less : α → α → Bool) (l : List α) (i : Nat) : lowTo less l i (2 * i + 1) = i := by unfold lowTo; rw [if_pos (Nat.le_refl _)]
theorem lowTo_step (less : α → α → Bool) (l : List α) (i k : Nat) (h1 : 2 * i + 1 ≤ k) (h2 : k ≤ 2 * i + 2) : lowTo less l i (k + 1) = low1 less l i k (lowTo less l i k) := by
  unfold lowTo
  by_cases e : k = 2 * i + 1
  · subst e; rw [if_neg (by omega), if_pos (by omega), if_pos (by omega)]
  · have : k = 2 * i + 2 := by omega
    subst this
    rw [if_neg (by omega), if_neg (by omega), if_neg (by omega), if_pos rfl]; rfl
theorem lowTo_end (less : α → α → Bool) (l : List α) (i k : Nat) (h1 : 2 * i + 1 ≤ k) (h2 : 2 * i + 2 < k ∨ l.length ≤ k) : lowTo less l i k = low less l i := by
  unfold lowTo low
  have hl : ∀ k m, l.length ≤ k → low1 less l i k m = m := fun k m h => by unfold low1; rw [if_neg (by omega)]
  by_cases e : k = 2 * i + 1
  · subst e; rw [if_pos (by omega), hl (2 * i + 1) _ (by omega), hl _ _ (by omega)]
  · by_cases e2 : k = 2 * i + 2
    · subst e2; rw [if_neg (by omega), if_pos rfl, hl (2 * i + 2) _ (by omega)]
    · rw [if_neg (by omega), if_neg e2]
theorem lowTo_lt (less : α → α → Bool) (l : List α) (i k : Nat) (hi : i < l.length) : lowTo less l i k < l.length ∧ lowTo less l i k ≤ 2 * i + 2 := by
  unfold lowTo
  split
  · omega
  · split
    · have := low1_bd less l i (2 * i + 1) i; omega
    · have := low_bd less l i hi; omega
theorem low_nil (less : α → α → Bool) : low less ([] : List α) 0 = 0 := by simp [low, low1]

def down (less : α → α → Bool) (l : List α) (i : Nat) : List α :=
  if h : i < low less l i ∧ low less l i < l.length then down less (swap l i (low less l i)) (low less l i) else l
termination_by l.length - i
decreasing_by rw [swap_length]; omega

theorem down_stop (less : α → α → Bool) (l : List α) (i : Nat) (h : low less l i = i) : down less l i = l := by rw [down, dif_neg (by omega)]
theorem down_step (less : α → α → Bool) (l : List α) (i : Nat) (hi : i < l.length) (h : low less l i ≠ i) : down less l i = down less (swap l i (low less l i)) (low less l i) := by
  have := low_bd less l i hi
  rw [down, dif_pos (by omega)]

theorem down_ind {P : List α → Nat → Prop} (less : α → α → Bool) (hstop : ∀ l i, i < l.length → low less l i = i → P l i)
    (hstep : ∀ l i, i < l.length → low less l i ≠ i → P (swap l i (low less l i)) (low less l i) → P l i) : ∀ (n : Nat) (l : List α) (i : Nat), l.length - i = n → i < l.length → P l i := by
  intro n
  induction n using Nat.strongRecOn with
  | ind n ih =>
    intro l i hn hi
    by_cases h : low less l i = i
    · exact hstop l i hi h
    · have := low_bd less l i hi
      exact hstep l i hi h (ih (l.length - low less l i) (by omega) _ _ (by rw [swap_length]) (by rw [swap_length]; exact this.1))

theorem down_perm (less : α → α → Bool) (l : List α) (i : Nat) (hi : i < l.length) : (down less l i).Perm l := by
  refine down_ind (P := fun l i => (down less l i).Perm l) less (fun l i _ h => by rw [down_stop less l i h]) (fun l i hi h ih => ?_) _ l i rfl hi
  rw [down_step less l i hi h]
  exact ih.trans (swap_perm l _ _ hi (low_bd less l i hi).1)
theorem down_length (less : α → α → Bool) (l : List α) (i : Nat) (hi : i < l.length) : (down less l i).length = l.length := (down_perm less l i hi).length_eq

/-- The heap but for i's children against i; they are no less than i's parent. -/
def DownInv (less : α → α → Bool) (l : List α) (i : Nat) : Prop :=
  (∀ k, 0 < k → k < l.length → (k - 1) / 2 ≠ i → less (at_ l k) (at_ l ((k - 1) / 2)) = false) ∧
  (∀ k, 0 < k → k < l.length → (k - 1) / 2 = i → 0 < i → less (at_ l k) (at_ l ((i - 1) / 2)) = false)

theorem down_heap {less : α → α → Bool} (hw : Weak less) (l : List α) (i : Nat) (hi : i < l.length) : DownInv less l i → Heap less (down less l i) := by
  refine down_ind (P := fun l i => DownInv less l i → Heap less (down less l i)) less (fun l i hi h hD => ?_) (fun l i hi h ih hD => ?_) _ l i rfl hi
  · rw [down_stop less l i h]
    intro k hk hk2
    by_cases e : (k - 1) / 2 = i
    · have := (low_least hw l i hi).2 k (by omega) hk2
      rw [h] at this
      rw [e]; exact this
    · exact hD.1 k hk hk2 e
  · rw [down_step less l i hi h]
    have hb := low_bd less l i hi
    have hl := low_least hw l i hi
    generalize low less l i = m at *
    refine ih ⟨fun k hk hk2 hne => ?_, fun k hk hk2 hkp _ => ?_⟩
    · rw [swap_length] at hk2
      rw [at_swap l _ _ _ hi hb.1, at_swap l _ _ _ hi hb.1]
      rw [if_neg hne]
      by_cases e1 : (k - 1) / 2 = i
      · rw [if_pos e1]
        by_cases e2 : k = m
        · rw [if_pos e2]; exact hl.1
        · rw [if_neg e2, if_neg (by omega)]; exact hl.2 k (by omega) hk2
      · rw [if_neg e1]
        by_cases e2 : k = m
        · exact absurd e2 (by omega)
        · rw [if_neg e2]
          by_cases e3 : k = i
          · rw [if_pos e3]
            subst e3
            exact hD.2 m (by omega) hb.1 (by omega) hk
          · rw [if_neg e3]; exact hD.1 k hk hk2 e1
    · rw [swap_length] at hk2
      rw [at_swap l _ _ _ hi hb.1, at_swap l _ _ _ hi hb.1]
      have e0 : (m - 1) / 2 = i := by omega
      rw [e0, if_neg (show i ≠ m by omega), if_pos rfl, if_neg (by omega), if_neg (by omega)]
      have := hD.1 k hk hk2 (by omega)
      rw [hkp] at this
      exact this

/-- Pop of a list that is not empty: the last one is laid in front. -/
def popRest (less : α → α → Bool) (l : List α) : List α :=
  let r := (l.set 0 (at_ l (l.length - 1))).take (l.length - 1)
  if r.length = 0 then r else down less r 0
theorem popRest_down (less : α → α → Bool) (l : List α) : popRest less l = down less ((l.set 0 (at_ l (l.length - 1))).take (l.length - 1)) 0 := by
  unfold popRest
  dsimp only
  split
  · rename_i h
    rw [List.eq_nil_of_length_eq_zero h, down_stop _ _ _ (low_nil less)]
  · rfl
theorem rest_at (l : List α) (k : Nat) (hk : k < l.length - 1) : at_ ((l.set 0 (at_ l (l.length - 1))).take (l.length - 1)) k = if k = 0 then at_ l (l.length - 1) else at_ l k := by
  unfold at_
  rw [List.getD_eq_getElem?_getD, List.getElem?_take, if_pos hk, List.getElem?_set]
  by_cases e : 0 = k
  · subst e; rw [if_pos rfl, if_pos rfl, if_pos (by omega)]; rfl
  · rw [if_neg e, if_neg (fun x => e x.symm)]; rfl
theorem rest_perm (l : List α) (h : l ≠ []) : (at_ l 0 :: (l.set 0 (at_ l (l.length - 1))).take (l.length - 1)).Perm l := by
  cases l with
  | nil => exact absurd rfl h
  | cons x t =>
    cases ht : t.reverse with
    | nil =>
      have : t = [] := by simpa using ht
      subst this
      simp [at_]
    | cons y r =>
      have : t = r.reverse ++ [y] := by have := congrArg List.reverse ht; simpa using this
      subst this
      have e1 : at_ (x :: (r.reverse ++ [y])) ((x :: (r.reverse ++ [y])).length - 1) = y := by simp [at_]
      rw [e1]
      have e2 : ((x :: (r.reverse ++ [y])).set 0 y).take ((x :: (r.reverse ++ [y])).length - 1) = y :: r.reverse := by
        simp
      rw [e2]
      show (x :: y :: r.reverse).Perm (x :: (r.reverse ++ [y]))
      exact List.Perm.cons x (List.perm_append_singleton y r.reverse).symm
theorem popRest_perm (less : α → α → Bool) (l : List α) (h : l ≠ []) : (at_ l 0 :: popRest less l).Perm l := by
  unfold popRest
  dsimp only
  split
  · exact rest_perm l h
  · exact (List.Perm.cons _ (down_perm less _ 0 (by omega))).trans (rest_perm l h)
theorem popRest_length (less : α → α → Bool) (l : List α) (h : l ≠ []) : (popRest less l).length + 1 = l.length := by
  have := (popRest_perm less l h).length_eq
  simpa using this
theorem popRest_heap {less : α → α → Bool} (hw : Weak less) {l : List α} (h : Heap less l) : Heap less (popRest less l) := by
  unfold popRest
  dsimp only
  have hlen : ((l.set 0 (at_ l (l.length - 1))).take (l.length - 1)).length = l.length - 1 := by simp
  split
  · rename_i e
    intro k hk hk2
    omega
  · rename_i e
    refine down_heap hw _ 0 (by omega) ⟨fun k hk hk2 hne => ?_, fun k _ _ _ h0 => absurd h0 (Nat.lt_irrefl 0)⟩
    rw [hlen] at hk2
    rw [rest_at l k hk2, rest_at l _ (by omega), if_neg (by omega), if_neg hne]
    exact h k hk (by omega)

/-- Pushed one by one. -/
def pushAll (less : α → α → Bool) (l : List α) : List α := l.foldl (push less) []
theorem pushAll_snoc (less : α → α → Bool) (l : List α) (x : α) : pushAll less (l ++ [x]) = push less (pushAll less l) x := by simp [pushAll]
theorem pushAll_perm (less : α → α → Bool) (l : List α) : (pushAll less l).Perm l := by
  suffices h : ∀ (l a : List α), (l.foldl (push less) a).Perm (a ++ l) by have := h l []; rw [List.nil_append] at this; exact this
  intro l
  induction l with
  | nil => intro a; simp
  | cons x l ih =>
    intro a
    refine (ih _).trans ?_
    refine ((push_perm less a x).append_right l).trans ?_
    simp
theorem pushAll_length (less : α → α → Bool) (l : List α) : (pushAll less l).length = l.length := (pushAll_perm less l).length_eq
theorem heap_nil (less : α → α → Bool) : Heap less ([] : List α) := fun k _ h => absurd h (Nat.not_lt_zero _)
theorem pushAll_heap {less : α → α → Bool} (hw : Weak less) (l : List α) : Heap less (pushAll less l) := by
  suffices h : ∀ (l a : List α), Heap less a → Heap less (l.foldl (push less) a) from h l [] (heap_nil less)
  intro l
  induction l with
  | nil => intro a h; exact h
  | cons x l ih => intro a h; exact ih _ (push_heap hw x h)
end
end Go.Proofs.Ytbepmbihonnkaaa.HeapPure
