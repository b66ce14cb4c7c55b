/- Merged of SymP, SortRow, SortW, SortI. -/
import Derived.Sort.LotA
import Derived.Test.YtigpaaelggnffaaGreatDoorSpanPure
import Derived.Lib.ReflectliteSwap
import Derived.Deep.DeepCutAuto
import Derived.IntWalk
import Derived.OwnWalk
/- The library's stable sort beyond one block, as plain Lean: what its merge, its rotation and its swaps do to an array. No program in sight. -/
namespace Go.Proofs.YtigpaaelggnffaaGreatDoor.St
open Go.Sort
set_option linter.unusedVariables false
set_option linter.unusedSimpArgs false
variable {α : Type} [Inhabited α]

/-- i of the swaps are done: [a, a + i) and [b, b + i) have changed places. -/
structure SwR (a b i : Nat) (d d' : Array α) : Prop where
  size : d'.size = d.size
  left : ∀ k, k < i → d'[a + k]! = d[b + k]!
  right : ∀ k, k < i → d'[b + k]! = d[a + k]!
  rest : ∀ k, (k < a ∨ a + i ≤ k) → (k < b ∨ b + i ≤ k) → d'[k]! = d[k]!
theorem SwR.start (a b : Nat) (d : Array α) : SwR a b 0 d d := ⟨rfl, fun k h => by omega, fun k h => by omega, fun k _ _ => rfl⟩
theorem SwR.step {a b i : Nat} {d d' : Array α} (h : SwR a b i d d') (hab : a + (i + 1) ≤ b) (hb : b + (i + 1) ≤ d.size) : SwR a b (i + 1) d (swp d' (a + i) (b + i)) := by
  have hs := h.size
  have g := swp_get d' (show a + i < d'.size by omega) (show b + i < d'.size by omega)
  refine ⟨by rw [size_swp, hs], fun k hk => ?_, fun k hk => ?_, fun k h1 h2 => ?_⟩
  · rw [g]
    rw [if_neg (by omega)]
    by_cases e : k = i
    · subst e; rw [if_pos rfl, h.rest _ (by omega) (by omega)]
    · rw [if_neg (by omega), h.left k (by omega)]
  · rw [g]
    by_cases e : k = i
    · subst e; rw [if_pos rfl, h.rest _ (by omega) (by omega)]
    · rw [if_neg (by omega), if_neg (by omega), h.right k (by omega)]
  · rw [g, if_neg (by omega), if_neg (by omega), h.rest k (by omega) (by omega)]

/-- [a, m) and [m, b) have changed places. -/
structure Rot (a m b : Nat) (d d' : Array α) : Prop where
  size : d'.size = d.size
  left : ∀ k, k < b - m → d'[a + k]! = d[m + k]!
  right : ∀ k, k < m - a → d'[a + (b - m) + k]! = d[a + k]!
  rest : ∀ k, k < a ∨ b ≤ k → d'[k]! = d[k]!
theorem Rot.none1 {m b : Nat} (d : Array α) (h : m ≤ b) : Rot m m b d d := ⟨rfl, fun k h => rfl, fun k h => by omega, fun k _ => rfl⟩
theorem Rot.none2 {a m : Nat} (d : Array α) (h : a ≤ m) : Rot a m m d d := ⟨rfl, fun k h => by omega, fun k h => by rw [Nat.sub_self, Nat.add_zero], fun k _ => rfl⟩
theorem rot_eq {m i : Nat} {d d' : Array α} (hi : i ≤ m) (h : SwR (m - i) m i d d') : Rot (m - i) m (m + i) d d' := by
  refine ⟨h.size, fun k hk => h.left k (by omega), fun k hk => ?_, fun k hk => h.rest k (by omega) (by omega)⟩
  rw [show m - i + (m + i - m) + k = m + k by omega]
  exact h.right k (by omega)
theorem rot_gt {m i j : Nat} {d d1 d' : Array α} (hi : i ≤ m) (hij : j < i) (h : SwR (m - i) m j d d1) (h2 : Rot (m - (i - j)) m (m + j) d1 d') : Rot (m - i) m (m + j) d d' := by
  refine ⟨by rw [h2.size, h.size], fun k hk => ?_, fun k hk => ?_, fun k hk => ?_⟩
  · rw [h2.rest _ (by omega), h.left k (by omega)]
  · by_cases hk2 : k < j
    · have := h2.left k (by omega)
      rw [show m - (i - j) + k = m - i + (m + j - m) + k by omega] at this
      rw [this, h.right k (by omega)]
    · have := h2.right (k - j) (by omega)
      rw [show m - (i - j) + (m + j - m) + (k - j) = m - i + (m + j - m) + k by omega] at this
      rw [this, h.rest _ (by omega) (by omega)]
      congr 1; omega
  · rw [h2.rest _ (by omega), h.rest _ (by omega) (by omega)]
theorem rot_lt {m i j : Nat} {d d1 d' : Array α} (hi : i ≤ m) (hij : i < j) (h : SwR (m - i) (m + j - i) i d d1) (h2 : Rot (m - i) m (m + (j - i)) d1 d') : Rot (m - i) m (m + j) d d' := by
  refine ⟨by rw [h2.size, h.size], fun k hk => ?_, fun k hk => ?_, fun k hk => ?_⟩
  · by_cases hk2 : k < j - i
    · rw [h2.left k (by omega), h.rest _ (by omega) (by omega)]
    · have := h2.right (k - (j - i)) (by omega)
      rw [show m - i + (m + (j - i) - m) + (k - (j - i)) = m - i + k by omega] at this
      rw [this, h.left _ (by omega)]
      congr 1; omega
  · rw [h2.rest _ (by omega)]
    have := h.right k (by omega)
    rw [← this]
    congr 1; omega
  · rw [h2.rest _ (by omega), h.rest _ (by omega) (by omega)]

variable {lt : α → α → Bool}
/-- Sorted there: the kit's word, under a name of this text. -/
def Srt (lt : α → α → Bool) (a b : Nat) (d : Array α) : Prop := SortedIn lt a b d
/-- What a merge leaves. -/
structure Mg (lt : α → α → Bool) (a b : Nat) (d d' : Array α) : Prop where
  perm : PermIn a b d d'
  sorted : Srt lt a b d'
theorem Srt.keep {a b : Nat} {d d' : Array α} (h : Srt lt a b d) (he : ∀ k, a ≤ k → k < b → d'[k]! = d[k]!) : Srt lt a b d' := by
  intro i j h1 h2 h3
  rw [he i h1 (by omega), he j (by omega) h3]
  exact h i j h1 h2 h3
theorem Srt.sub {a b a' b' : Nat} {d : Array α} (h : Srt lt a b d) (h1 : a ≤ a') (h2 : b' ≤ b) : Srt lt a' b' d := fun i j p q r => h i j (by omega) q (by omega)
/-- No later one less, within a sorted part: the same place too. -/
theorem Srt.le (hS : SWO lt) {a b i j : Nat} {d : Array α} (h : Srt lt a b d) (h1 : a ≤ i) (h2 : i ≤ j) (h3 : j < b) : lt d[j]! d[i]! = false := by
  rcases Nat.eq_or_lt_of_le h2 with e | e
  · subst e; exact hS.irrefl _
  · exact h i j h1 e h3
/-- Two sorted parts, none of the right one less than one of the left one. -/
theorem Srt.join (hS : SWO lt) {a m b : Nat} {d : Array α} (h1 : Srt lt a m d) (h2 : Srt lt m b d) (hx : ∀ i j, a ≤ i → i < m → m ≤ j → j < b → lt d[j]! d[i]! = false) : Srt lt a b d := by
  intro i j hi hij hj
  by_cases h : j < m
  · exact h1 i j hi hij h
  · by_cases h' : i < m
    · exact hx i j hi h' (by omega) hj
    · exact h2 i j (by omega) hij hj
/-- What the first search of a merge finds: from here on those of the right part are less. -/
structure Mid (lt : α → α → Bool) (lo hi p s : Nat) (d : Array α) : Prop where
  l : lo ≤ s
  h : s ≤ hi
  below : lo < s → lt d[p - (s - 1)]! d[s - 1]! = false
  above : s < hi → lt d[p - s]! d[s]! = true
/-- The two halves behind the rotation. -/
structure Halves (lt : α → α → Bool) (a s mid e b : Nat) (d : Array α) : Prop where
  s1 : Srt lt a s d
  s2 : Srt lt s mid d
  s3 : Srt lt mid e d
  s4 : Srt lt e b d
  x : ∀ i j, a ≤ i → i < mid → mid ≤ j → j < b → lt d[j]! d[i]! = false
theorem halves (hS : SWO lt) {a m b mid s : Nat} {d d' : Array α} (ham : a + 2 ≤ m) (hmb : m + 2 ≤ b) (hmid : mid = (a + b) / 2) (h1 : Srt lt a m d) (h2 : Srt lt m b d)
    (hM : (mid < m → Mid lt (mid + m - b) mid (mid + m - 1) s d) ∧ (m ≤ mid → Mid lt a m (mid + m - 1) s d)) (hr : Rot s m (mid + m - s) d d') :
    a ≤ s ∧ s ≤ mid ∧ s ≤ m ∧ m ≤ mid + m - s ∧ mid ≤ mid + m - s ∧ mid + m - s ≤ b ∧ Halves lt a s mid (mid + m - s) b d' := by
  have hb2 : (a + b) / 2 * 2 ≤ a + b := Nat.div_mul_le_self _ _
  have hb3 : a + b < (a + b) / 2 * 2 + 2 := by omega
  have hs : a ≤ s ∧ s ≤ mid ∧ s ≤ m ∧ mid + m - s ≤ b := by
    by_cases h : mid < m
    · have := hM.1 h
      have := this.l; have := (hM.1 h).h
      omega
    · have := hM.2 (by omega)
      have := this.l; have := (hM.2 (by omega)).h
      omega
  obtain ⟨q1, q2, q3, q4⟩ := hs
  have q5 : m ≤ mid + m - s := by omega
  have q6 : mid ≤ mid + m - s := by omega
  -- what lies where
  have A1 : ∀ k, a ≤ k → k < s → d'[k]! = d[k]! := fun k _ h => hr.rest k (.inl h)
  have A2 : ∀ k, s ≤ k → k < mid → d'[k]! = d[m + (k - s)]! := fun k h3 h4 => by
    have := hr.left (k - s) (by omega)
    rwa [show s + (k - s) = k by omega] at this
  have A3 : ∀ k, mid ≤ k → k < mid + m - s → d'[k]! = d[s + (k - mid)]! := fun k h3 h4 => by
    have := hr.right (k - mid) (by omega)
    rwa [show s + (mid + m - s - m) + (k - mid) = k by omega] at this
  have A4 : ∀ k, mid + m - s ≤ k → d'[k]! = d[k]! := fun k h => hr.rest k (.inr h)
  -- the two searches' words
  have B1 : a < s → mid + m - s < b → lt d[mid + m - s]! d[s - 1]! = false := fun h3 h4 => by
    by_cases h : mid < m
    · have := (hM.1 h).below (by omega)
      rwa [show mid + m - 1 - (s - 1) = mid + m - s by omega] at this
    · have := (hM.2 (by omega)).below (by omega)
      rwa [show mid + m - 1 - (s - 1) = mid + m - s by omega] at this
  have B2 : s < mid → s < m → lt d[s]! d[mid + m - 1 - s]! = false := fun h3 h4 => by
    by_cases h : mid < m
    · exact hS.asymmA ((hM.1 h).above (by omega))
    · exact hS.asymmA ((hM.2 (by omega)).above (by omega))
  refine ⟨q1, q2, q3, q5, q6, q4, ⟨(h1.sub (Nat.le_refl _) q3).keep A1, ?_, ?_, (h2.sub (by omega) (Nat.le_refl _)).keep (fun k h _ => A4 k h), ?_⟩⟩
  · intro i j h3 h4 h5
    rw [A2 i h3 (by omega), A2 j (by omega) h5]
    exact h2 _ _ (by omega) (by omega) (by omega)
  · intro i j h3 h4 h5
    rw [A3 i h3 (by omega), A3 j (by omega) h5]
    exact h1 _ _ (by omega) (by omega) (by omega)
  · intro i j h3 h4 h5 h6
    by_cases hi : i < s
    · rw [A1 i h3 hi]
      by_cases hj : j < mid + m - s
      · rw [A3 j h5 hj]
        exact h1 _ _ h3 (by omega) (by omega)
      · rw [A4 j (by omega)]
        exact hS.ntrans _ _ _ (h2.le hS (show m ≤ mid + m - s by omega) (by omega) h6) (hS.ntrans _ _ _ (B1 (by omega) (by omega)) (h1.le hS h3 (show i ≤ s - 1 by omega) (by omega)))
    · rw [A2 i (by omega) h4]
      by_cases hj : j < mid + m - s
      · rw [A3 j h5 hj]
        exact hS.ntrans _ _ _ (h1.le hS q1 (show s ≤ s + (j - mid) by omega) (by omega)) (hS.ntrans _ _ _ (B2 (by omega) (by omega)) (h2.le hS (show m ≤ m + (i - s) by omega) (show m + (i - s) ≤ mid + m - 1 - s by omega) (by omega)))
      · rw [A4 j (by omega)]
        exact h2 _ _ (by omega) (by omega) h6
/-- The two halves merged, the whole is. -/
theorem merged (hS : SWO lt) {a s mid e b : Nat} {d d1 d2 d3 : Array α} (ham : a < mid) (hmb : mid ≤ b) (hb : b ≤ d.size) (hp : PermIn a b d d1) (hh : Halves lt a s mid e b d1)
    (h2 : PermIn a mid d1 d2 ∧ Srt lt a mid d2) (h3 : PermIn mid b d2 d3 ∧ Srt lt mid b d3) : Mg lt a b d d3 := by
  have z1 : d1.size = d.size := hp.1
  have z2 : d2.size = d1.size := h2.1.1
  have p2 := permIn_mono d1 d2 a mid a b (Nat.le_refl _) hmb (by omega) h2.1
  have p3 := permIn_mono d2 d3 mid b a b (by omega) (Nat.le_refl _) (by omega) h3.1
  refine ⟨permIn_trans _ _ _ a b hp (permIn_trans _ _ _ a b p2 p3), ?_⟩
  refine Srt.join hS (m := mid) (h2.2.keep fun k _ h => h3.1.2.1 k (.inl h)) h3.2 ?_
  intro i j h4 h5 h6 h7
  rw [h3.1.2.1 i (.inl h5)]
  -- every x of the left half, every y of the right one
  have X1 : ∀ y, mid ≤ y → y < b → ∀ x, a ≤ x → x < mid → lt d1[y]! d2[x]! = false := fun y hy1 hy2 =>
    permIn_all d1 d2 a mid (fun v => lt d1[y]! v = false) (by omega) h2.1 (fun x hx1 hx2 => hh.x x y hx1 hx2 hy1 hy2)
  exact permIn_all d2 d3 mid b (fun v => lt v d2[i]! = false) (by omega) h3.1 (fun y hy1 hy2 => by
    rw [h2.1.2.1 y (.inr hy1)]
    exact X1 y hy1 hy2 i h4 h5) j h6 h7

/-- One that is brought to its place in a sorted part, step by step upwards: k steps are done. -/
structure Up (a k : Nat) (d d' : Array α) : Prop where
  size : d'.size = d.size
  left : ∀ x, a ≤ x → x < a + k → d'[x]! = d[x + 1]!
  it : d'[a + k]! = d[a]!
  rest : ∀ x, x < a ∨ a + k < x → d'[x]! = d[x]!
theorem Up.start (a : Nat) (d : Array α) : Up a 0 d d := ⟨rfl, fun x h1 h2 => by omega, rfl, fun x _ => rfl⟩
theorem Up.step {a k : Nat} {d d' : Array α} (h : Up a k d d') (hb : a + k + 1 < d.size) : Up a (k + 1) d (swp d' (a + k) (a + k + 1)) := by
  have hs := h.size
  have g := swp_get d' (show a + k < d'.size by omega) (show a + k + 1 < d'.size by omega)
  refine ⟨by rw [size_swp, hs], fun x h1 h2 => ?_, ?_, fun x hx => ?_⟩
  · rw [g, if_neg (by omega)]
    by_cases e : x = a + k
    · subst e; rw [if_pos rfl, h.rest _ (by omega)]
    · rw [if_neg e, h.left x h1 (by omega)]
  · rw [g, if_pos (by omega)]; exact h.it
  · rw [g, if_neg (by omega), if_neg (by omega), h.rest x (by omega)]
/-- The left part is one: brought up to its place. -/
theorem merge_left (hS : SWO lt) {a b i : Nat} {d d' : Array α} (hai : a + 1 ≤ i) (hib : i ≤ b) (h2 : Srt lt (a + 1) b d) (hl : a + 1 < i → lt d[i - 1]! d[a]! = true) (hr : i < b → lt d[i]! d[a]! = false)
    (hu : Up a (i - 1 - a) d d') : Srt lt a b d' := by
  have hit : d'[i - 1]! = d[a]! := by have := hu.it; rwa [show a + (i - 1 - a) = i - 1 by omega] at this
  intro x y hx hxy hy
  by_cases h1 : y < i - 1
  · rw [hu.left x hx (by omega), hu.left y (by omega) (by omega)]
    exact h2 _ _ (by omega) (by omega) (by omega)
  · by_cases e : y = i - 1
    · subst e
      rw [hit, hu.left x hx (by omega)]
      exact hS.asymmA (by
        have h3 := hl (by omega)
        -- d[x + 1] ≤ d[i - 1] < d[a]
        cases hc : lt d[x + 1]! d[a]! with
        | true => rfl
        | false =>
          have h4 := h2.le hS (show a + 1 ≤ x + 1 by omega) (show x + 1 ≤ i - 1 by omega) (by omega)
          have := hS.ntrans _ _ _ h4 hc
          rw [h3] at this; cases this)
    · rw [hu.rest y (by omega)]
      by_cases h3 : x < i - 1
      · rw [hu.left x hx (by omega)]
        exact h2 _ _ (by omega) (by omega) (by omega)
      · by_cases e3 : x = i - 1
        · subst e3
          rw [hit]
          exact hS.ntrans _ _ _ (h2.le hS (show a + 1 ≤ i by omega) (show i ≤ y by omega) hy) (hr (by omega))
        · rw [hu.rest x (by omega)]
          exact h2 _ _ (by omega) hxy hy
/-- One that is brought down: k steps are done. -/
structure Dn (m k : Nat) (d d' : Array α) : Prop where
  size : d'.size = d.size
  right : ∀ x, m - k < x → x ≤ m → d'[x]! = d[x - 1]!
  it : d'[m - k]! = d[m]!
  rest : ∀ x, x < m - k ∨ m < x → d'[x]! = d[x]!
theorem Dn.start (m : Nat) (d : Array α) : Dn m 0 d d := ⟨rfl, fun x h1 h2 => by omega, rfl, fun x _ => rfl⟩
theorem Dn.step {m k : Nat} {d d' : Array α} (h : Dn m k d d') (hk : k < m) (hb : m < d.size) : Dn m (k + 1) d (swp d' (m - k) (m - k - 1)) := by
  have hs := h.size
  have g := swp_get d' (show m - k < d'.size by omega) (show m - k - 1 < d'.size by omega)
  refine ⟨by rw [size_swp, hs], fun x h1 h2 => ?_, ?_, fun x hx => ?_⟩
  · rw [g, if_neg (by omega)]
    by_cases e : x = m - k
    · subst e; rw [if_pos rfl, h.rest _ (by omega)]
    · rw [if_neg e, h.right x (by omega) h2]
  · rw [g, if_pos (by omega)]; exact h.it
  · rw [g, if_neg (by omega), if_neg (by omega), h.rest x (by omega)]
/-- The right part is one: brought down to its place. -/
theorem merge_right (hS : SWO lt) {a m i : Nat} {d d' : Array α} (hai : a ≤ i) (him : i ≤ m) (h1 : Srt lt a m d) (hl : a < i → lt d[m]! d[i - 1]! = false) (hr : i < m → lt d[m]! d[i]! = true)
    (hu : Dn m (m - i) d d') : Srt lt a (m + 1) d' := by
  have hit : d'[i]! = d[m]! := by have := hu.it; rwa [show m - (m - i) = i by omega] at this
  intro x y hx hxy hy
  by_cases h2 : y < i
  · rw [hu.rest x (by omega), hu.rest y (by omega)]
    exact h1 _ _ hx hxy (by omega)
  · by_cases e : y = i
    · subst e
      rw [hit, hu.rest x (by omega)]
      exact hS.ntrans _ _ _ (hl (by omega)) (h1.le hS hx (show x ≤ y - 1 by omega) (by omega))
    · rw [hu.right y (by omega) (by omega)]
      by_cases h3 : x < i
      · rw [hu.rest x (by omega)]
        exact h1 _ _ hx (by omega) (by omega)
      · by_cases e3 : x = i
        · subst e3
          rw [hit]
          refine hS.asymmA ?_
          -- d[m] < d[x] ≤ d[y - 1]
          have h4 := hr (by omega)
          cases hc : lt d[m]! d[y - 1]! with
          | true => rfl
          | false =>
            have h5 := h1.le hS hx (show x ≤ y - 1 by omega) (by omega)
            have := hS.ntrans _ _ _ hc h5
            rw [h4] at this; cases this
        · rw [hu.right x (by omega) (by omega)]
          exact h1 _ _ (by omega) (by omega) (by omega)

/-- All parts of so many are sorted. -/
def Parts (lt : α → α → Bool) (bs n : Nat) (d : Array α) : Prop := ∀ x, bs ∣ x → Srt lt x (min (x + bs) n) d
theorem Parts.all {bs n : Nat} {d : Array α} (h : Parts lt bs n d) (hn : n ≤ bs) : Srt lt 0 n d := by
  have := h 0 (Nat.dvd_zero _)
  rwa [Nat.zero_add, Nat.min_eq_right hn] at this
/-- Of these, those up to a are merged by two. -/
structure Two (lt : α → α → Bool) (bs a n : Nat) (d : Array α) : Prop where
  dvd : 2 * bs ∣ a
  done : ∀ x, 2 * bs ∣ x → x + 2 * bs ≤ a → Srt lt x (x + 2 * bs) d
  rest : ∀ x, bs ∣ x → a ≤ x → Srt lt x (min (x + bs) n) d
theorem Two.start {bs n : Nat} {d : Array α} (hb : 0 < bs) (h : Parts lt bs n d) : Two lt bs 0 n d := ⟨Nat.dvd_zero _, fun x _ hx => by omega, fun x hx _ => h x hx⟩
theorem dvd_lt {b x a : Nat} (h1 : b ∣ x) (h2 : b ∣ a) (h : x < a) : x + b ≤ a := by
  obtain ⟨k, rfl⟩ := h1
  obtain ⟨l, rfl⟩ := h2
  have : k < l := Nat.lt_of_mul_lt_mul_left h
  calc b * k + b = b * (k + 1) := by rw [Nat.mul_succ]
    _ ≤ b * l := Nat.mul_le_mul_left _ this
theorem Two.step {bs a n : Nat} {d d' : Array α} (hb : 0 < bs) (h : Two lt bs a n d) (hn : a + 2 * bs ≤ n) (hm : Mg lt a (a + 2 * bs) d d') : Two lt bs (a + 2 * bs) n d' := by
  refine ⟨Nat.dvd_add h.dvd (Nat.dvd_refl _), fun x hx h1 => ?_, fun x hx h1 => ?_⟩
  · by_cases e : x = a
    · subst e; exact hm.sorted
    · have : x + 2 * bs ≤ a := by
        rcases Nat.lt_or_ge x a with h2 | h2
        · exact dvd_lt hx h.dvd h2
        · have := dvd_lt h.dvd hx (show a < x by omega); omega
      exact (h.done x hx this).keep fun k _ hk => hm.perm.2.1 k (.inl (by omega))
  · exact (h.rest x hx (by omega)).keep fun k hk _ => hm.perm.2.1 k (.inr (by omega))
theorem Two.merges {bs a n : Nat} {d : Array α} (h : Two lt bs a n d) (hn : a + bs ≤ n) : Srt lt a (a + bs) d ∧ Srt lt (a + bs) (min (a + 2 * bs) n) d := by
  have h0 : bs ∣ a := Nat.dvd_trans (Nat.dvd_mul_left _ _) h.dvd
  have h1 := h.rest a h0 (Nat.le_refl _)
  have h2 := h.rest (a + bs) (Nat.dvd_add h0 (Nat.dvd_refl _)) (by omega)
  rw [Nat.min_eq_left hn] at h1
  rw [show a + bs + bs = a + 2 * bs by omega] at h2
  exact ⟨h1, h2⟩
theorem Two.last {bs a n : Nat} {d d' : Array α} (hb : 0 < bs) (h : Two lt bs a n d) (hn : n < a + 2 * bs) (hs : Srt lt a n d') (hk : ∀ k, k < a → d'[k]! = d[k]!) : Parts lt (2 * bs) n d' := by
  intro x hx
  rcases Nat.lt_or_ge x a with h2 | h2
  · have h3 := dvd_lt hx h.dvd h2
    by_cases e : x + 2 * bs ≤ n
    · rw [Nat.min_eq_left e]
      exact (h.done x hx h3).keep fun k _ hk2 => hk k (by omega)
    · exact ((h.done x hx h3).keep fun k _ hk2 => hk k (by omega)).sub (Nat.le_refl _) (by omega)
  · exact hs.sub h2 (by omega)
/-- The blocks up to a are sorted. -/
def Blocks (lt : α → α → Bool) (bs a : Nat) (d : Array α) : Prop := bs ∣ a ∧ ∀ x, bs ∣ x → x + bs ≤ a → Srt lt x (x + bs) d
theorem Blocks.start (bs : Nat) (hb : 0 < bs) (d : Array α) : Blocks lt bs 0 d := ⟨Nat.dvd_zero _, fun x _ hx => by omega⟩
theorem Blocks.step {bs a : Nat} {d d' : Array α} (h : Blocks lt bs a d) (hp : PermIn a (a + bs) d d') (hs : Srt lt a (a + bs) d') : Blocks lt bs (a + bs) d' := by
  refine ⟨Nat.dvd_add h.1 (Nat.dvd_refl _), fun x hx h1 => ?_⟩
  rcases Nat.lt_or_ge x a with h2 | h2
  · have := dvd_lt hx h.1 h2
    exact (h.2 x hx this).keep fun k _ hk => hp.2.1 k (.inl (by omega))
  · obtain rfl : x = a := by omega
    exact hs
theorem Blocks.last {bs a n : Nat} {d d' : Array α} (hb : 0 < bs) (h : Blocks lt bs a d) (hn : n < a + bs) (hp : PermIn a n d d') (hs : Srt lt a n d') : Parts lt bs n d' := by
  intro x hx
  rcases Nat.lt_or_ge x a with h2 | h2
  · have h3 := dvd_lt hx h.1 h2
    exact ((h.2 x hx h3).keep fun k _ hk => hp.2.1 k (.inl (by omega))).sub (Nat.le_refl _) (by omega)
  · exact hs.sub h2 (by omega)
end Go.Proofs.YtigpaaelggnffaaGreatDoor.St

/- A row of elements of several cells, as the library's sort sees it: how it lies, two elements changed, what is asked of the less and of the swap. -/
namespace Go.Proofs.YtigpaaelggnffaaGreatDoor.St
open Go.Sort Go.RowKit Go.Proofs.YtigpaaelggnffaaGreatDoor.Lib Go.Proofs.YtigpaaelggnffaaGreatDoor.Sl Go.Extern
set_option linter.unusedVariables false
set_option linter.unusedSimpArgs false

def setL : List Value → Nat → List Value → List Value
  | cs, _, [] => cs
  | cs, o, v :: r => setL (cs.set o v) (o + 1) r
theorem arr_setCells {g e sz n c : Nat} : ∀ (vs : List Value) (o : Nat) {w : World} {cs : List Value}, Arr w e sz (some ⟨g, 0, none⟩) n c cs → Arr (w.setCells g o vs) e sz (some ⟨g, 0, none⟩) n c (setL cs o vs)
  | [], o, _, _, h => h
  | v :: r, o, _, _, h => by
    rw [World.setCells, setL]
    exact arr_setCells r (o + 1) (arr_set h o v)
theorem ext_setCells {S : Nat → Prop} {g : Nat} (hg : S g) : ∀ (vs : List Value) (o : Nat) {w w' : World}, Ext S w w' → Ext S w (w'.setCells g o vs)
  | [], o, _, _, h => h
  | v :: r, o, _, _, h => by
    rw [World.setCells]
    exact ext_setCells hg r (o + 1) (h.setCell (fun _ => hg) v)
theorem setL_mid : ∀ (vs B A C : List Value), B.length = vs.length → setL (A ++ B ++ C) A.length vs = A ++ vs ++ C
  | [], B, A, C, h => by
    rw [List.length_eq_zero_iff.1 h]
    rfl
  | v :: r, B, A, C, h => by
    rcases B with _ | ⟨b, B⟩
    · cases h
    · have := setL_mid r B (A ++ [v]) C (by simpa using h)
      rw [List.length_append] at this
      rw [setL]
      have e : (A ++ b :: B ++ C).set A.length v = A ++ [v] ++ B ++ C := by
        rw [List.append_assoc, List.set_append_right _ _ (Nat.le_refl _), Nat.sub_self]
        simp
      rw [e]
      rw [show (A ++ v :: r ++ C : List Value) = A ++ [v] ++ r ++ C by simp]
      exact this
variable {α : Type}
theorem flat_set (E : En α) {l : List α} {i : Nat} (x : α) (hi : i < l.length) : setL (flat E l) (i * E.sz) (E.enc x) = flat E (l.set i x) := by
  have e1 : l = l.take i ++ [l[i]] ++ l.drop (i + 1) := by simp
  have e2 : l.set i x = l.take i ++ [x] ++ l.drop (i + 1) := by rw [List.set_eq_take_append_cons_drop, if_pos hi]; simp
  have e3 : (flat E (l.take i)).length = i * E.sz := by rw [flat_length, List.length_take, Nat.min_eq_left (by omega)]
  rw [e2]
  conv => lhs; rw [e1]
  rw [flat_append, flat_append, flat_append, flat_append, flat_one, flat_one, ← e3]
  exact setL_mid _ _ _ _ (by rw [E.len, E.len])

/-- The row in block g holds d. -/
def Lies (e : Nat) (E : En α) (w : World) (g c : Nat) (d : Array α) : Prop := Arr w e E.sz (some ⟨g, 0, none⟩) d.size c (flat E d.toList)
theorem Lies.ext {e g c : Nat} {E : En α} {w w' : World} {d : Array α} {S : Nat → Prop} (h : Lies e E w g c d) (hx : Ext S w w') (hn : ¬ S g) : Lies e E w' g c d := arr_ext h hx (fun k hk => by cases hk; exact hn)
theorem Lies.lt {e g c : Nat} {E : En α} {w : World} {d : Array α} (h : Lies e E w g c d) : g < w.heap.size := arr_lt h rfl
variable [Inhabited α]
theorem get_bang {d : Array α} {i : Nat} (hi : i < d.size) : d.toList[i]? = some d[i]! := by
  rw [Array.getElem?_toList, Array.getElem?_eq_getElem hi, getElem!_pos d i hi]
theorem Lies.cells {e g c : Nat} {E : En α} {w : World} {d : Array α} (h : Lies e E w g c d) {i : Nat} (hi : i < d.size) (j : Nat) (hj : j < E.sz) : w.cell? ⟨g, i * E.sz + j, none⟩ = (E.enc d[i]!)[j]? := by
  have hb : i * E.sz + j < d.size * E.sz := by
    have := Nat.mul_le_mul_right E.sz (show i + 1 ≤ d.size from hi)
    rw [Nat.succ_mul] at this
    omega
  rw [arr_cell h _ hb]
  exact flat_get E (get_bang hi) j hj
theorem swap_lies {e g c : Nat} {E : En α} {w : World} {d : Array α} (h : Lies e E w g c d) {i j : Nat} (hi : i < d.size) (hj : j < d.size) :
    Lies e E ((w.setCells g (i * E.sz) (E.enc d[j]!)).setCells g (j * E.sz) (E.enc d[i]!)) g c (swp d i j) := by
  unfold Lies
  have e1 : (swp d i j).toList = (d.toList.set i d[j]!).set j d[i]! := by simp [swp]
  rw [size_swp, e1, ← flat_set E _ (by simpa using hj), ← flat_set E _ (by simpa using hi)]
  exact arr_setCells _ _ (arr_setCells _ _ h)
theorem run_swap {P : Program} {e g c : Nat} {E : En α} {w : World} {d : Array α} (q : Bool) (ie : TypeInfo) (hie : P.info? e = some ie) (hsz : ie.size = E.sz) (hagg : ∀ w, (isAgg e).run P w = .ok true w)
    (h : Lies e E w g c d) {i j : Nat} (hi : i < d.size) (hj : j < d.size) :
    (ReflectliteSwapper.swap q #[.int .i64 i, .int .i64 j, .slice (some ⟨g, 0, none⟩) d.size c, typeHandle P e]).run P w = .ok (.tuple #[]) ((w.setCells g (i * E.sz) (E.enc d[j]!)).setCells g (j * E.sz) (E.enc d[i]!)) := by
  have := Go.Lib.run_swap_cells (P := P) q e ie hie hagg g 0 d.size c i j hi hj (E.enc d[i]!) (E.enc d[j]!) (by rw [E.len, hsz]) (by rw [E.len, hsz]) (E.one _) (E.one _) w
    (fun k v hk => by
      have hk2 : k < E.sz := by
        rcases Nat.lt_or_ge k E.sz with h' | h'
        · exact h'
        · rw [List.getElem?_eq_none (by rw [E.len]; exact h')] at hk; cases hk
      rw [Nat.zero_add, hsz, h.cells hi k hk2, hk])
    (fun k v hk => by
      have hk2 : k < E.sz := by
        rcases Nat.lt_or_ge k E.sz with h' | h'
        · exact h'
        · rw [List.getElem?_eq_none (by rw [E.len]; exact h')] at hk; cases hk
      rw [Nat.zero_add, hsz, h.cells hj k hk2, hk])
    (fun k hk => arr_frozen h _) (fun k hk => arr_frozen h _)
  rw [Nat.zero_add, Nat.zero_add, hsz] at this
  exact this
/-- What is asked of the less: a closure lf, bound to lb, where only the row in block g has changed since w0. -/
def LessOk (P : Program) (e : Nat) (E : En α) (lf : Nat) (lb : Array Value) (lt : α → α → Bool) (g c n : Nat) (w0 : World) : Prop :=
  ∀ (W : World) (d : Array α), Lies e E W g c d → d.size = n → Ext (fun k => k = g) w0 W → ∀ i j : Nat, i < n → j < n →
    Calls P lf (#[.int .i64 i, .int .i64 j] ++ lb) W fun e w' => e = .returned (.bool (lt d[i]! d[j]!)) ∧ Ext (fun _ => False) W w'
theorem LessOk.on {P : Program} {e g c n lf : Nat} {E : En α} {lb : Array Value} {lt : α → α → Bool} {w0 w1 : World} (h : LessOk P e E lf lb lt g c n w0) (hx : Ext (fun k => k = g) w0 w1) : LessOk P e E lf lb lt g c n w1 :=
  fun W d hl hs hw => h W d hl hs (hx.trans hw (fun _ _ h => h))
/-- What is asked of the swap. -/
def SwapOk (P : Program) (e : Nat) (E : En α) (sf : Nat) (sb : Array Value) (g c n : Nat) : Prop :=
  ∀ (W : World) (d : Array α), Lies e E W g c d → d.size = n → ∀ i j : Nat, i < n → j < n →
    ∃ W', (callFunc sf (#[.int .i64 i, .int .i64 j] ++ sb)).run P W = .ok (.value (.tuple #[])) W' ∧ Lies e E W' g c (swp d i j) ∧ Ext (fun k => k = g) W W'
/-- What a function of the sort leaves: the row, rearranged; nothing else is changed. -/
def RowEnd (e : Nat) (E : En α) (g c : Nat) (w : World) (R : Array α → Prop) (en : Ending) (w' : World) : Prop :=
  en = .returned (.tuple #[]) ∧ ∃ d', R d' ∧ Lies e E w' g c d' ∧ Ext (fun k => k = g) w w'
end Go.Proofs.YtigpaaelggnffaaGreatDoor.St

/- The library's stable sort, walked: swapRange, rotate, symMerge, insertionSort, stable, SliceStable, over a row of elements of several cells. -/
namespace Go.Proofs.YtigpaaelggnffaaGreatDoor.St
open Go.Sort Go.RowKit Go.Proofs.YtigpaaelggnffaaGreatDoor.Lib Go.Proofs.YtigpaaelggnffaaGreatDoor.Sl
set_option linter.unusedVariables false
set_option linter.unusedSimpArgs false
variable {α : Type} [Inhabited α] {e g c n lf sf : Nat} {E : En α} {lb sb : Array Value} {lt : α → α → Bool}

set_option maxRecDepth 100000 in
set_option maxHeartbeats 4000000 in
theorem swapRange_any (hs : SwapOk Tryz.prog e E sf sb g c n) {W : World} {d : Array α} (hl : Lies e E W g c d) (hn : d.size = n) (hb : n ≤ 1048576) (a b k : Nat) (ha : a + k ≤ b) (hbk : b + k ≤ n) :
    Calls Tryz.prog 148 #[.agg #[.func (.func lf) #[] lb, .func (.func sf) #[] sb], .int .i64 a, .int .i64 b, .int .i64 k] W fun en w' =>
      RowEnd e E g c W (fun d' => SwR a b k d d' ∧ ∀ lo hi, lo ≤ a → b + k ≤ hi → hi ≤ n → PermIn lo hi d d') en w' := by
  have H := Lib.hid hs
  have X0 := Lib.hid ((Ext.refl (fun k => k = g) W).alloc (.cells #[.func (.func lf) #[] lb, .func (.func sf) #[] sb] 147))
  have L0 := Lib.hid (hl.ext ((Ext.refl (fun _ => False) W).alloc (.cells #[.func (.func lf) #[] lb, .func (.func sf) #[] sb] 147)) (fun h => h))
  have HG := Lib.hid hl.lt
  have HN := Lib.hid hn
  have B0 := Lib.hid (heap_alloc_new W (.cells #[.func (.func lf) #[] lb, .func (.func sf) #[] sb] 147))
  clear hs hl hn
  go_enter Tryz.func148, Tryz.ntmps148
  go_wp2_with fail
  obtain ⟨o, ho⟩ : ∃ o, W.heap.size = o := ⟨_, rfl⟩
  obtain ⟨W1, hW1⟩ : ∃ W1, W.alloc (.cells #[.func (.func lf) #[] lb, .func (.func sf) #[] sb] 147) = W1 := ⟨_, rfl⟩
  rw [hW1] at X0 L0 B0
  rw [ho] at B0 HG
  try rw [hW1]
  try rw [ho]
  clear hW1 ho
  go_loopw [8] (fun v wr => ∃ (i : Nat) (d' : Array α), v = .int .i64 i ∧ i ≤ k ∧ SwR a b i d d' ∧ (∀ lo hi, lo ≤ a → b + k ≤ hi → hi ≤ n → PermIn lo hi d d') ∧ Lies e E wr g c d' ∧ Ext (fun k => k = g) W1 wr) (fun v _ => k - (intOf v).toNat)
  case atStart => exact ⟨0, d, rfl, Nat.zero_le _, SwR.start _ _ _, fun lo hi _ _ _ => permIn_refl _ _ _, L0.out, Ext.refl _ _⟩
  case round =>
    obtain ⟨i, d', rfl, hi, hsw, hp, hl, hx⟩ := hrel
    have SW := Lib.hid hsw
    have PE := Lib.hid hp
    have HL := Lib.hid hl
    have HX := Lib.hid hx
    have hob := hx.obj B0.out (fun h => by have := HG.out; omega)
    have c1 := blk_cell hob 1
    simp at c1
    by_cases hlt : i < k
    · have i1 : (i : Int) < (k : Int) := by omega
      obtain ⟨W', hrun, hl2, hx2⟩ := H.out wr d' hl (hsw.size.trans HN.out) (a + i) (b + i) (by omega) (by omega)
      have e1 : ((a + i : Nat) : Int) = (a : Int) + (i : Int) := by omega
      have e2 : ((b + i : Nat) : Int) = (b : Int) + (i : Int) := by omega
      rw [e1, e2] at hrun
      have SW2 := Lib.hid (hsw.step (by omega) (by have := HN.out; omega))
      have PE2 := Lib.hid (show ∀ lo hi, lo ≤ a → b + k ≤ hi → hi ≤ n → PermIn lo hi d (swp d' (a + i) (b + i)) from fun lo hi q1 q2 q3 => permIn_trans _ _ _ lo hi (PE.out lo hi q1 q2 q3) (swp_permIn d' lo hi _ _ (by omega) (by omega) (by omega) (by omega) (by rw [SW.out.size, HN.out]; exact q3)))
      have HL2 := Lib.hid hl2
      have HX2 := Lib.hid (HX.out.trans hx2 (fun _ _ h => h))
      clear hsw hp hl hx hl2 hx2 hob e1 e2
      go_wp2_with fail
      go_roundw
      case rel => exact ⟨i + 1, _, by go_num, hlt, SW2.out, PE2.out, HL2.out, HX2.out⟩
      case measure => simp [intOf]; omega
    · obtain rfl : i = k := by omega
      have i1 : ¬ (i : Int) < (i : Int) := by omega
      clear hsw hp hl hx hob
      go_wp2_with fail
      go_end0
      exact ⟨rfl, d', ⟨SW.out, PE.out⟩, HL.out, X0.out.trans HX.out (fun _ _ h => h)⟩
set_option maxRecDepth 100000 in
set_option maxHeartbeats 4000000 in
theorem rotate_any (hs : SwapOk Tryz.prog e E sf sb g c n) {W : World} {d : Array α} (hl : Lies e E W g c d) (hn : d.size = n) (hb : n ≤ 1048576) (a m b : Nat) (ham : a < m) (hmb : m < b) (hbn : b ≤ n) :
    Calls Tryz.prog 123 #[.agg #[.func (.func lf) #[] lb, .func (.func sf) #[] sb], .int .i64 a, .int .i64 m, .int .i64 b] W fun en w' => RowEnd e E g c W (fun d' => Rot a m b d d' ∧ PermIn a b d d') en w' := by
  have SR := Lib.hid (fun (W : World) (d : Array α) (hl : Lies e E W g c d) (hn : d.size = n) (a b k : Nat) (ha : a + k ≤ b) (hbk : b + k ≤ n) => swapRange_any (lf := lf) (lb := lb) hs hl hn hb a b k ha hbk)
  have H := Lib.hid hs
  have X0 := Lib.hid ((Ext.refl (fun k => k = g) W).alloc (.cells #[.func (.func lf) #[] lb, .func (.func sf) #[] sb] 147))
  have L0 := Lib.hid (hl.ext ((Ext.refl (fun _ => False) W).alloc (.cells #[.func (.func lf) #[] lb, .func (.func sf) #[] sb] 147)) (fun h => h))
  have HG := Lib.hid hl.lt
  have HN := Lib.hid hn
  have B0 := Lib.hid (heap_alloc_new W (.cells #[.func (.func lf) #[] lb, .func (.func sf) #[] sb] 147))
  clear hs hl hn
  have e1 : (m : Int) - (a : Int) = ((m - a : Nat) : Int) := by omega
  have e2 : (b : Int) - (m : Int) = ((b - m : Nat) : Int) := by omega
  go_enter Tryz.func123, Tryz.ntmps123
  go_wp2_with fail
  obtain ⟨o, ho⟩ : ∃ o, W.heap.size = o := ⟨_, rfl⟩
  obtain ⟨W1, hW1⟩ : ∃ W1, W.alloc (.cells #[.func (.func lf) #[] lb, .func (.func sf) #[] sb] 147) = W1 := ⟨_, rfl⟩
  rw [hW1] at X0 L0 B0
  rw [ho] at B0 HG
  try rw [hW1]
  try rw [ho]
  clear hW1 ho
  go_loopw [8, 9] (fun vi vj wr => ∃ (i j : Nat) (d' : Array α), vi = .int .i64 i ∧ vj = .int .i64 j ∧ 0 < i ∧ 0 < j ∧ i ≤ m - a ∧ j ≤ b - m ∧ (∀ d'', Rot (m - i) m (m + j) d' d'' → Rot a m b d d'') ∧ PermIn a b d d' ∧ Lies e E wr g c d' ∧ Ext (fun k => k = g) W1 wr) (fun vi vj _ => (intOf vi).toNat + (intOf vj).toNat)
  case atStart => exact ⟨m - a, b - m, d, rfl, rfl, by omega, by omega, Nat.le_refl _, Nat.le_refl _, fun d'' h => by rwa [show m - (m - a) = a by omega, show m + (b - m) = b by omega] at h, permIn_refl _ _ _, L0.out, Ext.refl _ _⟩
  case round =>
    obtain ⟨i, j, d', rfl, rfl, hi0, hj0, hi, hj, ht, hp, hl, hx⟩ := hrel
    have T := Lib.hid ht
    have PE := Lib.hid hp
    have HL := Lib.hid hl
    have HX := Lib.hid hx
    have hob := hx.obj B0.out (fun h => by have := HG.out; omega)
    have c0 := blk_cell hob 0
    have c1 := blk_cell hob 1
    simp at c0 c1
    have hsz : d'.size = n := hp.1.trans HN.out
    have e3 : (m : Int) - (i : Int) = ((m - i : Nat) : Int) := by omega
    rcases Nat.lt_trichotomy i j with hij | hij | hij
    · have i1 : ((i : Int) != (j : Int)) = true := bne_iff_ne.2 (by omega)
      have i2 : ¬ (i : Int) > (j : Int) := by omega
      have e4 : (m : Int) + (j : Int) - (i : Int) = ((m + j - i : Nat) : Int) := by omega
      have e5 : (j : Int) - (i : Int) = ((j - i : Nat) : Int) := by omega
      have CR := Lib.hid (SR.out _ _ hl hsz (m - i) (m + j - i) i (by omega) (by omega))
      clear ht hp hl hx hob
      go_wp2_with fail
      refine CR.out.mono ?_
      rintro en W2 ⟨rfl, d1, ⟨hs1, hp1⟩, hl1, hx1⟩
      have T2 := Lib.hid (fun d'' h => T.out d'' (rot_lt (by omega) hij hs1 h))
      have P2 := Lib.hid (permIn_trans _ _ _ a b PE.out (hp1 a b (by omega) (by omega) hbn))
      have L2 := Lib.hid hl1
      have X2 := Lib.hid (HX.out.trans hx1 (fun _ _ h => h))
      clear hs1 hp1 hl1 hx1 CR
      go_wp2_with fail
      go_roundw
      case rel => exact ⟨i, j - i, d1, rfl, by go_num, hi0, by omega, hi, by omega, T2.out, P2.out, L2.out, X2.out⟩
      case measure => simp [intOf]; omega
    · subst hij
      have i1 : ((i : Int) != (i : Int)) = false := by simp
      have CR := Lib.hid (SR.out _ _ hl hsz (m - i) m i (by omega) (by omega))
      clear ht hp hl hx hob
      go_wp2_with fail
      refine CR.out.mono ?_
      rintro en W2 ⟨rfl, d1, ⟨hs1, hp1⟩, hl1, hx1⟩
      have T2 := Lib.hid (T.out d1 (rot_eq (by omega) hs1))
      have P2 := Lib.hid (permIn_trans _ _ _ a b PE.out (hp1 a b (by omega) (by omega) hbn))
      have L2 := Lib.hid hl1
      have X2 := Lib.hid (X0.out.trans (HX.out.trans hx1 (fun _ _ h => h)) (fun _ _ h => h))
      clear hs1 hp1 hl1 hx1 CR
      go_wp2_with fail
      go_end0
      exact ⟨rfl, d1, ⟨T2.out, P2.out⟩, L2.out, X2.out⟩
    · have i1 : ((i : Int) != (j : Int)) = true := bne_iff_ne.2 (by omega)
      have i2 : (i : Int) > (j : Int) := by omega
      have e5 : (i : Int) - (j : Int) = ((i - j : Nat) : Int) := by omega
      have CR := Lib.hid (SR.out _ _ hl hsz (m - i) m j (by omega) (by omega))
      clear ht hp hl hx hob
      go_wp2_with fail
      refine CR.out.mono ?_
      rintro en W2 ⟨rfl, d1, ⟨hs1, hp1⟩, hl1, hx1⟩
      have T2 := Lib.hid (fun d'' h => T.out d'' (rot_gt (by omega) hij hs1 h))
      have P2 := Lib.hid (permIn_trans _ _ _ a b PE.out (hp1 a b (by omega) (by omega) hbn))
      have L2 := Lib.hid hl1
      have X2 := Lib.hid (HX.out.trans hx1 (fun _ _ h => h))
      clear hs1 hp1 hl1 hx1 CR
      go_wp2_with fail
      go_roundw
      case rel => exact ⟨i - j, j, d1, by go_num, rfl, by omega, hj0, by omega, hj, T2.out, P2.out, L2.out, X2.out⟩
      case measure => simp [intOf]; omega
end Go.Proofs.YtigpaaelggnffaaGreatDoor.St

/- The library's insertion sort by a less, walked, over a row of elements of several cells. -/
namespace Go.Proofs.YtigpaaelggnffaaGreatDoor.St
open Go.Sort Go.RowKit Go.Proofs.YtigpaaelggnffaaGreatDoor.Lib Go.Proofs.YtigpaaelggnffaaGreatDoor.Sl
set_option linter.unusedVariables false
set_option linter.unusedSimpArgs false
variable {α : Type} [Inhabited α] {e g c n lf sf : Nat} {E : En α} {lb sb : Array Value} {lt : α → α → Bool}

theorem ins_go {a j : Nat} {d : Array α} (h : a < j) (hl : lt d[j]! d[j - 1]! = true) : insInner lt a j d = insInner lt a (j - 1) (swp d j (j - 1)) := by
  obtain ⟨j, rfl⟩ : ∃ k, j = k + 1 := ⟨j - 1, by omega⟩
  simp only [Nat.add_sub_cancel] at hl ⊢
  conv => lhs; unfold insInner
  rw [if_pos (by simp [h, hl])]
theorem ins_stop {a j : Nat} {d : Array α} (h : j ≤ a ∨ lt d[j]! d[j - 1]! = false) : insInner lt a j d = d := by
  rcases j with _ | j
  · unfold insInner; rfl
  · simp only [Nat.add_sub_cancel] at h
    conv => lhs; unfold insInner
    rw [if_neg]
    rcases h with h | h
    · simp; intro h'; omega
    · simp [h]
theorem ins_size {a : Nat} : ∀ (j : Nat) (d : Array α), (insInner lt a j d).size = d.size
  | 0, d => by unfold insInner; rfl
  | j + 1, d => by
    unfold insInner
    split
    · rw [ins_size j, size_swp]
    · rfl
theorem out_go {a b i : Nat} {d : Array α} (h : i < b) : insOuter lt a b i d = insOuter lt a b (i + 1) (insInner lt a i d) := by
  conv => lhs; rw [insOuter, if_pos h]
theorem out_stop {a b i : Nat} {d : Array α} (h : ¬ i < b) : insOuter lt a b i d = d := by rw [insOuter, if_neg h]

set_option maxRecDepth 100000 in
set_option maxHeartbeats 4000000 in
theorem insertion_any {w0 : World} (eg : ∀ args w, (callFunc lf args).run Tryz.prog w = .ok (.enter lf args) w) (hle : LessOk Tryz.prog e E lf lb lt g c n w0) (hs : SwapOk Tryz.prog e E sf sb g c n) {W : World} {d : Array α}
    (hw : Ext (fun k => k = g) w0 W) (hl : Lies e E W g c d) (hn : d.size = n) (hb : n ≤ 1048576) (a b : Nat) (hab : a ≤ b) (hbn : b ≤ n) :
    Calls Tryz.prog 105 #[.agg #[.func (.func lf) #[] lb, .func (.func sf) #[] sb], .int .i64 a, .int .i64 b] W fun en w' => RowEnd e E g c W (fun d' => d' = insertionSort lt d a b) en w' := by
  have H := Lib.hid hs
  have X0 := Lib.hid ((Ext.refl (fun k => k = g) W).alloc (.cells #[.func (.func lf) #[] lb, .func (.func sf) #[] sb] 147))
  have L0 := Lib.hid (hl.ext ((Ext.refl (fun _ => False) W).alloc (.cells #[.func (.func lf) #[] lb, .func (.func sf) #[] sb] 147)) (fun h => h))
  have HG := Lib.hid hl.lt
  have HN := Lib.hid hn
  have B0 := Lib.hid (heap_alloc_new W (.cells #[.func (.func lf) #[] lb, .func (.func sf) #[] sb] 147))
  clear hs hl hn
  have LE := Lib.hid hle
  have HW0 := Lib.hid hw
  clear hle hw
  go_enter Tryz.func105, Tryz.ntmps105
  go_wp2_with fail
  obtain ⟨o, ho⟩ : ∃ o, W.heap.size = o := ⟨_, rfl⟩
  obtain ⟨W1, hW1⟩ : ∃ W1, W.alloc (.cells #[.func (.func lf) #[] lb, .func (.func sf) #[] sb] 147) = W1 := ⟨_, rfl⟩
  rw [hW1] at X0 L0 B0
  rw [ho] at B0 HG
  try rw [hW1]
  try rw [ho]
  clear hW1 ho
  have HW := Lib.hid (HW0.out.trans X0.out (fun _ _ h => h))
  go_loopw [6] (fun v wr => ∃ (i : Nat) (d' : Array α), v = .int .i64 i ∧ a < i ∧ i ≤ b + 1 ∧ d'.size = n ∧ insOuter lt a b i d' = insOuter lt a b (a + 1) d ∧ Lies e E wr g c d' ∧ Ext (fun k => k = g) W1 wr) (fun v _ => b + 1 - (intOf v).toNat)
  case atStart => exact ⟨a + 1, d, by go_num, by omega, by omega, HN.out, rfl, L0.out, Ext.refl _ _⟩
  case round =>
    obtain ⟨i, d', rfl, hai, hib, hsz, ho, hl, hx⟩ := hrel
    have HO := Lib.hid ho
    have HL := Lib.hid hl
    have HX := Lib.hid hx
    have HZ := Lib.hid hsz
    clear ho hl hx hsz
    by_cases hlt : i < b
    · have i1 : (i : Int) < (b : Int) := by omega
      go_wp2_with fail
      go_loopw [7] (fun v wr2 => ∃ (j : Nat) (dj : Array α), v = .int .i64 j ∧ a ≤ j ∧ j ≤ i ∧ dj.size = n ∧ insInner lt a j dj = insInner lt a i d' ∧ Lies e E wr2 g c dj ∧ Ext (fun k => k = g) W1 wr2) (fun v _ => (intOf v).toNat)
      case atStart => exact ⟨i, d', rfl, by omega, Nat.le_refl _, HZ.out, rfl, HL.out, HX.out⟩
      case round =>
        obtain ⟨j, dj, rfl, haj, hji, hszj, hi, hlj, hxj⟩ := hrel
        have HI := Lib.hid hi
        have HLJ := Lib.hid hlj
        have HXJ := Lib.hid hxj
        have hob := hxj.obj B0.out (fun h => by have := HG.out; omega)
        have c0 := blk_cell hob 0
        have c1 := blk_cell hob 1
        simp at c0 c1
        have HSJ := Lib.hid hszj
        have HR := Lib.hid (show (j ≤ a ∨ lt dj[j]! dj[j - 1]! = false) → insOuter lt a b (i + 1) dj = insOuter lt a b (a + 1) d from fun h => by rw [← HO.out, out_go hlt, ← HI.out, ins_stop h])
        by_cases hja : a < j
        · have i2 : (j : Int) > (a : Int) := by omega
          have hl1 := LE.out wr dj hlj hszj (HW.out.trans hxj (fun _ _ h => h)) j (j - 1) (by omega) (by omega)
          have e1 : ((j - 1 : Nat) : Int) = (j : Int) - 1 := by omega
          rw [e1] at hl1
          cases hlv : lt dj[j]! dj[j - 1]! with
          | true =>
            rw [hlv] at hl1
            have LC := Lib.hid hl1
            have HGO := Lib.hid (ins_go hja hlv)
            clear hi hlj hxj hob hszj hl1 hlv e1
            go_wp2_with fail
            refine LC.out.mono ?_
            rintro en W2 ⟨rfl, hx2⟩
            have L2 := Lib.hid (HLJ.out.ext hx2 (fun h => h))
            have X2 := Lib.hid (HXJ.out.trans hx2 (fun _ _ h => h.elim))
            have hob2 := X2.out.obj B0.out (fun h => by have := HG.out; omega)
            have c2 := blk_cell hob2 1
            simp at c2
            obtain ⟨W3, hrun, hl3, hx3⟩ := H.out W2 dj L2.out HSJ.out j (j - 1) (by omega) (by omega)
            have e1 : ((j - 1 : Nat) : Int) = (j : Int) - 1 := by omega
            rw [e1] at hrun
            have L3 := Lib.hid hl3
            have X3 := Lib.hid (X2.out.trans hx3 (fun _ _ h => h))
            clear hx2 hob2 hl3 hx3 e1 LC
            go_wp2_with fail
            go_roundw
            case rel => exact ⟨j - 1, swp dj j (j - 1), by congr 1; omega, by omega, by omega, by rw [size_swp]; exact HSJ.out, by rw [← HGO.out, HI.out], L3.out, X3.out⟩
            case measure => simp [intOf]; omega
          | false =>
            rw [hlv] at hl1
            have LC := Lib.hid hl1
            have R2 := Lib.hid (HR.out (.inr hlv))
            clear hi hlj hxj hob hszj hl1 hlv e1
            go_wp2_with fail
            refine LC.out.mono ?_
            rintro en W2 ⟨rfl, hx2⟩
            have L2 := Lib.hid (HLJ.out.ext hx2 (fun h => h))
            have X2 := Lib.hid (HXJ.out.trans hx2 (fun _ _ h => h.elim))
            clear hx2 LC
            go_wp2_with fail
            go_roundw
            case rel => exact ⟨i + 1, dj, by go_num, by omega, by omega, HSJ.out, R2.out, L2.out, X2.out⟩
            case measure => simp [intOf]; omega
        · have i2 : ¬ (j : Int) > (a : Int) := by omega
          have R2 := Lib.hid (HR.out (.inl (by omega)))
          clear hi hlj hxj hob hszj
          go_wp2_with fail
          go_roundw
          case rel => exact ⟨i + 1, dj, by go_num, by omega, by omega, HSJ.out, R2.out, HLJ.out, HXJ.out⟩
          case measure => simp [intOf]; omega
    · have i1 : ¬ (i : Int) < (b : Int) := by omega
      have R2 := Lib.hid (show d' = insertionSort lt d a b from by unfold insertionSort; rw [← HO.out, out_stop hlt])
      go_wp2_with fail
      go_end0
      exact ⟨rfl, d', R2.out, HL.out, X0.out.trans HX.out (fun _ _ h => h)⟩
end Go.Proofs.YtigpaaelggnffaaGreatDoor.St
