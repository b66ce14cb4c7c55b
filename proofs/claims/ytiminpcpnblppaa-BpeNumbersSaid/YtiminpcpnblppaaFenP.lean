/- A tree of partial sums, pure: the lowest bit of a number; what below and cut do. -/
import Derived.Test.YtiminpcpnblppaaBpeInv
import Derived.Laws.Entries
import Derived.IntWalk
namespace Go.Proofs.Ytiminpcpnblppaa.Bpe
open Go.RowKit Go.Proofs.Ytiminpcpnblppaa.Lib Go.Proofs.Ytiminpcpnblppaa.Sl Go.Proofs.Ytiminpcpnblppaa.Chain
set_option linter.unusedVariables false
set_option linter.unusedSimpArgs false

theorem bit_and (a b x y : Nat) (hx : x < 2) (hy : y < 2) : (2 * a + x) &&& (2 * b + y) = 2 * (a &&& b) + (x &&& y) := by
  have h1 := @Nat.and_div_two (2 * a + x) (2 * b + y)
  have h2 := @Nat.and_mod_two_pow (2 * a + x) (2 * b + y) 1
  rw [show (2 * a + x) / 2 = a by omega, show (2 * b + y) / 2 = b by omega] at h1
  rw [Nat.pow_one, show (2 * a + x) % 2 = x by omega, show (2 * b + y) % 2 = y by omega] at h2
  omega
theorem comp_and : ∀ (w q : Nat), q < 2 ^ w → q &&& (2 ^ w - 1 - q) = 0 := by
  intro w
  induction w with
  | zero =>
    intro q h
    have hq : q = 0 := by simpa using h
    subst hq
    rfl
  | succ w ih =>
    intro q h
    have hp : 2 ^ (w + 1) = 2 * 2 ^ w := by rw [Nat.pow_succ]; omega
    have h1 := ih (q / 2) (by omega)
    have e1 : q = 2 * (q / 2) + q % 2 := by omega
    have e2 : 2 ^ (w + 1) - 1 - q = 2 * (2 ^ w - 1 - q / 2) + (1 - q % 2) := by omega
    rw [e2]
    have := bit_and (q / 2) (2 ^ w - 1 - q / 2) (q % 2) (1 - q % 2) (by omega) (by omega)
    rw [← e1] at this
    rw [this, h1]
    rcases Nat.mod_two_eq_zero_or_one q with h | h <;> rw [h] <;> rfl
/-- The lowest bit of a number. -/
def low (n : Nat) : Nat := if h : n = 0 then 0 else if n % 2 = 1 then 1 else 2 * low (n / 2)
termination_by n
theorem low_odd {n : Nat} (h : n % 2 = 1) : low n = 1 := by
  rw [low, dif_neg (by omega), if_pos h]
theorem low_even {n : Nat} (h0 : n ≠ 0) (h : n % 2 = 0) : low n = 2 * low (n / 2) := by
  rw [low, dif_neg h0, if_neg (by omega)]
theorem low_and : ∀ (w i : Nat), 0 < i → i < 2 ^ w → i &&& (2 ^ w - i) = low i := by
  intro w
  induction w with
  | zero =>
    intro i h0 h
    have hq : i = 0 := by simpa using h
    omega
  | succ w ih =>
    intro i h0 h
    have hp : 2 ^ (w + 1) = 2 * 2 ^ w := by rw [Nat.pow_succ]; omega
    rcases Nat.mod_two_eq_zero_or_one i with hm | hm
    · rw [low_even (by omega) hm, ← ih (i / 2) (by omega) (by omega)]
      have := bit_and (i / 2) (2 ^ w - i / 2) 0 0 (by omega) (by omega)
      rw [show 2 * (i / 2) + 0 = i by omega, show 2 * (2 ^ w - i / 2) + 0 = 2 ^ (w + 1) - i by omega] at this
      rw [this]
      rfl
    · rw [low_odd hm]
      have := bit_and (i / 2) (2 ^ w - 1 - i / 2) 1 1 (by omega) (by omega)
      rw [show 2 * (i / 2) + 1 = i by omega, show 2 * (2 ^ w - 1 - i / 2) + 1 = 2 ^ (w + 1) - i by omega] at this
      rw [this, comp_and w _ (by omega)]
      rfl
theorem low_bd : ∀ n : Nat, 0 < n → 1 ≤ low n ∧ low n ≤ n := by
  intro n
  induction n using Nat.strongRecOn with
  | ind n ih =>
    intro h
    rcases Nat.mod_two_eq_zero_or_one n with hm | hm
    · rw [low_even (by omega) hm]
      have := ih (n / 2) (by omega) (by omega)
      omega
    · rw [low_odd hm]; omega
/-- Between i and i + low i: no number reaches below i. -/
theorem low_add : ∀ (i m : Nat), 0 < m → m < low i → low (i + m) ≤ m := by
  intro i
  induction i using Nat.strongRecOn with
  | ind i ih =>
    intro m h0 h
    by_cases hi : i = 0
    · subst hi; rw [low] at h; simp at h
    rcases Nat.mod_two_eq_zero_or_one i with hm | hm
    · rw [low_even hi hm] at h
      rcases Nat.mod_two_eq_zero_or_one m with hk | hk
      · rw [low_even (by omega) (by omega), show (i + m) / 2 = i / 2 + m / 2 by omega]
        have := ih (i / 2) (by omega) (m / 2) (by omega) (by omega)
        omega
      · rw [low_odd (by omega)]; omega
    · rw [low_odd hm] at h; omega
theorem low_next : ∀ i : Nat, 0 < i → 2 * low i ≤ low (i + low i) := by
  intro i
  induction i using Nat.strongRecOn with
  | ind i ih =>
    intro h
    rcases Nat.mod_two_eq_zero_or_one i with hm | hm
    · have := ih (i / 2) (by omega) (by omega)
      rw [low_even (by omega) hm, low_even (n := i + 2 * low (i / 2)) (by omega) (by omega), show (i + 2 * low (i / 2)) / 2 = i / 2 + low (i / 2) by omega]
      omega
    · rw [low_odd hm, low_even (by omega) (by omega)]
      have := low_bd ((i + 1) / 2) (by omega)
      omega

theorem low_bits (i : Nat) (h0 : 0 < i) (h : i < 4611686018427387904) : bits .and .i64 (i : Int) (-(i : Int)) = (low i : Int) := by
  have h1 := low_and 64 i h0 (by omega)
  have h2 := low_bd i h0
  have e : (BitVec.ofInt 64 (i : Int) &&& BitVec.ofInt 64 (-(i : Int))).toNat = low i := by
    rw [BitVec.toNat_and, ← h1]
    congr 1
    · rw [BitVec.ofInt_natCast, BitVec.toNat_ofNat]; omega
    · rw [BitVec.toNat_ofInt]
      omega
  show IntKind.i64.wrap ((BitVec.ofInt 64 (i : Int) &&& BitVec.ofInt 64 (-(i : Int))).toNat : Int) = _
  rw [e]
  exact IntWalk.i64_in _ (by omega)
/-- What the tree keeps at i. -/
def cover (al : Nat → Bool) (i : Nat) : Int := (cnt al i : Int) - (cnt al (i - low i) : Int)
structure Tree (al : Nat → Bool) (n : Nat) (t : List Int) : Prop where
  len : t.length = n + 1
  at_ : ∀ i, 0 < i → i ≤ n → t[i]? = some (cover al i)
/-- A cut under way: below i it is done. -/
structure CutTr (al : Nat → Bool) (j n : Nat) (t : List Int) (i : Nat) : Prop where
  len : t.length = n + 1
  lo : i - low i ≤ j
  hi : j < i
  done : ∀ k, 0 < k → k < i → k ≤ n → t[k]? = some (cover (cutAl al j) k)
  todo : ∀ k, i ≤ k → k ≤ n → t[k]? = some (cover al k)
theorem cover_in {al : Nat → Bool} {j k : Nat} (ha : al j = true) (h1 : k - low k ≤ j) (h2 : j < k) : cover (cutAl al j) k = cover al k - 1 := by
  have e1 := cnt_cut al j ha k
  have e2 := cnt_cut al j ha (k - low k)
  rw [if_pos h2] at e1
  rw [if_neg (by omega)] at e2
  unfold cover
  omega
theorem cover_out {al : Nat → Bool} {j k : Nat} (ha : al j = true) (h : j < k - low k ∨ k ≤ j) : cover (cutAl al j) k = cover al k := by
  have e1 := cnt_cut al j ha k
  have e2 := cnt_cut al j ha (k - low k)
  unfold cover
  rcases h with h | h
  · rw [if_pos (by omega)] at e1
    rw [if_pos h] at e2
    omega
  · rw [if_neg (by omega)] at e1
    rw [if_neg (by omega)] at e2
    omega
theorem Tree.begin {al : Nat → Bool} {j n : Nat} {t : List Int} (h : Tree al n t) (ha : al j = true) : CutTr al j n t (j + 1) := by
  have hb := low_bd (j + 1) (by omega)
  refine ⟨h.len, by omega, by omega, fun k h0 h1 h2 => ?_, fun k h1 h2 => h.at_ k (by omega) h2⟩
  rw [cover_out ha (.inr (by omega))]
  exact h.at_ k h0 h2
theorem CutTr.step {al : Nat → Bool} {j n i : Nat} {t : List Int} (h : CutTr al j n t i) (ha : al j = true) (hi : i ≤ n) : CutTr al j n (t.set i (cover al i - 1)) (i + low i) := by
  have h1 := h.hi
  have h2 := h.lo
  have hb := low_bd i (by omega)
  have hn := low_next i (by omega)
  have hb2 := low_bd (i + low i) (by omega)
  have hl := h.len
  refine ⟨by rw [List.length_set]; exact h.len, by omega, by omega, fun k k0 k1 k2 => ?_, fun k k1 k2 => ?_⟩
  · rcases Nat.lt_trichotomy k i with hk | hk | hk
    · rw [List.getElem?_set_ne (by omega)]
      exact h.done k k0 hk k2
    · subst hk
      rw [List.getElem?_set_self (by omega), cover_in ha h2 h1]
    · rw [List.getElem?_set_ne (by omega), h.todo k (by omega) k2, cover_out ha]
      obtain ⟨m, rfl⟩ : ∃ m, k = i + m := ⟨k - i, by omega⟩
      have := low_add i m (by omega) (by omega)
      exact .inl (by omega)
  · rw [List.getElem?_set_ne (by omega)]
    exact h.todo k (by omega) k2
theorem CutTr.end_ {al : Nat → Bool} {j n i : Nat} {t : List Int} (h : CutTr al j n t i) (hi : n < i) : Tree (cutAl al j) n t := ⟨h.len, fun k h0 h1 => h.done k h0 (by omega) h1⟩
end Go.Proofs.Ytiminpcpnblppaa.Bpe
