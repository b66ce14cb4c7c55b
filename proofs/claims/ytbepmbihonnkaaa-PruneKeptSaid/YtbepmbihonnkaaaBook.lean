/- tesserabook.Within: a number brought into lo .. hi. -/
import Derived.Test.YtbepmbihonnkaaaLib
import Derived.Test.YtbepmbihonnkaaaProg
namespace Go.Proofs.Ytbepmbihonnkaaa.Book
open Go.RowKit Go.Proofs.Ytbepmbihonnkaaa.Lib
set_option linter.unusedVariables false
set_option linter.unusedSimpArgs false

def within (n lo hi : Int) : Int := lo + n % (hi - lo + 1)
theorem within_bd (n lo hi : Int) (h : lo ≤ hi) : lo ≤ within n lo hi ∧ within n lo hi ≤ hi := by
  unfold within
  have h1 := Int.emod_nonneg n (show hi - lo + 1 ≠ 0 by omega)
  have h2 := Int.emod_lt_of_pos n (show 0 < hi - lo + 1 by omega)
  omega
theorem tmod_emod (n m : Int) (hm : 0 < m) : n % m = if n.tmod m < 0 then n.tmod m + m else n.tmod m := by
  rcases Int.le_total 0 n with h | h
  · have h1 := Int.tmod_nonneg (b := m) (a := n) h
    rw [if_neg (by omega), Int.tmod_eq_emod_of_nonneg h]
  · have h1 := Int.emod_nonneg n (show m ≠ 0 by omega)
    have h2 := Int.emod_lt_of_pos n hm
    rw [Int.tmod_eq_emod]
    by_cases hd : 0 ≤ n ∨ m ∣ n
    · rw [if_pos hd]; rw [if_neg (by omega)]; omega
    · rw [if_neg hd]
      have : n % m ≠ 0 := fun e => hd (.inr (Int.dvd_of_emod_eq_zero e))
      have ha : m.natAbs = m := by omega
      rw [if_pos (by omega)]; omega

set_option maxHeartbeats 400000 in
theorem within_any (n lo hi : Int) (w : World) (h : lo ≤ hi) (h1 : -1099511627776 ≤ lo) (h2 : hi ≤ 1099511627776) :
    Calls Try.prog 29 #[.int .i64 n, .int .i64 lo, .int .i64 hi] w fun e w' => e = .returned (.int .i64 (within n lo hi)) ∧ w = w' := by
  have hm : 0 < hi - lo + 1 := by omega
  have ht := tmod_emod n (hi - lo + 1) hm
  have b1 := Int.emod_nonneg n (show hi - lo + 1 ≠ 0 by omega)
  have b2 := Int.emod_lt_of_pos n hm
  have E : within n lo hi = lo + n % (hi - lo + 1) := rfl
  have b3 : n.tmod (hi - lo + 1) < hi - lo + 1 := by split at ht <;> omega
  have b4 : -(hi - lo + 1) ≤ n.tmod (hi - lo + 1) := by split at ht <;> omega
  have HE := Lib.hid E
  have HT := Lib.hid ht
  clear E ht b1 b2
  by_cases hc : n.tmod (hi - lo + 1) < 0
  · go_enter Try.func29, Try.ntmps29
    go_wp2
    go_ret
    exact ⟨ret_int (by rw [HE.out, HT.out, if_pos hc]; omega), rfl⟩
  · go_enter Try.func29, Try.ntmps29
    go_wp2
    go_ret
    exact ⟨ret_int (by rw [HE.out, HT.out, if_neg (by omega)]), rfl⟩
end Go.Proofs.Ytbepmbihonnkaaa.Book
