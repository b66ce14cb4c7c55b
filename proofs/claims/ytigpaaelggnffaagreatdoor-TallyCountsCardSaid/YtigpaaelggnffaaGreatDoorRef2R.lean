/- The document's items (tesseraref2), walked: read, Complete, Items. -/
import Derived.Test.YtigpaaelggnffaaGreatDoorRef2W
namespace Go.Proofs.YtigpaaelggnffaaGreatDoor.R2
open Go.RowKit Go.Proofs.YtigpaaelggnffaaGreatDoor.Lib Go.Proofs.YtigpaaelggnffaaGreatDoor.Sl Go.Proofs.YtigpaaelggnffaaGreatDoor.Cut
set_option linter.unusedVariables false
set_option linter.unusedSimpArgs false

set_option maxRecDepth 100000 in
theorem wrap_small (y : Nat) (hy : y < 256) : IntKind.i32.wrap (y : Int) = (y : Int) :=
  (show ∀ z : Fin 256, IntKind.i32.wrap ((z.val : Nat) : Int) = ((z.val : Nat) : Int) by decide) ⟨y, hy⟩
theorem and_mask (x j : Nat) (hx : x < 256) (hj : j ≤ 7) : bits .and .i32 (x : Int) ((2 ^ j - 1 : Nat) : Int) = ((x % 2 ^ j : Nat) : Int) := by
  have hp : 2 ^ j ≤ 128 := Nat.pow_le_pow_right (n := 2) (by decide) hj
  have h1 : x % 2 ^ j < 2 ^ j := Nat.mod_lt _ (Nat.two_pow_pos j)
  have key : (BitVec.ofInt 32 (x : Int) &&& BitVec.ofInt 32 ((2 ^ j - 1 : Nat) : Int)).toNat = x % 2 ^ j := by
    rw [BitVec.toNat_and, BitVec.toNat_ofInt, BitVec.toNat_ofInt, Int.emod_eq_of_lt (by omega) (by omega), Int.emod_eq_of_lt (by omega) (by omega), Int.toNat_natCast, Int.toNat_natCast, Nat.and_two_pow_sub_one_eq_mod]
  show IntKind.i32.wrap ((BitVec.ofInt 32 (x : Int) &&& BitVec.ofInt 32 ((2 ^ j - 1 : Nat) : Int)).toNat) = _
  rw [key]
  exact wrap_small _ (by omega)
/-- A sequence's rune so far. -/
def rdGo (s : ByteArray) (k m : Nat) : Nat → Nat
  | 0 => 0
  | 1 => bt s k % m
  | i + 2 => rdGo s k m (i + 1) * 64 + bt s (k + (i + 1)) % 64
theorem rdGo_next (s : ByteArray) (k m : Nat) {i : Nat} (hi : 1 ≤ i) : rdGo s k m (i + 1) = rdGo s k m i * 64 + bt s (k + i) % 64 := by
  obtain ⟨j, rfl⟩ : ∃ j, i = j + 1 := ⟨i - 1, by omega⟩
  rfl
theorem rdGo_le (s : ByteArray) (k m : Nat) (hm : m ≤ 32) (h0 : 0 < m) : ∀ i, i ≤ 4 → rdGo s k m i ≤ 16777215 := fun i hi => by
  have := Nat.mod_lt (bt s k) h0
  have := Nat.mod_lt (bt s (k + 1)) (show 0 < 64 by decide)
  have := Nat.mod_lt (bt s (k + 2)) (show 0 < 64 by decide)
  have := Nat.mod_lt (bt s (k + 3)) (show 0 < 64 by decide)
  match i, hi with
  | 0, _ => simp [rdGo]
  | 1, _ => simp only [rdGo]; omega
  | 2, _ => simp only [rdGo, Nat.zero_add]; omega
  | 3, _ => simp only [rdGo, Nat.zero_add]; omega
  | 4, _ => simp only [rdGo, Nat.zero_add]; omega
set_option maxRecDepth 100000 in
set_option maxHeartbeats 2000000 in
theorem read_seq (s : ByteArray) (k n m : Nat) (hk : k + n ≤ s.size) (hn : (n = 2 ∧ m = 32) ∨ (n = 3 ∧ m = 16) ∨ (n = 4 ∧ m = 8)) (hs : s.size ≤ 1048576) (w : World) : Calls Tryz.prog 145 #[.string s, .int .i64 k, .int .i64 n] w fun e w' => e = .returned (.int .i32 (rdGo s k m n : Nat)) ∧ w = w' := by
  have hk0 : k < s.size := by omega
  obtain ⟨x, hx, hx0, hx1, _, hxe⟩ := bt_int hk0
  obtain ⟨c, hc⟩ : ∃ c, bt s k = c := ⟨_, rfl⟩
  rw [hc] at hxe
  subst hxe
  have hand : bits .and .i32 (c : Int) (127 / 2 ^ n) = ((c % m : Nat) : Int) := by
    rcases hn with ⟨rfl, rfl⟩ | ⟨rfl, rfl⟩ | ⟨rfl, rfl⟩
    · exact and_mask c 5 (by omega) (by decide)
    · exact and_mask c 4 (by omega) (by decide)
    · exact and_mask c 3 (by omega) (by decide)
  have q1 : ((n : Int) == 1) = false := by simpa using (by omega : ¬ (n : Int) = 1)
  have hn4 : 2 ≤ n ∧ n ≤ 4 := by omega
  have R1 := Lib.hid (show rdGo s k m 1 = c % m from by rw [← hc]; rfl)
  have RL := Lib.hid (rdGo_le s k m (by omega) (by omega))
  obtain ⟨cm, hcm⟩ : ∃ cm, c % m = cm := ⟨_, rfl⟩
  rw [hcm] at hand R1
  have hcb : cm ≤ 255 := by have := Nat.mod_le c m; omega
  obtain ⟨hn2, hn4⟩ := hn4
  have HB := Lib.hid hand
  clear hcm hc hn hand
  go_enter Tryz.func145, Tryz.ntmps145
  go_wp2_with fail
  go_loopw [7, 8] (fun vr vi wr => ∃ i : Nat, vr = .int .i32 (rdGo s k m i : Nat) ∧ vi = .int .i64 i ∧ 1 ≤ i ∧ i ≤ n ∧ wr = w) (fun _ vi _ => n - (intOf vi).toNat)
  case atStart => exact ⟨1, by rw [R1.out, HB.out], rfl, Nat.le_refl _, by omega, rfl⟩
  case round =>
    obtain ⟨i, rfl, rfl, hi1, hi2, rfl⟩ := hrel
    by_cases hlt : i < n
    · have i1 : (i : Int) < (n : Int) := by omega
      have RN := Lib.hid (rdGo_next s k m hi1)
      have hr := RL.out i (by omega)
      obtain ⟨r, hr2⟩ : ∃ r, rdGo s k m i = r := ⟨_, rfl⟩
      rw [hr2] at RN hr
      rw [hr2]
      obtain ⟨a, ha⟩ : ∃ a, k + i = a := ⟨_, rfl⟩
      have j1 : (k : Int) + (i : Int) = (a : Int) := by omega
      have hl : a < s.size := by omega
      have i2 : (a : Int) < (s.size : Int) := by omega
      obtain ⟨y, hy, hy0, hy1, _, hye⟩ := bt_int hl
      rw [ha] at RN
      obtain ⟨b, hb⟩ : ∃ b, bt s a = b := ⟨_, rfl⟩
      rw [hb] at hye RN
      subst hye
      have hand2 : bits .and .i32 (b : Int) 63 = ((b % 64 : Nat) : Int) := and_mask b 6 (by omega) (by decide)
      obtain ⟨bm, hbm⟩ : ∃ bm, b % 64 = bm := ⟨_, rfl⟩
      rw [hbm] at hand2 RN
      have hbl : bm ≤ 63 := by omega
      clear hr2 ha hb hbm
      go_wp2_with fail
      go_roundw
      case rel => exact ⟨i + 1, by rw [RN.out]; go_num, by go_num, by omega, hlt, trivial⟩
      case measure => simp [intOf]; omega
    · have i1 : ¬ (i : Int) < (n : Int) := by omega
      obtain rfl : i = n := by omega
      go_wp2_with fail
      go_ret
      exact ⟨rfl, rfl⟩
end Go.Proofs.YtigpaaelggnffaaGreatDoor.R2
