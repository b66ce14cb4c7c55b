/- The document's items (tesseraref2), walked: need, second, fits, Width, Begins, read. -/
import Derived.Test.YtigpaaelggnffaaGreatDoorRef2P
import Derived.Test.YtigpaaelggnffaaGreatDoorEncode
namespace Go.Proofs.YtigpaaelggnffaaGreatDoor.R2
open Go.RowKit Go.Proofs.YtigpaaelggnffaaGreatDoor.Lib Go.Proofs.YtigpaaelggnffaaGreatDoor.Sl Go.Proofs.YtigpaaelggnffaaGreatDoor.Cut
set_option linter.unusedVariables false
set_option linter.unusedSimpArgs false

theorem need_any (x : Int) (h0 : 0 ≤ x) (h1 : x < 256) (w : World) : Calls Tryz.prog 159 #[.int .u8 x] w fun e w' => e = .returned (.int .i64 (need x.toNat : Nat)) ∧ w = w' := by
  have hc : (x < 194 ∧ need x.toNat = 0) ∨ (194 ≤ x ∧ x ≤ 223 ∧ need x.toNat = 2) ∨ (224 ≤ x ∧ x ≤ 239 ∧ need x.toNat = 3) ∨ (240 ≤ x ∧ x ≤ 244 ∧ need x.toNat = 4) ∨ (244 < x ∧ need x.toNat = 0) := by
    unfold need
    repeat' split
    all_goals omega
  rcases hc with ⟨a, e⟩ | ⟨a, b, e⟩ | ⟨a, b, e⟩ | ⟨a, b, e⟩ | ⟨a, e⟩
  · have E := Lib.hid e
    clear e
    have d1 : decide (x ≥ 194) = false := decide_eq_false (by omega)
    have d2 : decide (x ≥ 224) = false := decide_eq_false (by omega)
    have d3 : decide (x ≥ 240) = false := decide_eq_false (by omega)
    go_enter Tryz.func159, Tryz.ntmps159
    go_wp2_with fail
    go_ret
    exact ⟨by rw [E.out]; rfl, rfl⟩
  · have E := Lib.hid e
    clear e
    have d1 : decide (x ≥ 194) = true := decide_eq_true (by omega)
    have d2 : decide (x ≤ 223) = true := decide_eq_true (by omega)
    go_enter Tryz.func159, Tryz.ntmps159
    go_wp2_with fail
    go_ret
    exact ⟨by rw [E.out]; rfl, rfl⟩
  · have E := Lib.hid e
    clear e
    have d1 : decide (x ≥ 194) = true := decide_eq_true (by omega)
    have d2 : decide (x ≤ 223) = false := decide_eq_false (by omega)
    have d3 : decide (x ≥ 224) = true := decide_eq_true (by omega)
    have d4 : decide (x ≤ 239) = true := decide_eq_true (by omega)
    go_enter Tryz.func159, Tryz.ntmps159
    go_wp2_with fail
    go_ret
    exact ⟨by rw [E.out]; rfl, rfl⟩
  · have E := Lib.hid e
    clear e
    have d1 : decide (x ≥ 194) = true := decide_eq_true (by omega)
    have d2 : decide (x ≤ 223) = false := decide_eq_false (by omega)
    have d3 : decide (x ≥ 224) = true := decide_eq_true (by omega)
    have d4 : decide (x ≤ 239) = false := decide_eq_false (by omega)
    have d5 : decide (x ≥ 240) = true := decide_eq_true (by omega)
    have d6 : decide (x ≤ 244) = true := decide_eq_true (by omega)
    go_enter Tryz.func159, Tryz.ntmps159
    go_wp2_with fail
    go_ret
    exact ⟨by rw [E.out]; rfl, rfl⟩
  · have E := Lib.hid e
    clear e
    have d1 : decide (x ≥ 194) = true := decide_eq_true (by omega)
    have d2 : decide (x ≤ 223) = false := decide_eq_false (by omega)
    have d3 : decide (x ≥ 224) = true := decide_eq_true (by omega)
    have d4 : decide (x ≤ 239) = false := decide_eq_false (by omega)
    have d5 : decide (x ≥ 240) = true := decide_eq_true (by omega)
    have d6 : decide (x ≤ 244) = false := decide_eq_false (by omega)
    go_enter Tryz.func159, Tryz.ntmps159
    go_wp2_with fail
    go_ret
    exact ⟨by rw [E.out]; rfl, rfl⟩
theorem second_part (x y lo hi : Int) (r : Bool) (h : r = (decide (lo ≤ y) && decide (y ≤ hi))) : (decide (y ≥ lo) = true ∧ decide (y ≤ hi) = r) ∨ (decide (y ≥ lo) = false ∧ r = false) := by
  by_cases h1 : lo ≤ y
  · left
    rw [h, decide_eq_true h1, Bool.true_and]
    exact ⟨rfl, rfl⟩
  · right
    rw [h, decide_eq_false h1, Bool.false_and]
    exact ⟨rfl, rfl⟩
def secB (x y : Int) : Bool := decide ((lo2 x.toNat : Int) ≤ y) && decide (y ≤ (hi2 x.toNat : Int))
theorem second_any (x y : Int) (h0 : 0 ≤ x) (w : World) : Calls Tryz.prog 162 #[.int .u8 x, .int .u8 y] w fun e w' => e = .returned (.bool (secB x y)) ∧ w = w' := by
  have hc : (x = 224 ∧ lo2 x.toNat = 160 ∧ hi2 x.toNat = 191) ∨ (x = 237 ∧ lo2 x.toNat = 128 ∧ hi2 x.toNat = 159) ∨ (x = 240 ∧ lo2 x.toNat = 144 ∧ hi2 x.toNat = 191) ∨ (x = 244 ∧ lo2 x.toNat = 128 ∧ hi2 x.toNat = 143) ∨ ((x ≠ 224 ∧ x ≠ 237 ∧ x ≠ 240 ∧ x ≠ 244) ∧ lo2 x.toNat = 128 ∧ hi2 x.toNat = 191) := by
    unfold lo2 hi2
    repeat' split
    all_goals omega
  obtain ⟨r, hr⟩ : ∃ r, secB x y = r := ⟨_, rfl⟩
  rw [hr]
  unfold secB at hr
  rcases hc with ⟨rfl, e1, e2⟩ | ⟨rfl, e1, e2⟩ | ⟨rfl, e1, e2⟩ | ⟨rfl, e1, e2⟩ | ⟨⟨n1, n2, n3, n4⟩, e1, e2⟩
  · rw [e1, e2] at hr
    clear e1 e2
    rcases second_part 0 y 160 191 r hr.symm with ⟨d1, d2⟩ | ⟨d1, d2⟩
    · clear hr
      go_enter Tryz.func162, Tryz.ntmps162
      go_wp2_with fail
      go_ret
      exact ⟨rfl, rfl⟩
    · subst d2
      clear hr
      go_enter Tryz.func162, Tryz.ntmps162
      go_wp2_with fail
      go_ret
      exact ⟨rfl, rfl⟩
  · rw [e1, e2] at hr
    clear e1 e2
    rcases second_part 0 y 128 159 r hr.symm with ⟨d1, d2⟩ | ⟨d1, d2⟩
    · clear hr
      go_enter Tryz.func162, Tryz.ntmps162
      go_wp2_with fail
      go_ret
      exact ⟨rfl, rfl⟩
    · subst d2
      clear hr
      go_enter Tryz.func162, Tryz.ntmps162
      go_wp2_with fail
      go_ret
      exact ⟨rfl, rfl⟩
  · rw [e1, e2] at hr
    clear e1 e2
    rcases second_part 0 y 144 191 r hr.symm with ⟨d1, d2⟩ | ⟨d1, d2⟩
    · clear hr
      go_enter Tryz.func162, Tryz.ntmps162
      go_wp2_with fail
      go_ret
      exact ⟨rfl, rfl⟩
    · subst d2
      clear hr
      go_enter Tryz.func162, Tryz.ntmps162
      go_wp2_with fail
      go_ret
      exact ⟨rfl, rfl⟩
  · rw [e1, e2] at hr
    clear e1 e2
    rcases second_part 0 y 128 143 r hr.symm with ⟨d1, d2⟩ | ⟨d1, d2⟩
    · clear hr
      go_enter Tryz.func162, Tryz.ntmps162
      go_wp2_with fail
      go_ret
      exact ⟨rfl, rfl⟩
    · subst d2
      clear hr
      go_enter Tryz.func162, Tryz.ntmps162
      go_wp2_with fail
      go_ret
      exact ⟨rfl, rfl⟩
  · rw [e1, e2] at hr
    clear e1 e2
    have q1 : (x == 224) = false := by simpa using n1
    have q2 : (x == 237) = false := by simpa using n2
    have q3 : (x == 240) = false := by simpa using n3
    have q4 : (x == 244) = false := by simpa using n4
    rcases second_part 0 y 128 191 r hr.symm with ⟨d1, d2⟩ | ⟨d1, d2⟩
    · clear hr n1 n2 n3 n4
      go_enter Tryz.func162, Tryz.ntmps162
      go_wp2_with fail
      go_ret
      exact ⟨rfl, rfl⟩
    · subst d2
      clear hr n1 n2 n3 n4
      go_enter Tryz.func162, Tryz.ntmps162
      go_wp2_with fail
      go_ret
      exact ⟨rfl, rfl⟩
theorem bt_int {s : ByteArray} {k : Nat} (h : k < s.size) : ∃ x : Int, ((s[k]'h).toNat : Int) = x ∧ 0 ≤ x ∧ x < 256 ∧ x.toNat = bt s k ∧ x = (bt s k : Int) := by
  have := bt_lt s k
  exact ⟨(bt s k : Int), by rw [bt_at h], by omega, by omega, by omega, rfl⟩
theorem okB_sec {s : ByteArray} {k : Nat} {x y : Int} (hl : k + 1 < s.size) (hx : x = (bt s k : Int)) (hy : y = (bt s (k + 1) : Int)) : okB s k 1 ↔ secB x y = true := by
  subst hx hy
  unfold okB secB
  rw [if_pos rfl, Bool.and_eq_true, decide_eq_true_iff, decide_eq_true_iff, Int.toNat_natCast]
  omega
theorem okB_far {s : ByteArray} {k i : Nat} {y : Int} (hl : k + i < s.size) (hi : i ≠ 1) (hy : y = (bt s (k + i) : Int)) : okB s k i ↔ 128 ≤ y ∧ y ≤ 191 := by
  subst hy
  unfold okB
  rw [if_neg hi]
  omega
set_option maxRecDepth 100000 in
set_option maxHeartbeats 2000000 in
theorem fits_any (s : ByteArray) (k most : Nat) (hk : k < s.size) (hm : 1 ≤ most) (hm4 : most ≤ 4) (hs : s.size ≤ 1048576) (w : World) : Calls Tryz.prog 160 #[.string s, .int .i64 k, .int .i64 most] w fun e w' => ∃ n : Nat, e = .returned (.int .i64 n) ∧ Fits s k most n ∧ w = w' := by
  obtain ⟨x, hx, hx0, hx1, _, hxe⟩ := bt_int hk
  have XE := Lib.hid hxe
  clear hxe
  go_enter Tryz.func160, Tryz.ntmps160
  go_wp2_with fail
  go_loopw [7] (fun vn wr => ∃ n : Nat, vn = .int .i64 n ∧ 1 ≤ n ∧ n ≤ most ∧ (∀ i, 1 ≤ i → i < n → okB s k i) ∧ wr = w) (fun vn _ => most - (intOf vn).toNat)
  case atStart => exact ⟨1, rfl, Nat.le_refl _, hm, (fun i h1 h2 => by omega), rfl⟩
  case round =>
    obtain ⟨n, rfl, hn1, hn2, hok, rfl⟩ := hrel
    have OK := Lib.hid hok
    clear hok
    by_cases hlt : n < most
    · have i1 : (n : Int) < (most : Int) := by omega
      obtain ⟨m, hmn⟩ : ∃ m, k + n = m := ⟨_, rfl⟩
      have j1 : (k : Int) + (n : Int) = (m : Int) := by omega
      by_cases hl : m < s.size
      · have i2 : (m : Int) < (s.size : Int) := by omega
        obtain ⟨y, hy, hy0, hy1, _, hye⟩ := bt_int hl
        have YE := Lib.hid hye
        have MN := Lib.hid hmn
        clear hye hmn
        by_cases hn : n = 1
        · subst hn
          have SC := Lib.hid (second_any x y hx0 wr)
          have OS := Lib.hid (okB_sec (s := s) (k := k) (x := x) (y := y) (by have := MN.out; omega) XE.out (by rw [MN.out]; exact YE.out))
          have j2 : (k : Int) + 1 = (m : Int) := by omega
          obtain ⟨r, hr⟩ : ∃ r, secB x y = r := ⟨_, rfl⟩
          rw [hr] at SC OS
          clear hr
          cases r with
          | false =>
            go_wp2_with fail
            refine SC.out.mono ?_
            rintro e w' ⟨rfl, rfl⟩
            go_wp2_with fail
            go_ret
            exact ⟨1, rfl, ⟨hn1, hn2, OK.out, .inr (fun h => by have := OS.out.1 h; cases this)⟩, rfl⟩
          | true =>
            go_wp2_with fail
            refine SC.out.mono ?_
            rintro e w' ⟨rfl, rfl⟩
            go_wp2_with fail
            go_roundw
            case rel => exact ⟨1 + 1, by go_num, by omega, hlt, fun i h1 h2 => by obtain rfl : i = 1 := by omega
                                                                                  exact OS.out.2 (by first | rfl | trivial), trivial⟩
            case measure => simp [intOf]; omega
        · have q1 : ((n : Int) == 1) = false := by simpa using (by omega : ¬ (n : Int) = 1)
          have d1 : decide (1 < n) = true := decide_eq_true (by omega)
          have d1' : decide ((n : Int) > 1) = true := decide_eq_true (by omega)
          have OF := Lib.hid (okB_far (s := s) (k := k) (i := n) (y := y) (by have := MN.out; omega) hn (by rw [MN.out]; exact YE.out))
          have nb : ∀ P : Prop, ¬ (128 ≤ y ∧ y ≤ 191) → (okB s k n → P) := fun P h h2 => absurd (OF.out.1 h2) h
          have NB := Lib.hid nb
          have HN := Lib.hid hn
          clear nb hn
          by_cases h1 : y < 128
          · have d2 : decide (y < 128) = true := decide_eq_true h1
            go_wp2_with fail
            go_ret
            exact ⟨n, rfl, ⟨hn1, hn2, OK.out, .inr (NB.out False (by omega))⟩, rfl⟩
          · have d2 : decide (y < 128) = false := decide_eq_false h1
            by_cases h2 : y > 191
            · have d3 : decide (y > 191) = true := decide_eq_true h2
              go_wp2_with fail
              go_ret
              exact ⟨n, rfl, ⟨hn1, hn2, OK.out, .inr (NB.out False (by omega))⟩, rfl⟩
            · have d3 : decide (y > 191) = false := decide_eq_false h2
              have NX := Lib.hid (show ∀ i, 1 ≤ i → i < n + 1 → okB s k i from fun i h1 h2 => by
                by_cases h : i < n
                · exact OK.out i h1 h
                · obtain rfl : i = n := by omega
                  exact OF.out.2 (by omega))
              go_wp2_with fail
              go_roundw
              case rel => exact ⟨n + 1, by go_num, by omega, hlt, NX.out, trivial⟩
              case measure => simp [intOf]; omega
      · have i2 : ¬ (m : Int) < (s.size : Int) := by omega
        have MN := Lib.hid hmn
        clear hmn
        go_wp2_with fail
        go_ret
        exact ⟨n, rfl, ⟨hn1, hn2, OK.out, .inr (fun h => by have := h.1; have := MN.out; omega)⟩, rfl⟩
    · have i1 : ¬ (n : Int) < (most : Int) := by omega
      go_wp2_with fail
      go_ret
      exact ⟨n, rfl, ⟨hn1, hn2, OK.out, .inl (by omega)⟩, rfl⟩
theorem need_cases (c : Nat) : need c = 0 ∨ need c = 2 ∨ need c = 3 ∨ need c = 4 := by
  unfold need
  repeat' split
  all_goals omega
/-- What Width tells of an item. -/
def WidthIs (s : ByteArray) (k n : Nat) : Prop := (n = 0 ∧ itemAt s k = bad1 k) ∨ (1 ≤ n ∧ n ≤ 4 ∧ itemAt s k = ⟨k, n, readT s k n, false⟩)
set_option maxRecDepth 100000 in
set_option maxHeartbeats 2000000 in
theorem width_any (s : ByteArray) (k : Nat) (hk : k < s.size) (hs : s.size ≤ 1048576) (w : World) : Calls Tryz.prog 144 #[.string s, .int .i64 k] w fun e w' => ∃ n : Nat, e = .returned (.int .i64 n) ∧ WidthIs s k n ∧ w = w' := by
  obtain ⟨x, hx, hx0, hx1, hxn, hxe⟩ := bt_int hk
  have XE := Lib.hid hxe
  clear hxe
  by_cases h1 : x < 128
  · have d1 : decide (x < 128) = true := decide_eq_true h1
    have W1 := Lib.hid (show WidthIs s k 1 from .inr ⟨Nat.le_refl _, by omega, by rw [item_one hk (by have := XE.out; omega)]; rfl⟩)
    go_enter Tryz.func144, Tryz.ntmps144
    go_wp2_with fail
    go_ret
    exact ⟨1, rfl, W1.out, rfl⟩
  · have d1 : decide (x < 128) = false := decide_eq_false h1
    have ND := need_any x hx0 hx1
    rw [hxn] at ND
    have HB := Lib.hid (show 128 ≤ bt s k from by have := XE.out; omega)
    obtain ⟨m, hm⟩ : ∃ m, need (bt s k) = m := ⟨_, rfl⟩
    rw [hm] at ND
    have ND := Lib.hid ND
    have hmc := need_cases (bt s k)
    rw [hm] at hmc
    have HM := Lib.hid hm
    clear hm hxn
    by_cases hm0 : m = 0
    · subst hm0
      have W1 := Lib.hid (show WidthIs s k 0 from .inl ⟨rfl, item_none hk HB.out HM.out⟩)
      go_enter Tryz.func144, Tryz.ntmps144
      go_wp2_with fail
      refine (ND.out _).mono ?_
      rintro e w' ⟨rfl, rfl⟩
      go_wp2_with fail
      go_ret
      exact ⟨0, rfl, W1.out, rfl⟩
    · have q1 : ((m : Int) == 0) = false := by simpa using (by omega : ¬ (m : Int) = 0)
      have FT := Lib.hid (fits_any s k m hk (by omega) (by omega) hs)
      go_enter Tryz.func144, Tryz.ntmps144
      go_wp2_with fail
      refine (ND.out _).mono ?_
      rintro e w' ⟨rfl, rfl⟩
      go_wp2_with fail
      refine (FT.out _).mono ?_
      rintro e w' ⟨n, rfl, ⟨f1, f2, f3, f4⟩, rfl⟩
      have F3 := Lib.hid f3
      have F4 := Lib.hid f4
      clear f3 f4
      by_cases hlt : n < m
      · have i1 : (n : Int) < (m : Int) := by omega
        have W1 := Lib.hid (show WidthIs s k 0 from .inl ⟨rfl, item_cut hk HM.out f1 hlt (F4.out.resolve_left (by omega))⟩)
        go_wp2_with fail
        go_ret
        exact ⟨0, rfl, W1.out, rfl⟩
      · have i1 : ¬ (n : Int) < (m : Int) := by omega
        obtain rfl : n = m := by omega
        have W1 := Lib.hid (show WidthIs s k n from .inr ⟨f1, by omega, item_seq hk HM.out f1 F3.out⟩)
        go_wp2_with fail
        go_ret
        exact ⟨n, rfl, W1.out, rfl⟩
/-- What Begins tells, where Width tells none. -/
def BeginsIs (s : ByteArray) (k n : Nat) : Prop := n = s.size - k → ∀ j, k < j → j < s.size → itemAt s j = bad1 j
set_option maxRecDepth 100000 in
set_option maxHeartbeats 2000000 in
theorem begins_any (s : ByteArray) (k : Nat) (hk : k < s.size) (hs : s.size ≤ 1048576) (w : World) : Calls Tryz.prog 146 #[.string s, .int .i64 k] w fun e w' => ∃ n : Nat, e = .returned (.int .i64 n) ∧ BeginsIs s k n ∧ w = w' := by
  obtain ⟨x, hx, hx0, hx1, hxn, hxe⟩ := bt_int hk
  have ND := need_any x hx0 hx1
  rw [hxn] at ND
  obtain ⟨m, hm⟩ : ∃ m, need (bt s k) = m := ⟨_, rfl⟩
  rw [hm] at ND
  have ND := Lib.hid ND
  have hmc := need_cases (bt s k)
  rw [hm] at hmc
  clear hm hxn hxe
  by_cases hm0 : m = 0
  · subst hm0
    have W1 := Lib.hid (show BeginsIs s k 0 from fun h => by omega)
    go_enter Tryz.func146, Tryz.ntmps146
    go_wp2_with fail
    refine (ND.out _).mono ?_
    rintro e w' ⟨rfl, rfl⟩
    go_wp2_with fail
    go_ret
    exact ⟨0, rfl, W1.out, rfl⟩
  · have q1 : ((m : Int) == 0) = false := by simpa using (by omega : ¬ (m : Int) = 0)
    obtain ⟨m1, hm1⟩ : ∃ m1, m - 1 = m1 := ⟨_, rfl⟩
    have j1 : (m : Int) - 1 = (m1 : Int) := by omega
    have FT := Lib.hid (fits_any s k m1 hk (by omega) (by omega) hs)
    have hmb : m1 ≤ 3 := by omega
    clear hmc hm1
    go_enter Tryz.func146, Tryz.ntmps146
    go_wp2_with fail
    refine (ND.out _).mono ?_
    rintro e w' ⟨rfl, rfl⟩
    go_wp2_with fail
    refine (FT.out _).mono ?_
    rintro e w' ⟨n, rfl, ⟨f1, f2, f3, f4⟩, rfl⟩
    have W1 := Lib.hid (show BeginsIs s k n from fun h j h1 h2 => by
      have := f3 (j - k) (by omega) (by omega)
      have := okB_cont this
      rw [show k + (j - k) = j by omega] at this
      exact item_tail h2 this)
    clear f3 f4
    go_wp2_with fail
    go_ret
    exact ⟨n, rfl, W1.out, rfl⟩
end Go.Proofs.YtigpaaelggnffaaGreatDoor.R2
