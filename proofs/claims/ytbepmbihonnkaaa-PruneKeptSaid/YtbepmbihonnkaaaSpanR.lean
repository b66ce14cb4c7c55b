/- utf8.ValidRune, spans.Right, spans.cut, spans.Size of one span; the document's Rune, Right, In, Meet. -/
import Derived.Test.YtbepmbihonnkaaaSpanPure
import Derived.BigQuiet
import Derived.Deep.QuietTactic
import Derived.LoopN
namespace Go.Proofs.Ytbepmbihonnkaaa.Sl
open Go.Proofs.Ytbepmbihonnkaaa.Lib
open Go.RowKit
set_option linter.unusedVariables false
set_option linter.unusedSimpArgs false

theorem drop_cons {α : Type} {l : List α} {i : Nat} {x : α} (h : l[i]? = some x) : l.drop i = x :: l.drop (i + 1) := by
  obtain ⟨hi, rfl⟩ := List.getElem?_eq_some_iff.1 h
  exact List.drop_eq_getElem_cons hi
theorem rune_cases (r : Int) : r < 0 ∨ (0 ≤ r ∧ r < 55296) ∨ (55296 ≤ r ∧ r ≤ 57343) ∨ (57343 < r ∧ r ≤ 1114111) ∨ 1114111 < r := by omega
theorem valid_t {r : Int} (h : (0 ≤ r ∧ r < 55296) ∨ (57343 < r ∧ r ≤ 1114111)) : valid r = true := valid_iff.2 (by omega)
theorem valid_f {r : Int} (h : r < 0 ∨ (55296 ≤ r ∧ r ≤ 57343) ∨ 1114111 < r) : valid r = false := by
  cases e : valid r with
  | false => rfl
  | true => have := valid_iff.1 e; omega
theorem valid_same (r : Int) (w : World) : Calls Try.prog 88 #[.int .i32 r] w fun e w' => e = .returned (.bool (valid r)) ∧ w = w' := by
  rcases rune_cases r with h | h | h | h | h
  · have E := Lib.hid (valid_f (.inl h))
    go_enter Try.func88, Try.ntmps88
    go_wp2_with fail
    go_ret
    exact ⟨by rw [E.out]; rfl, rfl⟩
  · have E := Lib.hid (valid_t (.inl h))
    obtain ⟨h1, h2⟩ := h
    go_enter Try.func88, Try.ntmps88
    go_wp2_with fail
    go_ret
    exact ⟨by rw [E.out]; rfl, rfl⟩
  · have E := Lib.hid (valid_f (.inr (.inl h)))
    obtain ⟨h1, h2⟩ := h
    go_enter Try.func88, Try.ntmps88
    go_wp2_with fail
    go_ret
    exact ⟨by rw [E.out]; rfl, rfl⟩
  · have E := Lib.hid (valid_t (.inr h))
    obtain ⟨h1, h2⟩ := h
    go_enter Try.func88, Try.ntmps88
    go_wp2_with fail
    go_ret
    exact ⟨by rw [E.out]; rfl, rfl⟩
  · have E := Lib.hid (valid_f (.inr (.inr h)))
    go_enter Try.func88, Try.ntmps88
    go_wp2_with fail
    go_ret
    exact ⟨by rw [E.out]; rfl, rfl⟩
theorem valid_any (r : Int) (w : World) : Calls Try.prog 88 #[.int .i32 r] w fun e w' => e = .returned (.bool (valid r)) ∧ Ext (fun _ => False) w w' :=
  (valid_same r w).mono fun e w' ⟨h1, h2⟩ => ⟨h1, h2 ▸ Ext.refl _ _⟩
theorem rune3_any (r : Int) (w : World) : Calls Try.prog 92 #[.int .i32 r] w fun e w' => e = .returned (.bool (valid r)) ∧ w = w' := by
  rcases rune_cases r with h | h | h | h | h
  · have E := Lib.hid (valid_f (.inl h))
    go_enter Try.func92, Try.ntmps92
    go_wp2_with fail
    go_ret
    exact ⟨by rw [E.out]; rfl, rfl⟩
  · have E := Lib.hid (valid_t (.inl h))
    obtain ⟨h1, h2⟩ := h
    go_enter Try.func92, Try.ntmps92
    go_wp2_with fail
    go_ret
    exact ⟨by rw [E.out]; rfl, rfl⟩
  · have E := Lib.hid (valid_f (.inr (.inl h)))
    obtain ⟨h1, h2⟩ := h
    have d1 : decide (r < 55296) = false := decide_eq_false (by omega)
    have d2 : decide (57343 < r) = false := decide_eq_false (by omega)
    go_enter Try.func92, Try.ntmps92
    go_wp2_with fail
    go_ret
    exact ⟨by rw [E.out]; rfl, rfl⟩
  · have E := Lib.hid (valid_t (.inr h))
    obtain ⟨h1, h2⟩ := h
    go_enter Try.func92, Try.ntmps92
    go_wp2_with fail
    go_ret
    exact ⟨by rw [E.out]; rfl, rfl⟩
  · have E := Lib.hid (valid_f (.inr (.inr h)))
    go_enter Try.func92, Try.ntmps92
    go_wp2_with fail
    go_ret
    exact ⟨by rw [E.out]; rfl, rfl⟩

abbrev spObj (x : Spn) : Obj := .cells #[.int .i32 x.lo, .int .i32 x.hi] 94
/-- The end of the span ahead of place n. -/
def prevOf (l : List Spn) (n : Nat) : Option Int := if n = 0 then none else (l[n - 1]?).map (·.hi)
theorem prevOf_next {l : List Spn} {n : Nat} {x : Spn} (h : l[n]? = some x) : prevOf l (n + 1) = some x.hi := by
  unfold prevOf
  rw [if_neg (by omega), Nat.add_sub_cancel, h]
  rfl
theorem right_step {l : List Spn} {n : Nat} {x : Spn} (h : l[n]? = some x) (hr : rightGo n (prevOf l n) (l.drop n) = right l) :
    (bad1 (prevOf l n) x = 0 → rightGo (n + 1) (prevOf l (n + 1)) (l.drop (n + 1)) = right l) ∧ (bad1 (prevOf l n) x ≠ 0 → right l = ((n : Int), bad1 (prevOf l n) x)) := by
  rw [drop_cons h, rightGo] at hr
  refine ⟨fun h0 => ?_, fun h0 => ?_⟩
  · rw [if_pos h0] at hr
    rw [prevOf_next h]
    exact hr
  · rw [if_neg h0] at hr
    exact hr.symm
theorem bad1_14 {p : Option Int} {x : Spn} (h : valid x.lo = false ∨ valid x.hi = false) : bad1 p x = 14 := by
  unfold bad1
  rw [if_neg]
  rcases h with h | h <;> simp [h]
theorem bad1_15 {p : Option Int} {x : Spn} (h0 : valid x.lo = true) (h1 : valid x.hi = true) (h : x.hi < x.lo ∨ ∃ y, p = some y ∧ x.lo ≤ y) : bad1 p x = 15 := by
  unfold bad1
  rw [if_pos (by simp [h0, h1])]
  by_cases hc : x.hi < x.lo
  · rw [if_pos hc]
  · rw [if_neg hc]
    rcases h with h | ⟨y, rfl, hy⟩
    · exact absurd h hc
    · exact if_pos hy
theorem bad1_ok {p : Option Int} {x : Spn} (h0 : valid x.lo = true) (h1 : valid x.hi = true) (hc : ¬ x.hi < x.lo) (h : ∀ y, p = some y → ¬ x.lo ≤ y) : bad1 p x = 0 := by
  unfold bad1
  rw [if_pos (by simp [h0, h1]), if_neg hc]
  cases p with
  | none => rfl
  | some y => exact if_neg (h y rfl)

set_option maxRecDepth 100000 in
set_option maxHeartbeats 2000000 in
theorem right3_any (w : World) (p : Option Addr) (c : Nat) (l : List Spn) (H : Rd eP w p l) (hl : l.length ≤ 1099511627776) :
    Calls Try.prog 78 #[.slice p l.length c] w fun e w' => e = .returned (.tuple #[.int .i64 (right l).1, .int .i64 (right l).2]) ∧ Ext (fun _ => False) w w' := by
  have HR := Lib.hid H
  clear H
  go_enter Try.func78, Try.ntmps78
  go_wp2_with fail
  go_loopw [4] (fun i wr => ∃ n : Nat, i = .int .i64 n ∧ n ≤ l.length ∧ rightGo n (prevOf l n) (l.drop n) = right l ∧ Ext (fun _ => False) w wr) (fun i _ => l.length - (intOf i).toNat)
  case atStart => exact ⟨0, rfl, Nat.zero_le _, rfl, Ext.refl _ _⟩
  case round =>
    obtain ⟨n, rfl, hn, hr, hx⟩ := hrel
    have X := Lib.hid hx
    have HRG := Lib.hid hr
    clear hx hr
    by_cases hlt : n < l.length
    · have i1 : (n : Int) < (l.length : Int) := by omega
      obtain ⟨x, hx⟩ : ∃ x, l[n]? = some x := ⟨_, List.getElem?_eq_getElem hlt⟩
      obtain ⟨b, o, rfl, hb, c0, c1⟩ := (HR.out.on X.out).cellP hx
      have HX := Lib.hid hx
      have ST := Lib.hid (right_step hx HRG.out)
      have X1 := Lib.hid (X.out)
      clear hx
      go_wp2_with fail
      refine (rune3_any x.lo _).mono ?_
      rintro e w' ⟨rfl, rfl⟩
      by_cases v0 : valid x.lo = true
      · rw [v0]
        go_wp2_with fail
        refine (rune3_any x.hi _).mono ?_
        rintro e w' ⟨rfl, rfl⟩
        by_cases v1 : valid x.hi = true
        · rw [v1]
          by_cases hc : x.hi < x.lo
          · have E := Lib.hid (ST.out.2 (by rw [bad1_15 v0 v1 (.inl hc)]; decide))
            have E2 := Lib.hid (bad1_15 (p := prevOf l n) v0 v1 (.inl hc))
            have d1 : decide (x.hi < x.lo) = true := decide_eq_true hc
            clear v0 v1 hc
            go_wp2_with fail
            go_quiet (fail)
            go_wp2_with fail
            go_ret2
            exact ⟨by rw [E.out, E2.out]; rfl, X1.out.drewN _⟩
          · have d1 : decide (x.hi < x.lo) = false := decide_eq_false hc
            cases n with
            | zero =>
              have E2 := Lib.hid (ST.out.1 (bad1_ok v0 v1 hc (fun y hy => by unfold prevOf at hy; rw [if_pos rfl] at hy; cases hy)))
              have d2 : decide ((((0 : Nat) : Int)) > 0) = false := by decide
              simp only [Nat.zero_mul, Nat.add_zero] at c0 c1
              clear v0 v1 hc
              go_wp2_with fail
              go_quiet (fail)
              go_wp2_with fail
              go_roundw
              case rel => exact ⟨1, rfl, by omega, E2.out, X1.out.drewN _⟩
              case measure => simp [intOf]; omega
            | succ m =>
              obtain ⟨y, hy⟩ : ∃ y, l[m]? = some y := ⟨_, List.getElem?_eq_getElem (by omega)⟩
              obtain ⟨b2, o2, hp2, hb2, e0, e1⟩ := (HR.out.on X1.out).cellP hy
              have HP := Lib.hid (show prevOf l (m + 1) = some y.hi from prevOf_next hy)
              injection hp2 with hp2
              injection hp2 with hp3 hp4
              subst hp3 hp4
              clear hy
              have d2 : decide (((m : Int) + 1) > 0) = true := decide_eq_true (by omega)
              have d3 : decide (0 < m + 1) = true := decide_eq_true (by omega)
              have hw : IntKind.i64.wrap ((m : Int) + 1 - 1) = (m : Int) := by rw [show (m : Int) + 1 - 1 = (m : Int) by omega]; exact IntWalk.i64_in _ (by omega)
              have m1 : (m : Int) < (l.length : Int) := by omega
              by_cases hle : x.lo ≤ y.hi
              · have E := Lib.hid (ST.out.2 (by rw [bad1_15 v0 v1 (.inr ⟨y.hi, HP.out, hle⟩)]; decide))
                have E2 := Lib.hid (bad1_15 v0 v1 (.inr ⟨y.hi, HP.out, hle⟩))
                have d4 : decide (x.lo ≤ y.hi) = true := decide_eq_true hle
                clear v0 v1 hc hle
                go_wp2_with fail
                go_quiet (fail)
                go_wp2_with fail
                go_ret2
                exact ⟨by rw [E.out, E2.out]; rfl, X1.out.drewN _⟩
              · have E2 := Lib.hid (ST.out.1 (bad1_ok v0 v1 hc (fun z hz => by rw [HP.out] at hz; cases hz; exact hle)))
                have d4 : decide (x.lo ≤ y.hi) = false := decide_eq_false hle
                clear v0 v1 hc hle
                go_wp2_with fail
                go_quiet (fail)
                go_wp2_with fail
                go_roundw
                case rel => exact ⟨m + 1 + 1, by go_num, by omega, E2.out, X1.out.drewN _⟩
                case measure => simp [intOf]; omega
        · have v1' : valid x.hi = false := by simpa using v1
          have E := Lib.hid (ST.out.2 (by rw [bad1_14 (.inr v1')]; decide))
          have E2 := Lib.hid (bad1_14 (p := prevOf l n) (.inr v1'))
          rw [v1']
          clear v0 v1 v1'
          go_wp2_with fail
          go_ret2
          exact ⟨by rw [E.out, E2.out]; rfl, X1.out⟩
      · have v0' : valid x.lo = false := by simpa using v0
        have E := Lib.hid (ST.out.2 (by rw [bad1_14 (.inl v0')]; decide))
        have E2 := Lib.hid (bad1_14 (p := prevOf l n) (.inl v0'))
        rw [v0']
        clear v0 v0'
        go_wp2_with fail
        go_ret2
        exact ⟨by rw [E.out, E2.out]; rfl, X1.out⟩
    · have i1 : ¬ ((n : Int) < (l.length : Int)) := by omega
      have E := Lib.hid (show right l = (0, 0) from by
        have := HRG.out
        rw [List.drop_of_length_le (by omega)] at this
        exact this.symm)
      go_wp2_with fail
      go_ret2
      exact ⟨by rw [E.out]; rfl, X.out⟩


set_option maxRecDepth 100000 in
set_option maxHeartbeats 2000000 in
theorem rightS_any (w : World) (p : Option Addr) (c : Nat) (l : List Spn) (H : Rd eP w p l) (hl : l.length ≤ 1099511627776) :
    Calls Try.prog 74 #[.slice p l.length c] w fun e w' => e = .returned (.tuple #[.int .i64 (right l).1, .int .i64 (right l).2]) ∧ Ext (fun _ => False) w w' := by
  have HR := Lib.hid H
  clear H
  go_enter Try.func74, Try.ntmps74
  go_wp2_with fail
  go_loopw [8] (fun i wr => ∃ n : Nat, i = .int .i64 n ∧ n ≤ l.length ∧ rightGo n (prevOf l n) (l.drop n) = right l ∧ Ext (fun _ => False) w wr) (fun i _ => l.length - (intOf i).toNat)
  case atStart => exact ⟨0, rfl, Nat.zero_le _, rfl, Ext.refl _ _⟩
  case round =>
    obtain ⟨n, rfl, hn, hr, hx⟩ := hrel
    have X := Lib.hid hx
    have HRG := Lib.hid hr
    clear hx hr
    by_cases hlt : n < l.length
    · have i1 : (n : Int) < (l.length : Int) := by omega
      obtain ⟨x, hx⟩ : ∃ x, l[n]? = some x := ⟨_, List.getElem?_eq_getElem hlt⟩
      obtain ⟨b, o, rfl, hb, c0, c1⟩ := (HR.out.on X.out).cellP hx
      have HX := Lib.hid hx
      have ST := Lib.hid (right_step hx HRG.out)
      have X1 := Lib.hid (X.out.alloc (spObj x))
      clear hx
      go_wp2_with fail
      refine (valid_same x.lo _).mono ?_
      rintro e w' ⟨rfl, rfl⟩
      by_cases v0 : valid x.lo = true
      · rw [v0]
        go_wp2_with fail
        refine (valid_same x.hi _).mono ?_
        rintro e w' ⟨rfl, rfl⟩
        by_cases v1 : valid x.hi = true
        · rw [v1]
          by_cases hc : x.hi < x.lo
          · have E := Lib.hid (ST.out.2 (by rw [bad1_15 v0 v1 (.inl hc)]; decide))
            have E2 := Lib.hid (bad1_15 (p := prevOf l n) v0 v1 (.inl hc))
            have d1 : decide (x.hi < x.lo) = true := decide_eq_true hc
            clear v0 v1 hc
            go_wp2_with fail
            go_quiet (fail)
            go_wp2_with fail
            go_ret2
            exact ⟨by rw [E.out, E2.out]; rfl, X1.out.drewN _⟩
          · have d1 : decide (x.hi < x.lo) = false := decide_eq_false hc
            cases n with
            | zero =>
              have E2 := Lib.hid (ST.out.1 (bad1_ok v0 v1 hc (fun y hy => by unfold prevOf at hy; rw [if_pos rfl] at hy; cases hy)))
              have d2 : decide ((((0 : Nat) : Int)) > 0) = false := by decide
              simp only [Nat.zero_mul, Nat.add_zero] at c0 c1
              clear v0 v1 hc
              go_wp2_with fail
              go_quiet (fail)
              go_wp2_with fail
              go_roundw
              case rel => exact ⟨1, rfl, by omega, E2.out, X1.out.drewN _⟩
              case measure => simp [intOf]; omega
            | succ m =>
              obtain ⟨y, hy⟩ : ∃ y, l[m]? = some y := ⟨_, List.getElem?_eq_getElem (by omega)⟩
              obtain ⟨b2, o2, hp2, hb2, e0, e1⟩ := (HR.out.on X1.out).cellP hy
              have HP := Lib.hid (show prevOf l (m + 1) = some y.hi from prevOf_next hy)
              injection hp2 with hp2
              injection hp2 with hp3 hp4
              subst hp3 hp4
              clear hy
              have d2 : decide (((m : Int) + 1) > 0) = true := decide_eq_true (by omega)
              have d3 : decide (0 < m + 1) = true := decide_eq_true (by omega)
              have hw : IntKind.i64.wrap ((m : Int) + 1 - 1) = (m : Int) := by rw [show (m : Int) + 1 - 1 = (m : Int) by omega]; exact IntWalk.i64_in _ (by omega)
              have m1 : (m : Int) < (l.length : Int) := by omega
              by_cases hle : x.lo ≤ y.hi
              · have E := Lib.hid (ST.out.2 (by rw [bad1_15 v0 v1 (.inr ⟨y.hi, HP.out, hle⟩)]; decide))
                have E2 := Lib.hid (bad1_15 v0 v1 (.inr ⟨y.hi, HP.out, hle⟩))
                have d4 : decide (x.lo ≤ y.hi) = true := decide_eq_true hle
                clear v0 v1 hc hle
                go_wp2_with fail
                go_quiet (fail)
                go_wp2_with fail
                go_ret2
                exact ⟨by rw [E.out, E2.out]; rfl, X1.out.drewN _⟩
              · have E2 := Lib.hid (ST.out.1 (bad1_ok v0 v1 hc (fun z hz => by rw [HP.out] at hz; cases hz; exact hle)))
                have d4 : decide (x.lo ≤ y.hi) = false := decide_eq_false hle
                clear v0 v1 hc hle
                go_wp2_with fail
                go_quiet (fail)
                go_wp2_with fail
                go_roundw
                case rel => exact ⟨m + 1 + 1, by go_num, by omega, E2.out, X1.out.drewN _⟩
                case measure => simp [intOf]; omega
        · have v1' : valid x.hi = false := by simpa using v1
          have E := Lib.hid (ST.out.2 (by rw [bad1_14 (.inr v1')]; decide))
          have E2 := Lib.hid (bad1_14 (p := prevOf l n) (.inr v1'))
          rw [v1']
          clear v0 v1 v1'
          go_wp2_with fail
          go_ret2
          exact ⟨by rw [E.out, E2.out]; rfl, X1.out⟩
      · have v0' : valid x.lo = false := by simpa using v0
        have E := Lib.hid (ST.out.2 (by rw [bad1_14 (.inl v0')]; decide))
        have E2 := Lib.hid (bad1_14 (p := prevOf l n) (.inl v0'))
        rw [v0']
        clear v0 v0'
        go_wp2_with fail
        go_ret2
        exact ⟨by rw [E.out, E2.out]; rfl, X1.out⟩
    · have i1 : ¬ ((n : Int) < (l.length : Int)) := by omega
      have E := Lib.hid (show right l = (0, 0) from by
        have := HRG.out
        rw [List.drop_of_length_le (by omega)] at this
        exact this.symm)
      go_wp2_with fail
      go_ret2
      exact ⟨by rw [E.out]; rfl, X.out⟩


set_option maxHeartbeats 1000000 in
theorem in3_any (w : World) (p : Option Addr) (c : Nat) (l : List Spn) (r : Int) (H : Rd eP w p l) (hl : l.length ≤ 1099511627776) :
    Calls Try.prog 80 #[.slice p l.length c, .int .i32 r] w fun e w' => e = .returned (.bool (inn l r)) ∧ w = w' := by
  have HR := Lib.hid H
  clear H
  go_enter Try.func80, Try.ntmps80
  go_wp2_with fail
  go_loop [5] (fun i => ∃ n : Nat, i = .int .i64 n ∧ n ≤ l.length ∧ ∀ y ∈ l.take n, ¬ (y.lo ≤ r ∧ r ≤ y.hi)) (fun i => l.length - (intOf i).toNat)
  case atStart => exact ⟨0, rfl, Nat.zero_le _, by simp⟩
  case round =>
    obtain ⟨n, rfl, hn, hno⟩ := hrel
    have NO := Lib.hid hno
    clear hno
    by_cases hlt : n < l.length
    · have i1 : (n : Int) < (l.length : Int) := by omega
      obtain ⟨x, hx⟩ : ∃ x, l[n]? = some x := ⟨_, List.getElem?_eq_getElem hlt⟩
      obtain ⟨b, o, rfl, hb, c0, c1⟩ := HR.out.cellP hx
      have HX := Lib.hid hx
      clear hx
      by_cases hc : x.lo ≤ r ∧ r ≤ x.hi
      · have E := Lib.hid (show inn l r = valid r from by
          unfold inn
          rw [List.any_eq_true.2 ⟨x, List.mem_of_getElem? HX.out, by simp [hc]⟩, Bool.and_true])
        obtain ⟨h1, h2⟩ := hc
        go_wp2_with fail
        refine (rune3_any r w).mono ?_
        rintro e w' ⟨rfl, rfl⟩
        go_wp2_with fail
        go_ret
        exact ⟨by rw [E.out]; rfl, rfl⟩
      · have N2 := Lib.hid (show ∀ y ∈ l.take (n + 1), ¬ (y.lo ≤ r ∧ r ≤ y.hi) from fun z hz => by
          rw [List.take_add_one, HX.out] at hz
          rcases List.mem_append.1 hz with h | h
          · exact NO.out z h
          · simp at h; rw [h]; exact hc)
        by_cases h1 : x.lo ≤ r
        · have h2 : ¬ r ≤ x.hi := fun h => hc ⟨h1, h⟩
          clear hc
          go_wp2_with fail
          go_round
          case rel => exact ⟨n + 1, by go_num, by omega, N2.out⟩
          case measure => simp [intOf]; omega
        · clear hc
          go_wp2_with fail
          go_round
          case rel => exact ⟨n + 1, by go_num, by omega, N2.out⟩
          case measure => simp [intOf]; omega
    · have i1 : ¬ ((n : Int) < (l.length : Int)) := by omega
      have E := Lib.hid (show inn l r = false from by
        unfold inn
        rw [Bool.and_eq_false_iff]
        right
        rw [List.any_eq_false]
        intro y hy h
        have := NO.out y (by rwa [List.take_of_length_le (by omega)])
        simp at h
        exact this h)
      go_wp2_with fail
      go_ret
      exact ⟨by rw [E.out]; rfl, rfl⟩

theorem right_any (w : World) (p : Option Addr) (c : Nat) (l : List Spn) (H : Rd eP w p l) (hc : l.length ≤ c) (hl : l.length ≤ 1099511627776) :
    Calls Try.prog 74 #[.slice p l.length c] w fun e w' => e = .returned (.tuple #[.int .i64 (right l).1, .int .i64 (right l).2]) ∧ Ext (fun _ => False) w w' := rightS_any w p c l H hl

theorem touch_iff {x y : Spn} : touch x y = true ↔ x.lo ≤ y.hi ∧ y.lo ≤ x.hi := by simp [touch]
set_option maxRecDepth 100000 in
set_option maxHeartbeats 4000000 in
theorem meet3_any (w : World) (p q : Option Addr) (c d : Nat) (a b : List Spn) (HA : Rd eP w p a) (HB : Rd eP w q b) (oa : Ok a) (ob : Ok b) (ha : a.length ≤ 1099511627776) (hb : b.length ≤ 1099511627776) :
    Calls Try.prog 79 #[.slice p a.length c, .slice q b.length d] w fun e w' => e = .returned (.tuple #[.int .i64 (meet a b).1, .bool (meet a b).2]) ∧ w = w' := by
  have RA := Lib.hid HA
  have RB := Lib.hid HB
  have OA := Lib.hid oa
  have OB := Lib.hid ob
  clear HA HB oa ob
  go_enter Try.func79, Try.ntmps79
  go_wp2_with fail
  go_loop [6] (fun i => ∃ n : Nat, i = .int .i64 n ∧ n ≤ a.length ∧ ∀ j y, j < n → a[j]? = some y → b.any (touch y) = false) (fun i => a.length - (intOf i).toNat)
  case atStart => exact ⟨0, rfl, Nat.zero_le _, fun j y hj => absurd hj (Nat.not_lt_zero _)⟩
  case round =>
    obtain ⟨n, rfl, hn, hno⟩ := hrel
    have NO := Lib.hid hno
    clear hno
    by_cases hlt : n < a.length
    · have i1 : (n : Int) < (a.length : Int) := by omega
      obtain ⟨x, hx⟩ : ∃ x, a[n]? = some x := ⟨_, List.getElem?_eq_getElem hlt⟩
      obtain ⟨pb, po, rfl, hpb, c0, c1⟩ := RA.out.cellP hx
      have HX := Lib.hid hx
      obtain ⟨vx0, vx1, vx2⟩ := OA.out.1 x (List.mem_of_getElem? hx)
      have VX := Lib.hid (And.intro vx0 vx1)
      clear hx vx0 vx1
      go_wp2_with fail
      go_loop [7] (fun i => ∃ m : Nat, i = .int .i64 m ∧ m ≤ b.length ∧ ∀ z ∈ b.take m, touch x z = false) (fun i => b.length - (intOf i).toNat)
      case atStart => exact ⟨0, rfl, Nat.zero_le _, by simp⟩
      case round =>
        obtain ⟨m, rfl, hm, hnz⟩ := hrel
        have NZ := Lib.hid hnz
        clear hnz
        by_cases hlt2 : m < b.length
        · have i2 : (m : Int) < (b.length : Int) := by omega
          obtain ⟨y, hy⟩ : ∃ y, b[m]? = some y := ⟨_, List.getElem?_eq_getElem hlt2⟩
          obtain ⟨qb, qo, rfl, hqb, e0, e1⟩ := RB.out.cellP hy
          have HY := Lib.hid hy
          obtain ⟨vy0, vy1, vy2⟩ := OB.out.1 y (List.mem_of_getElem? hy)
          have VY := Lib.hid (And.intro vy0 vy1)
          clear hy vy0 vy1
          by_cases ht : x.lo ≤ y.hi ∧ y.lo ≤ x.hi
          · have E := Lib.hid (show meet a b = ((n : Int), true) from by
              have := firstGo_at (f := fun x => b.any (touch x)) (i := 0) HX.out (List.any_eq_true.2 ⟨y, List.mem_of_getElem? HY.out, touch_iff.2 ht⟩) NO.out
              rw [Nat.zero_add] at this
              exact this)
            obtain ⟨t1, t2⟩ := ht
            have LO : ∀ lo : Int, lo = x.lo ∨ lo = y.lo → ∀ W, Calls Try.prog 92 #[.int .i32 lo] W fun e w' => e = .returned (.bool true) ∧ W = w' := fun lo h W => by
              have := rune3_any lo W
              rcases h with rfl | rfl
              · rwa [VX.out.1] at this
              · rwa [VY.out.1] at this
            have HLO := Lib.hid LO
            clear LO
            by_cases g1 : x.lo < y.lo
            · by_cases g2 : y.hi < x.hi
              · go_wp2_with (go_at_call 92; refine (HLO.out _ (.inr rfl) _).mono ?_; rintro e w' ⟨rfl, rfl⟩)
                go_ret2
                exact ⟨by rw [E.out]; rfl, rfl⟩
              · go_wp2_with (go_at_call 92; refine (HLO.out _ (.inr rfl) _).mono ?_; rintro e w' ⟨rfl, rfl⟩)
                go_ret2
                exact ⟨by rw [E.out]; rfl, rfl⟩
            · by_cases g2 : y.hi < x.hi
              · go_wp2_with (go_at_call 92; refine (HLO.out _ (.inl rfl) _).mono ?_; rintro e w' ⟨rfl, rfl⟩)
                go_ret2
                exact ⟨by rw [E.out]; rfl, rfl⟩
              · go_wp2_with (go_at_call 92; refine (HLO.out _ (.inl rfl) _).mono ?_; rintro e w' ⟨rfl, rfl⟩)
                go_ret2
                exact ⟨by rw [E.out]; rfl, rfl⟩
          · have N2 := Lib.hid (show ∀ z ∈ b.take (m + 1), touch x z = false from fun z hz => by
              rw [List.take_add_one, HY.out] at hz
              rcases List.mem_append.1 hz with h | h
              · exact NZ.out z h
              · simp at h
                rw [h]
                cases e : touch x y with
                | false => rfl
                | true => exact absurd (touch_iff.1 e) ht)
            have ht2 : y.hi < x.lo ∨ x.hi < y.lo := by omega
            clear ht
            by_cases g1 : x.lo < y.lo
            · by_cases g2 : y.hi < x.hi
              · have g3 : ¬ y.lo ≤ y.hi := by omega
                omega
              · have g3 : x.hi < y.lo := by omega
                clear ht2
                go_wp2_with fail
                go_round
                case rel => exact ⟨m + 1, by go_num, by omega, N2.out⟩
                case measure => simp [intOf]; omega
            · by_cases g2 : y.hi < x.hi
              · have g3 : y.hi < x.lo := by omega
                clear ht2
                go_wp2_with fail
                go_round
                case rel => exact ⟨m + 1, by go_num, by omega, N2.out⟩
                case measure => simp [intOf]; omega
              · omega
        · have i2 : ¬ ((m : Int) < (b.length : Int)) := by omega
          have N2 := Lib.hid (show ∀ j y, j < n + 1 → a[j]? = some y → b.any (touch y) = false from fun j y hj hy => by
            rcases Nat.lt_or_ge j n with h | h
            · exact NO.out j y h hy
            · obtain rfl : j = n := by omega
              rw [HX.out] at hy
              cases hy
              rw [List.any_eq_false]
              intro z hz h
              have := NZ.out z (by rwa [List.take_of_length_le (by omega)])
              rw [this] at h
              cases h)
          go_wp2_with fail
          go_round
          case rel => exact ⟨n + 1, by go_num, by omega, N2.out⟩
          case measure => simp [intOf]; omega
    · have i1 : ¬ ((n : Int) < (a.length : Int)) := by omega
      have E := Lib.hid (show meet a b = (0, false) from firstGo_none (fun x hx => by
        obtain ⟨j, hj, rfl⟩ := List.getElem_of_mem hx
        exact NO.out j _ (by omega) (List.getElem?_eq_getElem hj)))
      go_wp2_with fail
      go_ret2
      exact ⟨by rw [E.out]; rfl, rfl⟩

set_option maxRecDepth 100000 in
set_option maxHeartbeats 2000000 in
theorem cut_any (w : World) (x : Spn) (h0 : 0 ≤ x.lo) (h1 : x.hi ≤ 1114111) (h2 : x.lo ≤ x.hi) :
    Calls Try.prog 95 #[.agg #[.int .i32 x.lo, .int .i32 x.hi]] w fun e w' => e = .returned (.tuple #[.agg #[.int .i32 x.lo, .int .i32 x.hi], .bool true]) ∧ Ext (fun _ => False) w w' := by
  have i1 : ¬ x.lo < 0 := by omega
  have i2 : ¬ 1114111 < x.hi := by omega
  have e1 : mx x.lo 0 = x.lo := if_neg i1
  have e2 : mn x.hi 1114111 = x.hi := if_neg i2
  have E1 := Lib.hid e1
  have E2 := Lib.hid e2
  clear e1 e2
  go_enter Try.func95, Try.ntmps95
  go_wp2_with fail
  rw [E1.out, E2.out]
  have d1 : decide (x.lo ≤ x.hi) = true := decide_eq_true h2
  have X := Lib.hid (((Ext.refl (fun _ => False) w).alloc (.cells #[.int .i32 x.lo, .int .i32 x.hi] 94)).alloc (.cells #[.int .i32 0, .int .i32 0] 94))
  have z0 : ((w.alloc (.cells #[.int .i32 x.lo, .int .i32 x.hi] 94)).alloc (.cells #[.int .i32 0, .int .i32 0] 94)).heap[w.heap.size + 1]? = some (.cells #[.int .i32 0, .int .i32 0] 94 (0, 0)) := by
    have := heap_alloc_new (w.alloc (.cells #[.int .i32 x.lo, .int .i32 x.hi] 94)) (.cells #[.int .i32 0, .int .i32 0] 94)
    rwa [World.size_alloc] at this
  have b0 : ((w.alloc (.cells #[.int .i32 x.lo, .int .i32 x.hi] 94)).alloc (.cells #[.int .i32 0, .int .i32 0] 94)).heap[w.heap.size]? = some (.cells #[.int .i32 x.lo, .int .i32 x.hi] 94 (0, 0)) := blk_alloc (heap_alloc_new w _) _
  obtain ⟨W, hW⟩ : ∃ W, (w.alloc (.cells #[.int .i32 x.lo, .int .i32 x.hi] 94)).alloc (.cells #[.int .i32 0, .int .i32 0] 94) = W := ⟨_, rfl⟩
  rw [hW] at X z0 b0 ⊢
  have c0 := blk_cell b0 0
  have c1 := blk_cell b0 1
  have f0 := blk_cell z0 0
  have f1 := blk_cell z0 1
  have f2 := blk_frozen z0 0
  have f3 := blk_frozen z0 1
  simp at c0 c1 f0 f1
  have Z := Lib.hid (blk_set (blk_set z0 0 (.int .i32 x.lo)) 1 (.int .i32 x.hi))
  have XZ := Lib.hid (((Ext.refl (fun k => k = w.heap.size + 1) W).setCell (p := ⟨w.heap.size + 1, 0, none⟩) (fun _ => rfl) (.int .i32 x.lo)).setCell (p := ⟨w.heap.size + 1, 1, none⟩) (fun _ => rfl) (.int .i32 x.hi))
  clear hW b0 z0 i1 i2
  go_region
  all_goals go_wp2_with fail
  all_goals
    have g := Z.out
    obtain ⟨F, hF⟩ : ∃ F, (W.setCell ⟨w.heap.size + 1, 0, none⟩ (.int .i32 x.lo)).setCell ⟨w.heap.size + 1, 1, none⟩ (.int .i32 x.hi) = F := ⟨_, rfl⟩
    rw [hF] at g XZ
    try rw [hF]
    have r0 := blk_cell g 0
    have r1 := blk_cell g 1
    simp at r0 r1
    exact bodyPost_ret (v := .tuple #[.agg #[.int .i32 x.lo, .int .i32 x.hi], .bool true]) (by simp [results, Try.f95, go_sem, r0, r1]) rfl ⟨rfl, by first | exact X.out.trans XZ.out (fun i hi h => by omega) | exact Ext.drew (X.out.trans XZ.out (fun i hi h => by omega))⟩
theorem size_pos {lo hi : Int} (l0 : 0 ≤ lo) (l1 : lo ≤ 1114111) (l2 : lo < 55296 ∨ 57343 < lo) (k0 : 0 ≤ hi) (k1 : hi ≤ 1114111) (k2 : hi < 55296 ∨ 57343 < hi) (hle : lo ≤ hi) :
    0 < wrap64 (wrap64 (hi - lo + 1 - mx 0 (wrap64 (wrap64 (wrap32 (mn hi 57343 - mx lo 55296)) + 1)))) := by
  have a : -1114111 ≤ mn hi 57343 - mx lo 55296 ∧ mn hi 57343 - mx lo 55296 ≤ 1114111 := by unfold mn mx; split <;> split <;> omega
  have e1 : wrap32 (mn hi 57343 - mx lo 55296) = mn hi 57343 - mx lo 55296 := by unfold wrap32; omega
  have e2 : wrap64 (mn hi 57343 - mx lo 55296) = mn hi 57343 - mx lo 55296 := by unfold wrap64; omega
  have e3 : wrap64 (mn hi 57343 - mx lo 55296 + 1) = mn hi 57343 - mx lo 55296 + 1 := by unfold wrap64; omega
  rw [e1, e2, e3]
  have b : 0 < hi - lo + 1 - mx 0 (mn hi 57343 - mx lo 55296 + 1) ∧ hi - lo + 1 - mx 0 (mn hi 57343 - mx lo 55296 + 1) ≤ 1114112 := by
    unfold mn mx
    split <;> split <;> split <;> omega
  obtain ⟨z, hz⟩ : ∃ z, hi - lo + 1 - mx 0 (mn hi 57343 - mx lo 55296 + 1) = z := ⟨_, rfl⟩
  rw [hz] at b ⊢
  have e4 : wrap64 z = z := by unfold wrap64; omega
  rw [e4, e4]
  exact b.1
set_option maxRecDepth 100000 in
set_option maxHeartbeats 2000000 in
theorem size1_any (w : World) (a : Nat) (x : Spn) (h0 : w.cell? ⟨a, 0, none⟩ = some (.int .i32 x.lo)) (h1 : w.cell? ⟨a, 1, none⟩ = some (.int .i32 x.hi)) (v0 : valid x.lo = true) (v1 : valid x.hi = true) (hle : x.lo ≤ x.hi) :
    Calls Try.prog 90 #[.slice (some ⟨a, 0, none⟩) 1 1] w fun e w' => (∃ n : Int, 0 < n ∧ e = .returned (.int .i64 n)) ∧ Ext (fun _ => False) w w' := by
  have V0 := valid_iff.1 v0
  have V1 := valid_iff.1 v1
  obtain ⟨l0, l1, l2⟩ := V0
  obtain ⟨k0, k1, k2⟩ := V1
  have hb : a < w.heap.size := World.block_lt_of_cell? w ⟨a, 0, none⟩ h0
  have X1 := Lib.hid ((Ext.refl (fun _ => False) w).alloc (spObj x))
  have CU := Lib.hid (cut_any (w.alloc (spObj x)) x l0 k1 hle)
  have L2 := Lib.hid l2
  have K2 := Lib.hid k2
  clear v0 v1 l2 k2
  go_enter Try.func90, Try.ntmps90
  go_wp2_with fail
  go_loopw [3, 10] (fun v i wr => (v = .int .i64 0 ∧ i = .int .i64 0 ∧ wr = w) ∨ (i = .int .i64 1 ∧ (∃ n : Int, 0 < n ∧ v = .int .i64 n) ∧ Ext (fun _ => False) w wr)) (fun _ i _ => 1 - (intOf i).toNat)
  case atStart => exact .inl ⟨rfl, rfl, rfl⟩
  case round =>
    rcases hrel with ⟨rfl, rfl, hw⟩ | ⟨rfl, ⟨n, hn, rfl⟩, hx⟩
    · subst hw
      go_wp2_with fail
      refine CU.out.mono ?_
      rintro e W ⟨rfl, hx⟩
      have X2 := Lib.hid (X1.out.trans hx (fun _ _ h => h))
      clear hx
      go_wp2_with fail
      exact ⟨.inr ⟨rfl, ⟨_, size_pos l0 l1 L2.out k0 k1 K2.out hle, rfl⟩, X2.out.alloc _⟩, by simp [intOf]⟩
    · have HN := Lib.hid hn
      have X := Lib.hid hx
      clear hx hn
      go_wp2_with fail
      go_ret
      exact ⟨⟨n, HN.out, rfl⟩, X.out⟩
end Go.Proofs.Ytbepmbihonnkaaa.Sl
