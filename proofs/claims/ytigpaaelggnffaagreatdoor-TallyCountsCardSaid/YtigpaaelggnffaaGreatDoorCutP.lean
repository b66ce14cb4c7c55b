/- Merged of SpanR, Search, Spans, ClassesNew, CutP. -/
import Derived.Test.YtigpaaelggnffaaGreatDoorSpanPure
import Derived.BigQuiet
import Derived.Deep.QuietTactic
import Derived.LoopN
import Derived.IntWalk
import Derived.StillTailTactics
import Derived.Shelf.Unicode.DecodeAny
/- utf8.ValidRune, spans.Right, spans.cut, spans.Size of one span; the document's Rune, Right, In, Meet. -/
namespace Go.Proofs.YtigpaaelggnffaaGreatDoor.Sl
open Go.Proofs.YtigpaaelggnffaaGreatDoor.Lib
open Go.RowKit
set_option linter.unusedVariables false
set_option linter.unusedSimpArgs false

theorem drop_cons {α : Type} {l : List α} {i : Nat} {x : α} (h : l[i]? = some x) : l.drop i = x :: l.drop (i + 1) := by
  obtain ⟨hi, rfl⟩ := List.getElem?_eq_some_iff.1 h
  exact List.drop_eq_getElem_cons hi
theorem rune_cases (r : Int) : r < 0 ∨ (0 ≤ r ∧ r < 55296) ∨ (55296 ≤ r ∧ r ≤ 57343) ∨ (57343 < r ∧ r ≤ 1114111) ∨ 1114111 < r := by omega
theorem valid_t {r : Int} (h : (0 ≤ r ∧ r < 55296) ∨ (57343 < r ∧ r ≤ 1114111)) : valid r = true := valid_iff.2 (by omega)
theorem valid_f {r : Int} (h : r < 0 ∨ (55296 ≤ r ∧ r ≤ 57343) ∨ 1114111 < r) : valid r = false := by
  cases e : valid r with
  | false => rfl
  | true => have := valid_iff.1 e; omega
theorem valid_same (r : Int) (w : World) : Calls Tryz.prog 115 #[.int .i32 r] w fun e w' => e = .returned (.bool (valid r)) ∧ w = w' := by
  rcases rune_cases r with h | h | h | h | h
  · have E := Lib.hid (valid_f (.inl h))
    go_enter Tryz.func115, Tryz.ntmps115
    go_wp2_with fail
    go_ret
    exact ⟨by rw [E.out]; rfl, rfl⟩
  · have E := Lib.hid (valid_t (.inl h))
    obtain ⟨h1, h2⟩ := h
    go_enter Tryz.func115, Tryz.ntmps115
    go_wp2_with fail
    go_ret
    exact ⟨by rw [E.out]; rfl, rfl⟩
  · have E := Lib.hid (valid_f (.inr (.inl h)))
    obtain ⟨h1, h2⟩ := h
    go_enter Tryz.func115, Tryz.ntmps115
    go_wp2_with fail
    go_ret
    exact ⟨by rw [E.out]; rfl, rfl⟩
  · have E := Lib.hid (valid_t (.inr h))
    obtain ⟨h1, h2⟩ := h
    go_enter Tryz.func115, Tryz.ntmps115
    go_wp2_with fail
    go_ret
    exact ⟨by rw [E.out]; rfl, rfl⟩
  · have E := Lib.hid (valid_f (.inr (.inr h)))
    go_enter Tryz.func115, Tryz.ntmps115
    go_wp2_with fail
    go_ret
    exact ⟨by rw [E.out]; rfl, rfl⟩
theorem valid_any (r : Int) (w : World) : Calls Tryz.prog 115 #[.int .i32 r] w fun e w' => e = .returned (.bool (valid r)) ∧ Ext (fun _ => False) w w' :=
  (valid_same r w).mono fun e w' ⟨h1, h2⟩ => ⟨h1, h2 ▸ Ext.refl _ _⟩
theorem rune3_any (r : Int) (w : World) : Calls Tryz.prog 119 #[.int .i32 r] w fun e w' => e = .returned (.bool (valid r)) ∧ w = w' := by
  rcases rune_cases r with h | h | h | h | h
  · have E := Lib.hid (valid_f (.inl h))
    go_enter Tryz.func119, Tryz.ntmps119
    go_wp2_with fail
    go_ret
    exact ⟨by rw [E.out]; rfl, rfl⟩
  · have E := Lib.hid (valid_t (.inl h))
    obtain ⟨h1, h2⟩ := h
    go_enter Tryz.func119, Tryz.ntmps119
    go_wp2_with fail
    go_ret
    exact ⟨by rw [E.out]; rfl, rfl⟩
  · have E := Lib.hid (valid_f (.inr (.inl h)))
    obtain ⟨h1, h2⟩ := h
    have d1 : decide (r < 55296) = false := decide_eq_false (by omega)
    have d2 : decide (57343 < r) = false := decide_eq_false (by omega)
    go_enter Tryz.func119, Tryz.ntmps119
    go_wp2_with fail
    go_ret
    exact ⟨by rw [E.out]; rfl, rfl⟩
  · have E := Lib.hid (valid_t (.inr h))
    obtain ⟨h1, h2⟩ := h
    go_enter Tryz.func119, Tryz.ntmps119
    go_wp2_with fail
    go_ret
    exact ⟨by rw [E.out]; rfl, rfl⟩
  · have E := Lib.hid (valid_f (.inr (.inr h)))
    go_enter Tryz.func119, Tryz.ntmps119
    go_wp2_with fail
    go_ret
    exact ⟨by rw [E.out]; rfl, rfl⟩

abbrev spObj (x : Spn) : Obj := .cells #[.int .i32 x.lo, .int .i32 x.hi] 127
/-- The end of the span ahead of place n. -/
def prevOf (l : List Spn) (n : Nat) : Option Int := if n = 0 then none else (l[n - 1]?).map (·.hi)
theorem prevOf_next {l : List Spn} {n : Nat} {x : Spn} (h : l[n]? = some x) : prevOf l (n + 1) = some x.hi := by
  unfold prevOf
  rw [if_neg (by omega), Nat.add_sub_cancel, h]
  rfl
theorem right_step {l : List Spn} {n : Nat} {x : Spn} (h : l[n]? = some x) (hr : rightGo n (prevOf l n) (l.drop n) = right l) :
    (bad1 (prevOf l n) x = 0 → rightGo (n + 1) (prevOf l (n + 1)) (l.drop (n + 1)) = right l) ∧ (bad1 (prevOf l n) x ≠ 0 → right l = ((n : Int), bad1 (prevOf l n) x)) := by
  rw [drop_cons h, rightGo] at hr
  refine ⟨fun h0 => ?_, fun h0 => ?_⟩
  · rw [if_pos h0] at hr
    rw [prevOf_next h]
    exact hr
  · rw [if_neg h0] at hr
    exact hr.symm
theorem bad1_14 {p : Option Int} {x : Spn} (h : valid x.lo = false ∨ valid x.hi = false) : bad1 p x = 14 := by
  unfold bad1
  rw [if_neg]
  rcases h with h | h <;> simp [h]
theorem bad1_15 {p : Option Int} {x : Spn} (h0 : valid x.lo = true) (h1 : valid x.hi = true) (h : x.hi < x.lo ∨ ∃ y, p = some y ∧ x.lo ≤ y) : bad1 p x = 15 := by
  unfold bad1
  rw [if_pos (by simp [h0, h1])]
  by_cases hc : x.hi < x.lo
  · rw [if_pos hc]
  · rw [if_neg hc]
    rcases h with h | ⟨y, rfl, hy⟩
    · exact absurd h hc
    · exact if_pos hy
theorem bad1_ok {p : Option Int} {x : Spn} (h0 : valid x.lo = true) (h1 : valid x.hi = true) (hc : ¬ x.hi < x.lo) (h : ∀ y, p = some y → ¬ x.lo ≤ y) : bad1 p x = 0 := by
  unfold bad1
  rw [if_pos (by simp [h0, h1]), if_neg hc]
  cases p with
  | none => rfl
  | some y => exact if_neg (h y rfl)

set_option maxRecDepth 100000 in
set_option maxHeartbeats 2000000 in
theorem right3_any (w : World) (p : Option Addr) (c : Nat) (l : List Spn) (H : Rd eP w p l) (hl : l.length ≤ 1099511627776) :
    Calls Tryz.prog 88 #[.slice p l.length c] w fun e w' => e = .returned (.tuple #[.int .i64 (right l).1, .int .i64 (right l).2]) ∧ Ext (fun _ => False) w w' := by
  have HR := Lib.hid H
  clear H
  go_enter Tryz.func88, Tryz.ntmps88
  go_wp2_with fail
  go_loopw [4] (fun i wr => ∃ n : Nat, i = .int .i64 n ∧ n ≤ l.length ∧ rightGo n (prevOf l n) (l.drop n) = right l ∧ Ext (fun _ => False) w wr) (fun i _ => l.length - (intOf i).toNat)
  case atStart => exact ⟨0, rfl, Nat.zero_le _, rfl, Ext.refl _ _⟩
  case round =>
    obtain ⟨n, rfl, hn, hr, hx⟩ := hrel
    have X := Lib.hid hx
    have HRG := Lib.hid hr
    clear hx hr
    by_cases hlt : n < l.length
    · have i1 : (n : Int) < (l.length : Int) := by omega
      obtain ⟨x, hx⟩ : ∃ x, l[n]? = some x := ⟨_, List.getElem?_eq_getElem hlt⟩
      obtain ⟨b, o, rfl, hb, c0, c1⟩ := (HR.out.on X.out).cellP hx
      have HX := Lib.hid hx
      have ST := Lib.hid (right_step hx HRG.out)
      have X1 := Lib.hid (X.out)
      clear hx
      go_wp2_with fail
      refine (rune3_any x.lo _).mono ?_
      rintro e w' ⟨rfl, rfl⟩
      by_cases v0 : valid x.lo = true
      · rw [v0]
        go_wp2_with fail
        refine (rune3_any x.hi _).mono ?_
        rintro e w' ⟨rfl, rfl⟩
        by_cases v1 : valid x.hi = true
        · rw [v1]
          by_cases hc : x.hi < x.lo
          · have E := Lib.hid (ST.out.2 (by rw [bad1_15 v0 v1 (.inl hc)]; decide))
            have E2 := Lib.hid (bad1_15 (p := prevOf l n) v0 v1 (.inl hc))
            have d1 : decide (x.hi < x.lo) = true := decide_eq_true hc
            clear v0 v1 hc
            go_wp2_with fail
            go_quiet (fail)
            go_wp2_with fail
            go_ret2
            exact ⟨by rw [E.out, E2.out]; rfl, X1.out.drewN _⟩
          · have d1 : decide (x.hi < x.lo) = false := decide_eq_false hc
            cases n with
            | zero =>
              have E2 := Lib.hid (ST.out.1 (bad1_ok v0 v1 hc (fun y hy => by unfold prevOf at hy; rw [if_pos rfl] at hy; cases hy)))
              have d2 : decide ((((0 : Nat) : Int)) > 0) = false := by decide
              simp only [Nat.zero_mul, Nat.add_zero] at c0 c1
              clear v0 v1 hc
              go_wp2_with fail
              go_quiet (fail)
              go_wp2_with fail
              go_roundw
              case rel => exact ⟨1, rfl, by omega, E2.out, X1.out.drewN _⟩
              case measure => simp [intOf]; omega
            | succ m =>
              obtain ⟨y, hy⟩ : ∃ y, l[m]? = some y := ⟨_, List.getElem?_eq_getElem (by omega)⟩
              obtain ⟨b2, o2, hp2, hb2, e0, e1⟩ := (HR.out.on X1.out).cellP hy
              have HP := Lib.hid (show prevOf l (m + 1) = some y.hi from prevOf_next hy)
              injection hp2 with hp2
              injection hp2 with hp3 hp4
              subst hp3 hp4
              clear hy
              have d2 : decide (((m : Int) + 1) > 0) = true := decide_eq_true (by omega)
              have d3 : decide (0 < m + 1) = true := decide_eq_true (by omega)
              have hw : IntKind.i64.wrap ((m : Int) + 1 - 1) = (m : Int) := by rw [show (m : Int) + 1 - 1 = (m : Int) by omega]; exact IntWalk.i64_in _ (by omega)
              have m1 : (m : Int) < (l.length : Int) := by omega
              by_cases hle : x.lo ≤ y.hi
              · have E := Lib.hid (ST.out.2 (by rw [bad1_15 v0 v1 (.inr ⟨y.hi, HP.out, hle⟩)]; decide))
                have E2 := Lib.hid (bad1_15 v0 v1 (.inr ⟨y.hi, HP.out, hle⟩))
                have d4 : decide (x.lo ≤ y.hi) = true := decide_eq_true hle
                clear v0 v1 hc hle
                go_wp2_with fail
                go_quiet (fail)
                go_wp2_with fail
                go_ret2
                exact ⟨by rw [E.out, E2.out]; rfl, X1.out.drewN _⟩
              · have E2 := Lib.hid (ST.out.1 (bad1_ok v0 v1 hc (fun z hz => by rw [HP.out] at hz; cases hz; exact hle)))
                have d4 : decide (x.lo ≤ y.hi) = false := decide_eq_false hle
                clear v0 v1 hc hle
                go_wp2_with fail
                go_quiet (fail)
                go_wp2_with fail
                go_roundw
                case rel => exact ⟨m + 1 + 1, by go_num, by omega, E2.out, X1.out.drewN _⟩
                case measure => simp [intOf]; omega
        · have v1' : valid x.hi = false := by simpa using v1
          have E := Lib.hid (ST.out.2 (by rw [bad1_14 (.inr v1')]; decide))
          have E2 := Lib.hid (bad1_14 (p := prevOf l n) (.inr v1'))
          rw [v1']
          clear v0 v1 v1'
          go_wp2_with fail
          go_ret2
          exact ⟨by rw [E.out, E2.out]; rfl, X1.out⟩
      · have v0' : valid x.lo = false := by simpa using v0
        have E := Lib.hid (ST.out.2 (by rw [bad1_14 (.inl v0')]; decide))
        have E2 := Lib.hid (bad1_14 (p := prevOf l n) (.inl v0'))
        rw [v0']
        clear v0 v0'
        go_wp2_with fail
        go_ret2
        exact ⟨by rw [E.out, E2.out]; rfl, X1.out⟩
    · have i1 : ¬ ((n : Int) < (l.length : Int)) := by omega
      have E := Lib.hid (show right l = (0, 0) from by
        have := HRG.out
        rw [List.drop_of_length_le (by omega)] at this
        exact this.symm)
      go_wp2_with fail
      go_ret2
      exact ⟨by rw [E.out]; rfl, X.out⟩


set_option maxRecDepth 100000 in
set_option maxHeartbeats 2000000 in
theorem rightS_any (w : World) (p : Option Addr) (c : Nat) (l : List Spn) (H : Rd eP w p l) (hl : l.length ≤ 1099511627776) :
    Calls Tryz.prog 82 #[.slice p l.length c] w fun e w' => e = .returned (.tuple #[.int .i64 (right l).1, .int .i64 (right l).2]) ∧ Ext (fun _ => False) w w' := by
  have HR := Lib.hid H
  clear H
  go_enter Tryz.func82, Tryz.ntmps82
  go_wp2_with fail
  go_loopw [8] (fun i wr => ∃ n : Nat, i = .int .i64 n ∧ n ≤ l.length ∧ rightGo n (prevOf l n) (l.drop n) = right l ∧ Ext (fun _ => False) w wr) (fun i _ => l.length - (intOf i).toNat)
  case atStart => exact ⟨0, rfl, Nat.zero_le _, rfl, Ext.refl _ _⟩
  case round =>
    obtain ⟨n, rfl, hn, hr, hx⟩ := hrel
    have X := Lib.hid hx
    have HRG := Lib.hid hr
    clear hx hr
    by_cases hlt : n < l.length
    · have i1 : (n : Int) < (l.length : Int) := by omega
      obtain ⟨x, hx⟩ : ∃ x, l[n]? = some x := ⟨_, List.getElem?_eq_getElem hlt⟩
      obtain ⟨b, o, rfl, hb, c0, c1⟩ := (HR.out.on X.out).cellP hx
      have HX := Lib.hid hx
      have ST := Lib.hid (right_step hx HRG.out)
      have X1 := Lib.hid (X.out.alloc (spObj x))
      clear hx
      go_wp2_with fail
      refine (valid_same x.lo _).mono ?_
      rintro e w' ⟨rfl, rfl⟩
      by_cases v0 : valid x.lo = true
      · rw [v0]
        go_wp2_with fail
        refine (valid_same x.hi _).mono ?_
        rintro e w' ⟨rfl, rfl⟩
        by_cases v1 : valid x.hi = true
        · rw [v1]
          by_cases hc : x.hi < x.lo
          · have E := Lib.hid (ST.out.2 (by rw [bad1_15 v0 v1 (.inl hc)]; decide))
            have E2 := Lib.hid (bad1_15 (p := prevOf l n) v0 v1 (.inl hc))
            have d1 : decide (x.hi < x.lo) = true := decide_eq_true hc
            clear v0 v1 hc
            go_wp2_with fail
            go_quiet (fail)
            go_wp2_with fail
            go_ret2
            exact ⟨by rw [E.out, E2.out]; rfl, X1.out.drewN _⟩
          · have d1 : decide (x.hi < x.lo) = false := decide_eq_false hc
            cases n with
            | zero =>
              have E2 := Lib.hid (ST.out.1 (bad1_ok v0 v1 hc (fun y hy => by unfold prevOf at hy; rw [if_pos rfl] at hy; cases hy)))
              have d2 : decide ((((0 : Nat) : Int)) > 0) = false := by decide
              simp only [Nat.zero_mul, Nat.add_zero] at c0 c1
              clear v0 v1 hc
              go_wp2_with fail
              go_quiet (fail)
              go_wp2_with fail
              go_roundw
              case rel => exact ⟨1, rfl, by omega, E2.out, X1.out.drewN _⟩
              case measure => simp [intOf]; omega
            | succ m =>
              obtain ⟨y, hy⟩ : ∃ y, l[m]? = some y := ⟨_, List.getElem?_eq_getElem (by omega)⟩
              obtain ⟨b2, o2, hp2, hb2, e0, e1⟩ := (HR.out.on X1.out).cellP hy
              have HP := Lib.hid (show prevOf l (m + 1) = some y.hi from prevOf_next hy)
              injection hp2 with hp2
              injection hp2 with hp3 hp4
              subst hp3 hp4
              clear hy
              have d2 : decide (((m : Int) + 1) > 0) = true := decide_eq_true (by omega)
              have d3 : decide (0 < m + 1) = true := decide_eq_true (by omega)
              have hw : IntKind.i64.wrap ((m : Int) + 1 - 1) = (m : Int) := by rw [show (m : Int) + 1 - 1 = (m : Int) by omega]; exact IntWalk.i64_in _ (by omega)
              have m1 : (m : Int) < (l.length : Int) := by omega
              by_cases hle : x.lo ≤ y.hi
              · have E := Lib.hid (ST.out.2 (by rw [bad1_15 v0 v1 (.inr ⟨y.hi, HP.out, hle⟩)]; decide))
                have E2 := Lib.hid (bad1_15 v0 v1 (.inr ⟨y.hi, HP.out, hle⟩))
                have d4 : decide (x.lo ≤ y.hi) = true := decide_eq_true hle
                clear v0 v1 hc hle
                go_wp2_with fail
                go_quiet (fail)
                go_wp2_with fail
                go_ret2
                exact ⟨by rw [E.out, E2.out]; rfl, X1.out.drewN _⟩
              · have E2 := Lib.hid (ST.out.1 (bad1_ok v0 v1 hc (fun z hz => by rw [HP.out] at hz; cases hz; exact hle)))
                have d4 : decide (x.lo ≤ y.hi) = false := decide_eq_false hle
                clear v0 v1 hc hle
                go_wp2_with fail
                go_quiet (fail)
                go_wp2_with fail
                go_roundw
                case rel => exact ⟨m + 1 + 1, by go_num, by omega, E2.out, X1.out.drewN _⟩
                case measure => simp [intOf]; omega
        · have v1' : valid x.hi = false := by simpa using v1
          have E := Lib.hid (ST.out.2 (by rw [bad1_14 (.inr v1')]; decide))
          have E2 := Lib.hid (bad1_14 (p := prevOf l n) (.inr v1'))
          rw [v1']
          clear v0 v1 v1'
          go_wp2_with fail
          go_ret2
          exact ⟨by rw [E.out, E2.out]; rfl, X1.out⟩
      · have v0' : valid x.lo = false := by simpa using v0
        have E := Lib.hid (ST.out.2 (by rw [bad1_14 (.inl v0')]; decide))
        have E2 := Lib.hid (bad1_14 (p := prevOf l n) (.inl v0'))
        rw [v0']
        clear v0 v0'
        go_wp2_with fail
        go_ret2
        exact ⟨by rw [E.out, E2.out]; rfl, X1.out⟩
    · have i1 : ¬ ((n : Int) < (l.length : Int)) := by omega
      have E := Lib.hid (show right l = (0, 0) from by
        have := HRG.out
        rw [List.drop_of_length_le (by omega)] at this
        exact this.symm)
      go_wp2_with fail
      go_ret2
      exact ⟨by rw [E.out]; rfl, X.out⟩


set_option maxHeartbeats 1000000 in
theorem in3_any (w : World) (p : Option Addr) (c : Nat) (l : List Spn) (r : Int) (H : Rd eP w p l) (hl : l.length ≤ 1099511627776) :
    Calls Tryz.prog 90 #[.slice p l.length c, .int .i32 r] w fun e w' => e = .returned (.bool (inn l r)) ∧ w = w' := by
  have HR := Lib.hid H
  clear H
  go_enter Tryz.func90, Tryz.ntmps90
  go_wp2_with fail
  go_loop [5] (fun i => ∃ n : Nat, i = .int .i64 n ∧ n ≤ l.length ∧ ∀ y ∈ l.take n, ¬ (y.lo ≤ r ∧ r ≤ y.hi)) (fun i => l.length - (intOf i).toNat)
  case atStart => exact ⟨0, rfl, Nat.zero_le _, by simp⟩
  case round =>
    obtain ⟨n, rfl, hn, hno⟩ := hrel
    have NO := Lib.hid hno
    clear hno
    by_cases hlt : n < l.length
    · have i1 : (n : Int) < (l.length : Int) := by omega
      obtain ⟨x, hx⟩ : ∃ x, l[n]? = some x := ⟨_, List.getElem?_eq_getElem hlt⟩
      obtain ⟨b, o, rfl, hb, c0, c1⟩ := HR.out.cellP hx
      have HX := Lib.hid hx
      clear hx
      by_cases hc : x.lo ≤ r ∧ r ≤ x.hi
      · have E := Lib.hid (show inn l r = valid r from by
          unfold inn
          rw [List.any_eq_true.2 ⟨x, List.mem_of_getElem? HX.out, by simp [hc]⟩, Bool.and_true])
        obtain ⟨h1, h2⟩ := hc
        go_wp2_with fail
        refine (rune3_any r w).mono ?_
        rintro e w' ⟨rfl, rfl⟩
        go_wp2_with fail
        go_ret
        exact ⟨by rw [E.out]; rfl, rfl⟩
      · have N2 := Lib.hid (show ∀ y ∈ l.take (n + 1), ¬ (y.lo ≤ r ∧ r ≤ y.hi) from fun z hz => by
          rw [List.take_add_one, HX.out] at hz
          rcases List.mem_append.1 hz with h | h
          · exact NO.out z h
          · simp at h; rw [h]; exact hc)
        by_cases h1 : x.lo ≤ r
        · have h2 : ¬ r ≤ x.hi := fun h => hc ⟨h1, h⟩
          clear hc
          go_wp2_with fail
          go_round
          case rel => exact ⟨n + 1, by go_num, by omega, N2.out⟩
          case measure => simp [intOf]; omega
        · clear hc
          go_wp2_with fail
          go_round
          case rel => exact ⟨n + 1, by go_num, by omega, N2.out⟩
          case measure => simp [intOf]; omega
    · have i1 : ¬ ((n : Int) < (l.length : Int)) := by omega
      have E := Lib.hid (show inn l r = false from by
        unfold inn
        rw [Bool.and_eq_false_iff]
        right
        rw [List.any_eq_false]
        intro y hy h
        have := NO.out y (by rwa [List.take_of_length_le (by omega)])
        simp at h
        exact this h)
      go_wp2_with fail
      go_ret
      exact ⟨by rw [E.out]; rfl, rfl⟩

theorem right_any (w : World) (p : Option Addr) (c : Nat) (l : List Spn) (H : Rd eP w p l) (hc : l.length ≤ c) (hl : l.length ≤ 1099511627776) :
    Calls Tryz.prog 82 #[.slice p l.length c] w fun e w' => e = .returned (.tuple #[.int .i64 (right l).1, .int .i64 (right l).2]) ∧ Ext (fun _ => False) w w' := rightS_any w p c l H hl

theorem touch_iff {x y : Spn} : touch x y = true ↔ x.lo ≤ y.hi ∧ y.lo ≤ x.hi := by simp [touch]
set_option maxRecDepth 100000 in
set_option maxHeartbeats 4000000 in
theorem meet3_any (w : World) (p q : Option Addr) (c d : Nat) (a b : List Spn) (HA : Rd eP w p a) (HB : Rd eP w q b) (oa : Ok a) (ob : Ok b) (ha : a.length ≤ 1099511627776) (hb : b.length ≤ 1099511627776) :
    Calls Tryz.prog 89 #[.slice p a.length c, .slice q b.length d] w fun e w' => e = .returned (.tuple #[.int .i64 (meet a b).1, .bool (meet a b).2]) ∧ w = w' := by
  have RA := Lib.hid HA
  have RB := Lib.hid HB
  have OA := Lib.hid oa
  have OB := Lib.hid ob
  clear HA HB oa ob
  go_enter Tryz.func89, Tryz.ntmps89
  go_wp2_with fail
  go_loop [6] (fun i => ∃ n : Nat, i = .int .i64 n ∧ n ≤ a.length ∧ ∀ j y, j < n → a[j]? = some y → b.any (touch y) = false) (fun i => a.length - (intOf i).toNat)
  case atStart => exact ⟨0, rfl, Nat.zero_le _, fun j y hj => absurd hj (Nat.not_lt_zero _)⟩
  case round =>
    obtain ⟨n, rfl, hn, hno⟩ := hrel
    have NO := Lib.hid hno
    clear hno
    by_cases hlt : n < a.length
    · have i1 : (n : Int) < (a.length : Int) := by omega
      obtain ⟨x, hx⟩ : ∃ x, a[n]? = some x := ⟨_, List.getElem?_eq_getElem hlt⟩
      obtain ⟨pb, po, rfl, hpb, c0, c1⟩ := RA.out.cellP hx
      have HX := Lib.hid hx
      obtain ⟨vx0, vx1, vx2⟩ := OA.out.1 x (List.mem_of_getElem? hx)
      have VX := Lib.hid (And.intro vx0 vx1)
      clear hx vx0 vx1
      go_wp2_with fail
      go_loop [7] (fun i => ∃ m : Nat, i = .int .i64 m ∧ m ≤ b.length ∧ ∀ z ∈ b.take m, touch x z = false) (fun i => b.length - (intOf i).toNat)
      case atStart => exact ⟨0, rfl, Nat.zero_le _, by simp⟩
      case round =>
        obtain ⟨m, rfl, hm, hnz⟩ := hrel
        have NZ := Lib.hid hnz
        clear hnz
        by_cases hlt2 : m < b.length
        · have i2 : (m : Int) < (b.length : Int) := by omega
          obtain ⟨y, hy⟩ : ∃ y, b[m]? = some y := ⟨_, List.getElem?_eq_getElem hlt2⟩
          obtain ⟨qb, qo, rfl, hqb, e0, e1⟩ := RB.out.cellP hy
          have HY := Lib.hid hy
          obtain ⟨vy0, vy1, vy2⟩ := OB.out.1 y (List.mem_of_getElem? hy)
          have VY := Lib.hid (And.intro vy0 vy1)
          clear hy vy0 vy1
          by_cases ht : x.lo ≤ y.hi ∧ y.lo ≤ x.hi
          · have E := Lib.hid (show meet a b = ((n : Int), true) from by
              have := firstGo_at (f := fun x => b.any (touch x)) (i := 0) HX.out (List.any_eq_true.2 ⟨y, List.mem_of_getElem? HY.out, touch_iff.2 ht⟩) NO.out
              rw [Nat.zero_add] at this
              exact this)
            obtain ⟨t1, t2⟩ := ht
            have LO : ∀ lo : Int, lo = x.lo ∨ lo = y.lo → ∀ W, Calls Tryz.prog 119 #[.int .i32 lo] W fun e w' => e = .returned (.bool true) ∧ W = w' := fun lo h W => by
              have := rune3_any lo W
              rcases h with rfl | rfl
              · rwa [VX.out.1] at this
              · rwa [VY.out.1] at this
            have HLO := Lib.hid LO
            clear LO
            by_cases g1 : x.lo < y.lo
            · by_cases g2 : y.hi < x.hi
              · go_wp2_with (go_at_call 119; refine (HLO.out _ (.inr rfl) _).mono ?_; rintro e w' ⟨rfl, rfl⟩)
                go_ret2
                exact ⟨by rw [E.out]; rfl, rfl⟩
              · go_wp2_with (go_at_call 119; refine (HLO.out _ (.inr rfl) _).mono ?_; rintro e w' ⟨rfl, rfl⟩)
                go_ret2
                exact ⟨by rw [E.out]; rfl, rfl⟩
            · by_cases g2 : y.hi < x.hi
              · go_wp2_with (go_at_call 119; refine (HLO.out _ (.inl rfl) _).mono ?_; rintro e w' ⟨rfl, rfl⟩)
                go_ret2
                exact ⟨by rw [E.out]; rfl, rfl⟩
              · go_wp2_with (go_at_call 119; refine (HLO.out _ (.inl rfl) _).mono ?_; rintro e w' ⟨rfl, rfl⟩)
                go_ret2
                exact ⟨by rw [E.out]; rfl, rfl⟩
          · have N2 := Lib.hid (show ∀ z ∈ b.take (m + 1), touch x z = false from fun z hz => by
              rw [List.take_add_one, HY.out] at hz
              rcases List.mem_append.1 hz with h | h
              · exact NZ.out z h
              · simp at h
                rw [h]
                cases e : touch x y with
                | false => rfl
                | true => exact absurd (touch_iff.1 e) ht)
            have ht2 : y.hi < x.lo ∨ x.hi < y.lo := by omega
            clear ht
            by_cases g1 : x.lo < y.lo
            · by_cases g2 : y.hi < x.hi
              · have g3 : ¬ y.lo ≤ y.hi := by omega
                omega
              · have g3 : x.hi < y.lo := by omega
                clear ht2
                go_wp2_with fail
                go_round
                case rel => exact ⟨m + 1, by go_num, by omega, N2.out⟩
                case measure => simp [intOf]; omega
            · by_cases g2 : y.hi < x.hi
              · have g3 : y.hi < x.lo := by omega
                clear ht2
                go_wp2_with fail
                go_round
                case rel => exact ⟨m + 1, by go_num, by omega, N2.out⟩
                case measure => simp [intOf]; omega
              · omega
        · have i2 : ¬ ((m : Int) < (b.length : Int)) := by omega
          have N2 := Lib.hid (show ∀ j y, j < n + 1 → a[j]? = some y → b.any (touch y) = false from fun j y hj hy => by
            rcases Nat.lt_or_ge j n with h | h
            · exact NO.out j y h hy
            · obtain rfl : j = n := by omega
              rw [HX.out] at hy
              cases hy
              rw [List.any_eq_false]
              intro z hz h
              have := NZ.out z (by rwa [List.take_of_length_le (by omega)])
              rw [this] at h
              cases h)
          go_wp2_with fail
          go_round
          case rel => exact ⟨n + 1, by go_num, by omega, N2.out⟩
          case measure => simp [intOf]; omega
    · have i1 : ¬ ((n : Int) < (a.length : Int)) := by omega
      have E := Lib.hid (show meet a b = (0, false) from firstGo_none (fun x hx => by
        obtain ⟨j, hj, rfl⟩ := List.getElem_of_mem hx
        exact NO.out j _ (by omega) (List.getElem?_eq_getElem hj)))
      go_wp2_with fail
      go_ret2
      exact ⟨by rw [E.out]; rfl, rfl⟩

set_option maxRecDepth 100000 in
set_option maxHeartbeats 2000000 in
theorem cut_any (w : World) (x : Spn) (h0 : 0 ≤ x.lo) (h1 : x.hi ≤ 1114111) (h2 : x.lo ≤ x.hi) :
    Calls Tryz.prog 140 #[.agg #[.int .i32 x.lo, .int .i32 x.hi]] w fun e w' => e = .returned (.tuple #[.agg #[.int .i32 x.lo, .int .i32 x.hi], .bool true]) ∧ Ext (fun _ => False) w w' := by
  have i1 : ¬ x.lo < 0 := by omega
  have i2 : ¬ 1114111 < x.hi := by omega
  have e1 : mx x.lo 0 = x.lo := if_neg i1
  have e2 : mn x.hi 1114111 = x.hi := if_neg i2
  have E1 := Lib.hid e1
  have E2 := Lib.hid e2
  clear e1 e2
  go_enter Tryz.func140, Tryz.ntmps140
  go_wp2_with fail
  rw [E1.out, E2.out]
  have d1 : decide (x.lo ≤ x.hi) = true := decide_eq_true h2
  have X := Lib.hid (((Ext.refl (fun _ => False) w).alloc (.cells #[.int .i32 x.lo, .int .i32 x.hi] 127)).alloc (.cells #[.int .i32 0, .int .i32 0] 127))
  have z0 : ((w.alloc (.cells #[.int .i32 x.lo, .int .i32 x.hi] 127)).alloc (.cells #[.int .i32 0, .int .i32 0] 127)).heap[w.heap.size + 1]? = some (.cells #[.int .i32 0, .int .i32 0] 127 (0, 0)) := by
    have := heap_alloc_new (w.alloc (.cells #[.int .i32 x.lo, .int .i32 x.hi] 127)) (.cells #[.int .i32 0, .int .i32 0] 127)
    rwa [World.size_alloc] at this
  have b0 : ((w.alloc (.cells #[.int .i32 x.lo, .int .i32 x.hi] 127)).alloc (.cells #[.int .i32 0, .int .i32 0] 127)).heap[w.heap.size]? = some (.cells #[.int .i32 x.lo, .int .i32 x.hi] 127 (0, 0)) := blk_alloc (heap_alloc_new w _) _
  obtain ⟨W, hW⟩ : ∃ W, (w.alloc (.cells #[.int .i32 x.lo, .int .i32 x.hi] 127)).alloc (.cells #[.int .i32 0, .int .i32 0] 127) = W := ⟨_, rfl⟩
  rw [hW] at X z0 b0 ⊢
  have c0 := blk_cell b0 0
  have c1 := blk_cell b0 1
  have f0 := blk_cell z0 0
  have f1 := blk_cell z0 1
  have f2 := blk_frozen z0 0
  have f3 := blk_frozen z0 1
  simp at c0 c1 f0 f1
  have Z := Lib.hid (blk_set (blk_set z0 0 (.int .i32 x.lo)) 1 (.int .i32 x.hi))
  have XZ := Lib.hid (((Ext.refl (fun k => k = w.heap.size + 1) W).setCell (p := ⟨w.heap.size + 1, 0, none⟩) (fun _ => rfl) (.int .i32 x.lo)).setCell (p := ⟨w.heap.size + 1, 1, none⟩) (fun _ => rfl) (.int .i32 x.hi))
  clear hW b0 z0 i1 i2
  go_region
  all_goals go_wp2_with fail
  all_goals
    have g := Z.out
    obtain ⟨F, hF⟩ : ∃ F, (W.setCell ⟨w.heap.size + 1, 0, none⟩ (.int .i32 x.lo)).setCell ⟨w.heap.size + 1, 1, none⟩ (.int .i32 x.hi) = F := ⟨_, rfl⟩
    rw [hF] at g XZ
    try rw [hF]
    have r0 := blk_cell g 0
    have r1 := blk_cell g 1
    simp at r0 r1
    exact bodyPost_ret (v := .tuple #[.agg #[.int .i32 x.lo, .int .i32 x.hi], .bool true]) (by simp [results, Tryz.f140, go_sem, r0, r1]) rfl ⟨rfl, by first | exact X.out.trans XZ.out (fun i hi h => by omega) | exact Ext.drew (X.out.trans XZ.out (fun i hi h => by omega))⟩
theorem size_pos {lo hi : Int} (l0 : 0 ≤ lo) (l1 : lo ≤ 1114111) (l2 : lo < 55296 ∨ 57343 < lo) (k0 : 0 ≤ hi) (k1 : hi ≤ 1114111) (k2 : hi < 55296 ∨ 57343 < hi) (hle : lo ≤ hi) :
    0 < wrap64 (wrap64 (hi - lo + 1 - mx 0 (wrap64 (wrap64 (wrap32 (mn hi 57343 - mx lo 55296)) + 1)))) := by
  have a : -1114111 ≤ mn hi 57343 - mx lo 55296 ∧ mn hi 57343 - mx lo 55296 ≤ 1114111 := by unfold mn mx; split <;> split <;> omega
  have e1 : wrap32 (mn hi 57343 - mx lo 55296) = mn hi 57343 - mx lo 55296 := by unfold wrap32; omega
  have e2 : wrap64 (mn hi 57343 - mx lo 55296) = mn hi 57343 - mx lo 55296 := by unfold wrap64; omega
  have e3 : wrap64 (mn hi 57343 - mx lo 55296 + 1) = mn hi 57343 - mx lo 55296 + 1 := by unfold wrap64; omega
  rw [e1, e2, e3]
  have b : 0 < hi - lo + 1 - mx 0 (mn hi 57343 - mx lo 55296 + 1) ∧ hi - lo + 1 - mx 0 (mn hi 57343 - mx lo 55296 + 1) ≤ 1114112 := by
    unfold mn mx
    split <;> split <;> split <;> omega
  obtain ⟨z, hz⟩ : ∃ z, hi - lo + 1 - mx 0 (mn hi 57343 - mx lo 55296 + 1) = z := ⟨_, rfl⟩
  rw [hz] at b ⊢
  have e4 : wrap64 z = z := by unfold wrap64; omega
  rw [e4, e4]
  exact b.1
set_option maxRecDepth 100000 in
set_option maxHeartbeats 2000000 in
theorem size1_any (w : World) (a : Nat) (x : Spn) (h0 : w.cell? ⟨a, 0, none⟩ = some (.int .i32 x.lo)) (h1 : w.cell? ⟨a, 1, none⟩ = some (.int .i32 x.hi)) (v0 : valid x.lo = true) (v1 : valid x.hi = true) (hle : x.lo ≤ x.hi) :
    Calls Tryz.prog 117 #[.slice (some ⟨a, 0, none⟩) 1 1] w fun e w' => (∃ n : Int, 0 < n ∧ e = .returned (.int .i64 n)) ∧ Ext (fun _ => False) w w' := by
  have V0 := valid_iff.1 v0
  have V1 := valid_iff.1 v1
  obtain ⟨l0, l1, l2⟩ := V0
  obtain ⟨k0, k1, k2⟩ := V1
  have hb : a < w.heap.size := World.block_lt_of_cell? w ⟨a, 0, none⟩ h0
  have X1 := Lib.hid ((Ext.refl (fun _ => False) w).alloc (spObj x))
  have CU := Lib.hid (cut_any (w.alloc (spObj x)) x l0 k1 hle)
  have L2 := Lib.hid l2
  have K2 := Lib.hid k2
  clear v0 v1 l2 k2
  go_enter Tryz.func117, Tryz.ntmps117
  go_wp2_with fail
  go_loopw [3, 10] (fun v i wr => (v = .int .i64 0 ∧ i = .int .i64 0 ∧ wr = w) ∨ (i = .int .i64 1 ∧ (∃ n : Int, 0 < n ∧ v = .int .i64 n) ∧ Ext (fun _ => False) w wr)) (fun _ i _ => 1 - (intOf i).toNat)
  case atStart => exact .inl ⟨rfl, rfl, rfl⟩
  case round =>
    rcases hrel with ⟨rfl, rfl, hw⟩ | ⟨rfl, ⟨n, hn, rfl⟩, hx⟩
    · subst hw
      go_wp2_with fail
      refine CU.out.mono ?_
      rintro e W ⟨rfl, hx⟩
      have X2 := Lib.hid (X1.out.trans hx (fun _ _ h => h))
      clear hx
      go_wp2_with fail
      exact ⟨.inr ⟨rfl, ⟨_, size_pos l0 l1 L2.out k0 k1 K2.out hle, rfl⟩, X2.out.alloc _⟩, by simp [intOf]⟩
    · have HN := Lib.hid hn
      have X := Lib.hid hx
      clear hx hn
      go_wp2_with fail
      go_ret
      exact ⟨⟨n, HN.out, rfl⟩, X.out⟩
end Go.Proofs.YtigpaaelggnffaaGreatDoor.Sl

/- sort.Search as spans.find calls it; spans.find, spans.In. -/
namespace Go.Proofs.YtigpaaelggnffaaGreatDoor.Sl
open Go.RowKit Go.Proofs.YtigpaaelggnffaaGreatDoor.Lib
set_option linter.unusedVariables false
set_option linter.unusedSimpArgs false

set_option maxHeartbeats 1000000 in
/-- sort.Search finds m where f tells, of each number below n, whether it is m or above. -/
theorem search_any (x y : Value) (n m : Nat) (hm : m ≤ n) (hn : n ≤ 1099511627776) (w : World)
    (hf : ∀ (h : Nat) (k : Nat), h < n → Calls Tryz.prog 139 #[.int .i64 h, x, y] (w.drewN k) fun e w' => e = .returned (.bool (decide (m ≤ h))) ∧ ∃ k', w.drewN k' = w') :
    Calls Tryz.prog 138 #[.int .i64 n, .func (.func 139) #[] #[x, y]] w fun e w' => e = .returned (.int .i64 m) ∧ ∃ k, w.drewN k = w' := by
  have HF := Lib.hid hf
  clear hf
  go_enter Tryz.func138, Tryz.ntmps138
  go_wp2_with fail
  go_loopw [5, 6] (fun i j wr => ∃ a b k : Nat, a ≤ m ∧ m ≤ b ∧ b ≤ n ∧ i = .int .i64 a ∧ j = .int .i64 b ∧ w.drewN k = wr) (fun i j _ => (intOf j).toNat - (intOf i).toNat)
  case atStart => exact ⟨0, n, 0, Nat.zero_le _, hm, Nat.le_refl _, rfl, rfl, rfl⟩
  case round =>
    obtain ⟨a, b, k, ha, hb, hbn, rfl, rfl, rfl⟩ := hrel
    by_cases hlt : a < b
    · have i1 : (a : Int) < (b : Int) := by omega
      have hh : (a + b) / 2 < n := by omega
      obtain ⟨h, eh⟩ : ∃ h, (a + b) / 2 = h := ⟨_, rfl⟩
      have EH := Lib.hid eh
      have hb1 : h < b := by omega
      have ha1 : a ≤ h := by omega
      have C := HF.out h k (by omega)
      rw [← eh] at C
      clear eh
      by_cases hc : m ≤ h
      · have d1 : decide (m ≤ (a + b) / 2) = true := decide_eq_true (by rw [EH.out]; exact hc)
        rw [d1] at C
        have C := Lib.hid C
        clear d1
        go_wp2_with fail
        refine C.out.mono ?_
        rintro e w' ⟨rfl, k', rfl⟩
        go_wp2_with fail
        go_roundw
        case rel => exact ⟨a, h, k', ha, hc, by omega, rfl, by rw [← EH.out]; rfl, rfl⟩
        case measure => have := EH.out; simp [intOf]; omega
      · have d1 : decide (m ≤ (a + b) / 2) = false := decide_eq_false (by rw [EH.out]; exact hc)
        rw [d1] at C
        have C := Lib.hid C
        clear d1
        go_wp2_with fail
        refine C.out.mono ?_
        rintro e w' ⟨rfl, k', rfl⟩
        go_wp2_with fail
        go_roundw
        case rel => exact ⟨h + 1, b, k', by omega, hb, hbn, by rw [← EH.out]; rfl, rfl, rfl⟩
        case measure => have := EH.out; simp [intOf]; omega
    · obtain rfl : a = m := by omega
      obtain rfl : b = a := by omega
      go_wp2_with fail
      go_ret
      exact ⟨rfl, k, rfl⟩

set_option maxHeartbeats 400000 in
theorem find1_any (b0 b1 : Nat) (w0 w : World) (p : Option Addr) (c : Nat) (l : List Spn) (r : Int) (h : Nat) (x : Spn) (hx : l[h]? = some x) (H : Rd eP w p l) (hl : l.length ≤ 1099511627776)
    (h0 : w.cell? ⟨b0, 0, none⟩ = some (.slice p l.length c)) (h1 : w.cell? ⟨b1, 0, none⟩ = some (.int .i32 r)) :
    Calls Tryz.prog 139 #[.int .i64 h, .pointer (some ⟨b0, 0, none⟩), .pointer (some ⟨b1, 0, none⟩)] w fun e w' => e = .returned (.bool (decide (r ≤ x.hi))) ∧ ∃ k', w.drewN k' = w' := by
  have hlt : h < l.length := (List.getElem?_eq_some_iff.1 hx).1
  obtain ⟨b, o, rfl, hb, e0, e1⟩ := H.cellP hx
  have i1 : (h : Int) < (l.length : Int) := by omega
  clear hx H
  go_enter Tryz.func139, Tryz.ntmps139
  go_wp2_with fail
  go_quiet (fail)
  go_wp2_with fail
  go_ret
  exact ⟨rfl, nq, rfl⟩

theorem find_tell {l : List Spn} (h : Ok l) (r : Int) {i : Nat} {x : Spn} (hx : l[i]? = some x) : decide (r ≤ x.hi) = decide (find l r ≤ i) := by
  by_cases hc : find l r ≤ i
  · rw [decide_eq_true hc]
    have hlt : find l r < l.length := Nat.lt_of_le_of_lt hc (List.getElem?_eq_some_iff.1 hx).1
    have e := List.getElem?_eq_getElem hlt
    have h1 := find_at e
    have h2 := (ok_mono h hc e hx).1
    exact decide_eq_true (by omega)
  · rw [decide_eq_false hc]
    have := find_lt (l := l) (r := r) (i := i) (by omega) hx
    exact decide_eq_false (by omega)

set_option maxHeartbeats 400000 in
theorem find_any (w : World) (p : Option Addr) (c : Nat) (l : List Spn) (r : Int) (H : Rd eP w p l) (hok : Ok l) (hl : l.length ≤ 1099511627776) :
    Calls Tryz.prog 116 #[.slice p l.length c, .int .i32 r] w fun e w' => e = .returned (.int .i64 (find l r)) ∧ Ext (fun _ => False) w w' := by
  have hx : Ext (fun _ => False) w ((w.alloc (.cells #[.slice p l.length c] 24)).alloc (.cells #[.int .i32 r] 21)) := ((Ext.refl _ w).alloc _).alloc _
  have b0 := blk_cell (blk_alloc (heap_alloc_new w (.cells #[.slice p l.length c] 24)) (.cells #[.int .i32 r] 21)) 0
  have b1 := blk_cell (heap_alloc_new (w.alloc (.cells #[.slice p l.length c] 24)) (.cells #[.int .i32 r] 21)) 0
  simp only [World.size_alloc] at b1
  have S := search_any (.pointer (some ⟨w.heap.size, 0, none⟩)) (.pointer (some ⟨w.heap.size + 1, 0, none⟩)) l.length (find l r) (find_le l r) hl ((w.alloc (.cells #[.slice p l.length c] 24)).alloc (.cells #[.int .i32 r] 21)) (fun h k hh => by
    have e := List.getElem?_eq_getElem hh
    refine (find1_any w.heap.size (w.heap.size + 1) w _ p c l r h _ e ?_ hl ?_ ?_).mono ?_
    · exact H.on (hx.drewN k)
    · exact b0
    · exact b1
    · rintro e1 w1 ⟨rfl, k', rfl⟩
      exact ⟨by rw [find_tell hok r e], k + k', by rw [World.drewN_drewN]⟩)
  have HS := Lib.hid S
  have HX := Lib.hid hx
  clear S b0 b1 hx H hok
  go_enter Tryz.func116, Tryz.ntmps116
  go_wp2_with fail
  refine HS.out.mono ?_
  rintro e w' ⟨rfl, k, rfl⟩
  go_wp2_with fail
  go_ret
  exact ⟨rfl, HX.out.drewN k⟩
end Go.Proofs.YtigpaaelggnffaaGreatDoor.Sl

/- spans.In, spans.Meet, spans.Right, spans.Size of one span. -/
namespace Go.Proofs.YtigpaaelggnffaaGreatDoor.Sl
open Go.Proofs.YtigpaaelggnffaaGreatDoor.Lib
open Go.RowKit
set_option linter.unusedVariables false
set_option linter.unusedSimpArgs false

set_option maxHeartbeats 1000000 in
theorem in_any (w : World) (p : Option Addr) (c : Nat) (l : List Spn) (r : Int) (H : Rd eP w p l) (hok : Ok l) (hl : l.length ≤ 1099511627776) :
    Calls Tryz.prog 118 #[.slice p l.length c, .int .i32 r] w fun e w' => e = .returned (.bool (inn l r)) ∧ Ext (fun _ => False) w w' := by
  have HR := Lib.hid H
  have HO := Lib.hid hok
  have F := inn_find hok r
  by_cases hv : valid r = true
  · have hv2 : ∀ W, Calls Tryz.prog 115 #[.int .i32 r] W fun e w' => e = .returned (.bool true) ∧ Ext (fun _ => False) W w' := fun W => by
      have := valid_any r W
      rwa [hv] at this
    have HV := Lib.hid hv2
    rw [hv] at F
    cases e : l[find l r]? with
    | some y =>
      rw [e] at F
      simp only [Bool.true_and] at F
      have HF := Lib.hid F
      have hlt : find l r < l.length := (List.getElem?_eq_some_iff.1 e).1
      have i1 : (find l r : Int) < (l.length : Int) := by omega
      have HE := Lib.hid e
      clear e F hv hv2 H hok
      go_enter Tryz.func118, Tryz.ntmps118
      go_wp2_with fail
      refine (find_any w p c l r HR.out HO.out hl).mono ?_
      rintro e w1 ⟨rfl, hx1⟩
      have HX1 := Lib.hid hx1
      clear hx1
      go_wp2_with fail
      refine (HV.out w1).mono ?_
      rintro e w2 ⟨rfl, hx2⟩
      have HX := Lib.hid (HX1.out.trans hx2 (fun _ _ h => h))
      obtain ⟨b, o, rfl, hb, e0, e1⟩ := (HR.out.on HX.out).cellP HE.out
      clear hx2
      go_wp2_with fail
      go_ret
      exact ⟨by rw [HF.out]; rfl, HX.out⟩
    | none =>
      rw [e] at F
      have HF := Lib.hid F
      have hge := List.getElem?_eq_none_iff.1 e
      have i1 : ¬ (find l r : Int) < (l.length : Int) := by omega
      clear e F hv hv2 H hok
      go_enter Tryz.func118, Tryz.ntmps118
      go_wp2_with fail
      refine (find_any w p c l r HR.out HO.out hl).mono ?_
      rintro e w1 ⟨rfl, hx1⟩
      have HX1 := Lib.hid hx1
      clear hx1
      go_wp2_with fail
      refine (HV.out w1).mono ?_
      rintro e w2 ⟨rfl, hx2⟩
      have HX := Lib.hid (HX1.out.trans hx2 (fun _ _ h => h))
      clear hx2
      go_wp2_with fail
      go_ret
      exact ⟨by rw [HF.out]; rfl, HX.out⟩
  · have hv' : valid r = false := by simpa using hv
    have hv2 : ∀ W, Calls Tryz.prog 115 #[.int .i32 r] W fun e w' => e = .returned (.bool false) ∧ Ext (fun _ => False) W w' := fun W => by
      have := valid_any r W
      rwa [hv'] at this
    have HV := Lib.hid hv2
    rw [hv', Bool.false_and] at F
    have HF := Lib.hid F
    clear F hv hv' hv2 H hok
    go_enter Tryz.func118, Tryz.ntmps118
    go_wp2_with fail
    refine (find_any w p c l r HR.out HO.out hl).mono ?_
    rintro e w1 ⟨rfl, hx1⟩
    have HX1 := Lib.hid hx1
    clear hx1
    go_wp2_with fail
    refine (HV.out w1).mono ?_
    rintro e w2 ⟨rfl, hx2⟩
    have HX := Lib.hid (HX1.out.trans hx2 (fun _ _ h => h))
    clear hx2
    go_wp2_with fail
    go_ret
    exact ⟨by rw [HF.out]; rfl, HX.out⟩

set_option maxRecDepth 100000 in
set_option maxHeartbeats 2000000 in
theorem meet_any (w : World) (p q : Option Addr) (c d : Nat) (a b : List Spn) (HA : Rd eP w p a) (HB : Rd eP w q b) (oa : Ok a) (ob : Ok b) (ha : a.length ≤ 1099511627776) (hb : b.length ≤ 1099511627776) :
    Calls Tryz.prog 83 #[.slice p a.length c, .slice q b.length d] w fun e w' => e = .returned (.tuple #[.int .i64 (meet a b).1, .bool (meet a b).2]) ∧ Ext (fun _ => False) w w' := by
  have HA := Lib.hid HA
  have HB := Lib.hid HB
  have OA := Lib.hid oa
  have OB := Lib.hid ob
  clear oa ob
  go_enter Tryz.func83, Tryz.ntmps83
  go_wp2_with fail
  go_loopw [12] (fun i wr => ∃ k : Nat, k ≤ a.length ∧ i = .int .i64 k ∧ Ext (fun _ => False) w wr ∧ ∀ j y, j < k → a[j]? = some y → b.any (touch y) = false) (fun i _ => a.length - (intOf i).toNat)
  case atStart => exact ⟨0, Nat.zero_le _, rfl, Ext.refl _ _, fun j y hj => absurd hj (Nat.not_lt_zero _)⟩
  case round =>
    obtain ⟨k, hk, rfl, hx, hno⟩ := hrel
    have HX := Lib.hid hx
    have HN := Lib.hid hno
    clear hx hno
    by_cases hlt : k < a.length
    · obtain ⟨x, ex⟩ : ∃ x, a[k]? = some x := ⟨_, List.getElem?_eq_getElem hlt⟩
      obtain ⟨b0, o0, rfl, hb0, e0, e1⟩ := (HA.out.on HX.out).cellP ex
      have EX := Lib.hid ex
      have T := Lib.hid (touch_find OB.out x)
      have V := OA.out.1 x (List.mem_of_getElem? EX.out)
      have i1 : (k : Int) < (a.length : Int) := by omega
      clear ex
      go_wp2_with fail
      refine (find_any _ q d b x.lo (HB.out.on (HX.out.alloc _)) OB.out hb).mono ?_
      rintro e w1 ⟨rfl, hx1⟩
      have hx1' := Lib.hid (HX.out.trans (((Ext.refl _ wr).alloc (.cells #[.int .i32 x.lo, .int .i32 x.hi] 127)).trans hx1 (fun _ _ h => h)) (fun _ _ h => h))
      have c0 := blk_cell (hx1.obj (heap_alloc_new wr _) (fun h => h)) 0
      have c1 := blk_cell (hx1.obj (heap_alloc_new wr _) (fun h => h)) 1
      simp at c0 c1
      clear hx1 e0 e1
      go_wp2_with fail
      cases ey : b[find b x.lo]? with
      | none =>
        have T2 : b.any (touch x) = false := by
          have := T.out
          rw [ey] at this
          exact this
        have HT := Lib.hid T2
        have hge := List.getElem?_eq_none_iff.1 ey
        have d1 : decide (find b x.lo < b.length) = false := decide_eq_false (by omega)
        clear T2 ey
        refine wp_loop_rounds 1 ?_
        rw [rounds_succ]
        go_wp2_with fail
        go_quiet (fail)
        go_wp2_with fail
        go_roundw
        case rel => exact ⟨k + 1, by omega, by go_num, hx1'.out.drewN _, fun j y hj hy => by
          rcases Nat.lt_or_ge j k with h | h
          · exact HN.out j y h hy
          · obtain rfl : j = k := by omega
            rw [EX.out] at hy; cases hy; exact HT.out⟩
        case measure => simp [intOf]; omega
      | some y =>
        have hlt2 : find b x.lo < b.length := (List.getElem?_eq_some_iff.1 ey).1
        have d1 : decide (find b x.lo < b.length) = true := decide_eq_true (by omega)
        have T2 : b.any (touch x) = decide (y.lo ≤ x.hi) := by
          have := T.out
          rw [ey] at this
          exact this
        have V2 := OB.out.1 y (List.mem_of_getElem? ey)
        have FA := Lib.hid (find_at ey)
        obtain ⟨b1, o1, rfl, hb1, d0, d2⟩ := (HB.out.on hx1'.out).cellP ey
        clear ey
        by_cases hy : y.lo ≤ x.hi
        · have d3 : decide (y.lo ≤ x.hi) = true := decide_eq_true hy
          have i2 : (find b x.lo : Int) < (b.length : Int) := by omega
          rw [d3] at T2
          have HT := Lib.hid T2
          clear T2
          refine wp_loop_rounds 1 ?_
          rw [rounds_succ]
          go_wp2_with fail
          go_quiet (fail)
          go_wp2_with fail
          obtain ⟨w2, hw2⟩ : ∃ w2, w1.drewN nq = w2 := ⟨_, rfl⟩
          rw [hw2]
          have HX2 := Lib.hid (show Ext (fun _ => False) w w2 by rw [← hw2]; exact hx1'.out.drewN nq)
          have c0' : w2.cell? ⟨wr.heap.size, 0, none⟩ = some (.int .i32 x.lo) := by rw [← hw2]; exact c0
          have c1' : w2.cell? ⟨wr.heap.size, 1, none⟩ = some (.int .i32 x.hi) := by rw [← hw2]; exact c1
          have d0' : w2.cell? ⟨b1, o1 + find b x.lo * 2, none⟩ = some (.int .i32 y.lo) := by rw [← hw2]; exact d0
          have d2' : w2.cell? ⟨b1, o1 + find b x.lo * 2 + 1, none⟩ = some (.int .i32 y.hi) := by rw [← hw2]; exact d2
          have hb1' : b1 < w2.heap.size := World.block_lt_of_cell? w2 ⟨b1, _, none⟩ d0'
          have hb2' : wr.heap.size < w2.heap.size := World.block_lt_of_cell? w2 ⟨wr.heap.size, 0, none⟩ c0'
          clear hw2 c0 c1 d0 d2
          go_region
          go_wp2_with fail
          have vlo : valid (mx x.lo y.lo) = true := by unfold mx; split; exact V2.1; exact V.1
          have vhi : valid (mn x.hi y.hi) = true := by unfold mn; split; exact V2.2.1; exact V.2.1
          have hle : mx x.lo y.lo ≤ mn x.hi y.hi := by have := FA.out; unfold mx mn; split <;> split <;> omega
          refine (size1_any _ (w2.heap.size + 1) ⟨mx x.lo y.lo, mn x.hi y.hi⟩ ?_ ?_ vlo vhi hle).mono ?_
          · go_simp
          · go_simp
          rintro e w3 ⟨⟨n, hn, rfl⟩, hx3⟩
          have HX3 := Lib.hid (HX2.out.trans (((((Ext.refl (fun _ => False) w2).alloc _).alloc _).drew).trans hx3 (fun _ _ h => h)) (fun _ _ h => h))
          have HM := Lib.hid (show meet a b = ((k : Int), true) from by
            have := firstGo_at (i := 0) EX.out HT.out HN.out
            rw [Nat.zero_add] at this
            exact this)
          clear hx3
          go_wp2_with fail
          go_ret2
          exact ⟨by rw [HM.out]; rfl, HX3.out⟩
        · have d3 : decide (y.lo ≤ x.hi) = false := decide_eq_false hy
          rw [d3] at T2
          have HT := Lib.hid T2
          clear T2
          refine wp_loop_rounds 1 ?_
          rw [rounds_succ]
          go_wp2_with fail
          go_quiet (fail)
          go_wp2_with fail
          go_roundw
          case rel => exact ⟨k + 1, by omega, by go_num, hx1'.out.drewN _, fun j z hj hz => by
            rcases Nat.lt_or_ge j k with h | h
            · exact HN.out j z h hz
            · obtain rfl : j = k := by omega
              rw [EX.out] at hz; cases hz; exact HT.out⟩
          case measure => simp [intOf]; omega
    · have hk2 : k = a.length := by omega
      subst hk2
      have hm : meet a b = (0, false) := firstGo_none (fun x hx => by
        obtain ⟨j, hj, rfl⟩ := List.getElem_of_mem hx
        exact HN.out j _ hj (List.getElem?_eq_getElem hj))
      have HM := Lib.hid hm
      clear hm
      go_wp2_with fail
      go_ret2
      exact ⟨by rw [HM.out]; rfl, HX.out⟩
end Go.Proofs.YtigpaaelggnffaaGreatDoor.Sl

/- Merged of Classes, ClassesNew. -/
/- classes.Table: Of; New makes one of right lists, or tells what is wrong. -/
namespace Go.Proofs.YtigpaaelggnffaaGreatDoor.Sl
open Go.Proofs.YtigpaaelggnffaaGreatDoor.Lib
open Go.RowKit
set_option linter.unusedVariables false
set_option linter.unusedSimpArgs false

/-- A table at a. -/
structure TabAt (N : Nat) (w : World) (a : Nat) (p0 p1 p2 : Option Addr) (c0 c1 c2 : Nat) (ls ns ss : List Spn) : Prop where
  blk : w.heap[a]? = some (.cells #[.slice p0 ls.length c0, .slice p1 ns.length c1, .slice p2 ss.length c2] 160 (0, 0))
  r0 : Rd eP w p0 ls
  r1 : Rd eP w p1 ns
  r2 : Rd eP w p2 ss
  b0 : ls.length ≤ N
  b1 : ns.length ≤ N
  b2 : ss.length ≤ N
  k0 : ls.length ≤ c0
  k1 : ns.length ≤ c1
  k2 : ss.length ≤ c2
theorem TabAt.on {N : Nat} {w w' : World} {a : Nat} {p0 p1 p2 : Option Addr} {c0 c1 c2 : Nat} {ls ns ss : List Spn} (h : TabAt N w a p0 p1 p2 c0 c1 c2 ls ns ss) (hx : Ext (fun _ => False) w w') : TabAt N w' a p0 p1 p2 c0 c1 c2 ls ns ss :=
  { h with blk := hx.obj h.blk (fun h => h), r0 := h.r0.on hx, r1 := h.r1.on hx, r2 := h.r2.on hx }
theorem idx3 (p0 p1 p2 : Option Addr) (n0 n1 n2 c0 c1 c2 : Nat) : (∀ W, (Instr.index 158 (.agg #[.slice p0 n0 c0, .slice p1 n1 c1, .slice p2 n2 c2]) (.int .i64 0)).run Tryz.prog W = .ok (.slice p0 n0 c0) W) ∧
    (∀ W, (Instr.index 158 (.agg #[.slice p0 n0 c0, .slice p1 n1 c1, .slice p2 n2 c2]) (.int .i64 1)).run Tryz.prog W = .ok (.slice p1 n1 c1) W) ∧
    (∀ W, (Instr.index 158 (.agg #[.slice p0 n0 c0, .slice p1 n1 c1, .slice p2 n2 c2]) (.int .i64 2)).run Tryz.prog W = .ok (.slice p2 n2 c2) W) :=
  ⟨fun W => by kernel_rfl, fun W => by kernel_rfl, fun W => by kernel_rfl⟩
def kindOf (ls ns ss : List Spn) (r : Int) : Int := if inn ls r then 1 else if inn ns r then 2 else if inn ss r then 3 else 4

set_option maxRecDepth 100000 in
set_option maxHeartbeats 1000000 in
theorem of_any (w : World) (a : Nat) (p0 p1 p2 : Option Addr) (c0 c1 c2 : Nat) (ls ns ss : List Spn) (r : Int) (H : TabAt 512 w a p0 p1 p2 c0 c1 c2 ls ns ss) (o0 : Ok ls) (o1 : Ok ns) (o2 : Ok ss) :
    Calls Tryz.prog 84 #[.pointer (some ⟨a, 0, none⟩), .int .i32 r] w fun e w' => e = .returned (.int .i64 (kindOf ls ns ss r)) ∧ Ext (fun _ => False) w w' := by
  have e0 := blk_cell H.blk 0
  have e1 := blk_cell H.blk 1
  have e2 := blk_cell H.blk 2
  simp at e0 e1 e2
  have C0 : ∀ W, Ext (fun _ => False) w W → Calls Tryz.prog 118 #[.slice p0 ls.length c0, .int .i32 r] W fun e w' => e = .returned (.bool (inn ls r)) ∧ Ext (fun _ => False) W w' := fun W hx => in_any W p0 c0 ls r (H.r0.on hx) o0 (Nat.le_trans H.b0 (by decide))
  have C1 : ∀ W, Ext (fun _ => False) w W → Calls Tryz.prog 118 #[.slice p1 ns.length c1, .int .i32 r] W fun e w' => e = .returned (.bool (inn ns r)) ∧ Ext (fun _ => False) W w' := fun W hx => in_any W p1 c1 ns r (H.r1.on hx) o1 (Nat.le_trans H.b1 (by decide))
  have C2 : ∀ W, Ext (fun _ => False) w W → Calls Tryz.prog 118 #[.slice p2 ss.length c2, .int .i32 r] W fun e w' => e = .returned (.bool (inn ss r)) ∧ Ext (fun _ => False) W w' := fun W hx => in_any W p2 c2 ss r (H.r2.on hx) o2 (Nat.le_trans H.b2 (by decide))
  obtain ⟨j0, j1, j2⟩ := idx3 p0 p1 p2 ls.length ns.length ss.length c0 c1 c2
  clear H o0 o1 o2
  obtain ⟨K, eK⟩ : ∃ K, kindOf ls ns ss r = K := ⟨_, rfl⟩
  have EK := Lib.hid eK
  rw [eK]
  clear eK
  cases h0 : inn ls r with
  | true =>
    rw [h0] at C0
    have C0 := Lib.hid C0
    have hK := Lib.hid (show K = 1 by rw [← EK.out]; unfold kindOf; rw [h0]; rfl)
    clear C1 C2 h0
    go_enter Tryz.func84, Tryz.ntmps84
    go_wp2_with fail
    refine wp_loop_rounds 1 ?_
    rw [rounds_succ]
    go_wp2_with fail
    refine (C0.out _ (Ext.refl _ _)).mono ?_
    rintro e w1 ⟨rfl, hx1⟩
    go_wp2_with fail
    go_ret
    exact ⟨by rw [hK.out]; rfl, hx1⟩
  | false =>
    rw [h0] at C0
    have C0 := Lib.hid C0
    cases h1 : inn ns r with
    | true =>
      rw [h1] at C1
      have C1 := Lib.hid C1
      have hK := Lib.hid (show K = 2 by rw [← EK.out]; unfold kindOf; rw [h0, h1]; rfl)
      clear C2 h0 h1
      go_enter Tryz.func84, Tryz.ntmps84
      go_wp2_with fail
      refine wp_loop_rounds 2 ?_
      rw [rounds_succ]
      go_wp2_with fail
      refine (C0.out _ (Ext.refl _ _)).mono ?_
      rintro e w1 ⟨rfl, hx1⟩
      have HX1 := Lib.hid hx1
      clear hx1
      go_wp2_with fail
      rw [rounds_succ]
      go_wp2_with fail
      refine (C1.out _ HX1.out).mono ?_
      rintro e w2 ⟨rfl, hx2⟩
      go_wp2_with fail
      go_ret
      exact ⟨by rw [hK.out]; rfl, HX1.out.trans hx2 (fun _ _ h => h)⟩
    | false =>
      rw [h1] at C1
      have C1 := Lib.hid C1
      cases h2 : inn ss r with
      | true =>
        rw [h2] at C2
        have C2 := Lib.hid C2
        have hK := Lib.hid (show K = 3 by rw [← EK.out]; unfold kindOf; rw [h0, h1, h2]; rfl)
        clear h0 h1 h2
        go_enter Tryz.func84, Tryz.ntmps84
        go_wp2_with fail
        refine wp_loop_rounds 3 ?_
        rw [rounds_succ]
        go_wp2_with fail
        refine (C0.out _ (Ext.refl _ _)).mono ?_
        rintro e w1 ⟨rfl, hx1⟩
        have HX1 := Lib.hid hx1
        clear hx1
        go_wp2_with fail
        rw [rounds_succ]
        go_wp2_with fail
        refine (C1.out _ HX1.out).mono ?_
        rintro e w2 ⟨rfl, hx2⟩
        have HX2 := Lib.hid (HX1.out.trans hx2 (fun _ _ h => h))
        clear hx2
        go_wp2_with fail
        rw [rounds_succ]
        go_wp2_with fail
        refine (C2.out _ HX2.out).mono ?_
        rintro e w3 ⟨rfl, hx3⟩
        go_wp2_with fail
        go_ret
        exact ⟨by rw [hK.out]; rfl, HX2.out.trans hx3 (fun _ _ h => h)⟩
      | false =>
        rw [h2] at C2
        have C2 := Lib.hid C2
        have hK := Lib.hid (show K = 4 by rw [← EK.out]; unfold kindOf; rw [h0, h1, h2]; rfl)
        clear h0 h1 h2
        go_enter Tryz.func84, Tryz.ntmps84
        go_wp2_with fail
        refine wp_loop_rounds 4 ?_
        rw [rounds_succ]
        go_wp2_with fail
        refine (C0.out _ (Ext.refl _ _)).mono ?_
        rintro e w1 ⟨rfl, hx1⟩
        have HX1 := Lib.hid hx1
        clear hx1
        go_wp2_with fail
        rw [rounds_succ]
        go_wp2_with fail
        refine (C1.out _ HX1.out).mono ?_
        rintro e w2 ⟨rfl, hx2⟩
        have HX2 := Lib.hid (HX1.out.trans hx2 (fun _ _ h => h))
        clear hx2
        go_wp2_with fail
        rw [rounds_succ]
        go_wp2_with fail
        refine (C2.out _ HX2.out).mono ?_
        rintro e w3 ⟨rfl, hx3⟩
        have HX3 := Lib.hid (HX2.out.trans hx3 (fun _ _ h => h))
        clear hx3
        go_wp2_with fail
        rw [rounds_succ]
        go_wp2_with fail
        go_ret
        exact ⟨by rw [hK.out]; rfl, HX3.out⟩

theorem firstGo_false {f : Spn → Bool} {i : Nat} {l : List Spn} (h : (firstGo f i l).2 = false) : ∀ x ∈ l, f x = false := by
  induction l generalizing i with
  | nil => intro x hx; cases hx
  | cons y t ih =>
    unfold firstGo at h
    by_cases hf : f y = true
    · rw [if_pos hf] at h; cases h
    · rw [if_neg hf] at h
      intro x hx
      rcases List.mem_cons.1 hx with rfl | hx
      · simpa using hf
      · exact ih h x hx
theorem apart_inn {a b : List Spn} (h : meet a b = (0, false)) {r : Int} (hr : inn a r = true) : inn b r = false := by
  have h1 := firstGo_false (show (meet a b).2 = false by rw [h])
  unfold inn at hr ⊢
  rw [Bool.and_eq_true, List.any_eq_true] at hr
  obtain ⟨hv, x, hx, hxr⟩ := hr
  have h2 := List.any_eq_false.1 (h1 x hx)
  rw [hv, Bool.true_and, List.any_eq_false]
  intro y hy
  have h3 := h2 y hy
  simp [touch] at h3 hxr ⊢
  omega
theorem kind_blank {ls ns ss : List Spn} (h2 : meet ss ls = (0, false)) (h3 : meet ss ns = (0, false)) : (inn ss 32 = false ∨ inn ls 39 = true ∨ inn ns 39 = true ∨ inn ss 39 = true) ↔ ¬ (kindOf ls ns ss 32 = 3 ∧ kindOf ls ns ss 39 = 4) := by
  have a1 : inn ss 32 = true → inn ls 32 = false := apart_inn h2
  have a2 : inn ss 32 = true → inn ns 32 = false := apart_inn h3
  unfold kindOf
  cases e1 : inn ss 32
  · simp
    intro h
    split at h
    · omega
    · split at h <;> omega
  · rw [a1 e1, a2 e1]
    cases inn ls 39 <;> cases inn ns 39 <;> cases inn ss 39 <;> simp
/-- A store of what is there. -/
theorem ext_same {w : World} {p : Addr} {v : Value} (h : w.cell? p = some v) : Ext (fun _ => False) w (w.setCell p v) := by
  refine ⟨rfl, rfl, rfl, by simp [World.setCell], fun k hk _ => ?_⟩
  by_cases he : k = p.block
  · subst he
    unfold World.cell? at h
    unfold World.setCell
    simp only [Array.getElem?_modify, if_true]
    cases hb : w.heap[p.block]? with
    | none => rfl
    | some o =>
      rw [hb] at h
      cases o with
      | cells c e fr =>
        simp only [Option.map_some]
        simp only at h
        by_cases hs : p.spot.isSome
        · rw [if_pos hs] at h; cases h
        · rw [if_neg hs] at h ⊢
          congr 2
          apply Array.ext_getElem?
          intro i
          rw [Array.getElem?_setIfInBounds]
          split
          · rename_i e1
            subst e1
            have := (Array.getElem?_eq_some_iff.1 h).1
            rw [if_pos this, h]
          · rfl
      | _ => rfl
  · exact Below.heap_setCell _ _ _ _ he
end Go.Proofs.YtigpaaelggnffaaGreatDoor.Sl

/- classes.New. -/
namespace Go.Proofs.YtigpaaelggnffaaGreatDoor.Sl
open Go.Proofs.YtigpaaelggnffaaGreatDoor.Lib
open Go.RowKit
set_option linter.unusedVariables false
set_option linter.unusedSimpArgs false

def TabNew (w : World) (ls ns ss : List Spn) (e : Ending) (w' : World) : Prop :=
  Ext (fun _ => False) w w' ∧ (((check4 ls ns ss).1 ≠ 0 ∧ e = .returned (.tuple #[.pointer none, .agg #[.int .i64 (check4 ls ns ss).1, .int .i64 (check4 ls ns ss).2.1, .int .i64 (check4 ls ns ss).2.2]])) ∨
    ((check4 ls ns ss).1 = 0 ∧ ∃ a p0 p1 p2 c0 c1 c2, e = .returned (.tuple #[.pointer (some ⟨a, 0, none⟩), .agg #[.int .i64 0, .int .i64 0, .int .i64 0]]) ∧ TabAt 512 w' a p0 p1 p2 c0 c1 c2 ls ns ss ∧ w.heap.size ≤ a))
theorem TabNew.bad {w w' : World} {ls ns ss : List Spn} {y l r : Int} (h : check4 ls ns ss = (y, l, r)) (hy : y ≠ 0) (hx : Ext (fun _ => False) w w') :
    TabNew w ls ns ss (.returned (.tuple #[.pointer none, .agg #[.int .i64 y, .int .i64 l, .int .i64 r]])) w' :=
  ⟨hx, .inl ⟨by rw [h]; exact hy, by rw [h]⟩⟩
/-- What stands once the table is made. -/
structure NewSt4 (N : Nat) (w w1 : World) (a : Nat) (p0 p1 p2 : Option Addr) (c0 c1 c2 : Nat) (ls ns ss : List Spn) : Prop where
  ext : Ext (fun _ => False) w w1
  tab : TabAt N w1 a p0 p1 p2 c0 c1 c2 ls ns ss
  new : w.heap.size ≤ a
  ne : a ≠ w.heap.size
  res : w1.heap[w.heap.size]? = some (.cells #[.int .i64 0, .int .i64 0, .int .i64 0] 128 (0, 0))
theorem NewSt4.on {N : Nat} {w w1 w2 : World} {a : Nat} {p0 p1 p2 : Option Addr} {c0 c1 c2 : Nat} {ls ns ss : List Spn} (h : NewSt4 N w w1 a p0 p1 p2 c0 c1 c2 ls ns ss) (hx : Ext (fun _ => False) w1 w2) : NewSt4 N w w2 a p0 p1 p2 c0 c1 c2 ls ns ss :=
  ⟨h.ext.trans hx (fun _ _ h => h), h.tab.on hx, h.new, h.ne, hx.obj h.res (fun h => h)⟩

theorem NewSt4.facts {N : Nat} {w w1 : World} {a : Nat} {p0 p1 p2 : Option Addr} {c0 c1 c2 : Nat} {ls ns ss : List Spn} (h : NewSt4 N w w1 a p0 p1 p2 c0 c1 c2 ls ns ss) :
    w1.cell? ⟨a, 0, none⟩ = some (.slice p0 ls.length c0) ∧ w1.cell? ⟨a, 1, none⟩ = some (.slice p1 ns.length c1) ∧ w1.cell? ⟨a, 2, none⟩ = some (.slice p2 ss.length c2) ∧
    w1.cell? ⟨w.heap.size, 0, none⟩ = some (.int .i64 0) ∧ w1.cell? ⟨w.heap.size, 1, none⟩ = some (.int .i64 0) ∧ w1.cell? ⟨w.heap.size, 2, none⟩ = some (.int .i64 0) ∧
    w1.frozen? ⟨w.heap.size, 0, none⟩ = false ∧ w1.frozen? ⟨w.heap.size, 1, none⟩ = false ∧ w1.frozen? ⟨w.heap.size, 2, none⟩ = false :=
  ⟨blk_cell h.tab.blk 0, blk_cell h.tab.blk 1, blk_cell h.tab.blk 2, blk_cell h.res 0, blk_cell h.res 1, blk_cell h.res 2, blk_frozen h.res 0, blk_frozen h.res 1, blk_frozen h.res 2⟩
theorem NewSt4.bad {N : Nat} {w w1 : World} {a : Nat} {p0 p1 p2 : Option Addr} {c0 c1 c2 : Nat} {ls ns ss : List Spn} (h : NewSt4 N w w1 a p0 p1 p2 c0 c1 c2 ls ns ss) {u0 u1 u2 : Value} {y l r : Int} (hc : check4 ls ns ss = (y, l, r)) (hy : y ≠ 0) :
    TabNew w ls ns ss (.returned (.tuple #[.pointer none, .agg #[.int .i64 y, .int .i64 l, .int .i64 r]])) (((w1.setCell ⟨w.heap.size, 0, none⟩ u0).setCell ⟨w.heap.size, 1, none⟩ u1).setCell ⟨w.heap.size, 2, none⟩ u2) :=
  TabNew.bad hc hy (((h.ext.setCell (p := ⟨w.heap.size, 0, none⟩) (fun h => absurd h (Nat.lt_irrefl _)) _).setCell (p := ⟨w.heap.size, 1, none⟩) (fun h => absurd h (Nat.lt_irrefl _)) _).setCell (p := ⟨w.heap.size, 2, none⟩) (fun h => absurd h (Nat.lt_irrefl _)) _)
theorem meet_cases (a b : List Spn) : meet a b = (0, false) ∨ ∃ k : Nat, k < a.length ∧ meet a b = ((k : Int), true) := by
  rcases firstGo_cases (fun x => b.any (touch x)) 0 a with h | ⟨k, h1, h2⟩
  · exact .inl h
  · exact .inr ⟨k, h1, by rw [Nat.zero_add] at h2; exact h2⟩

set_option maxRecDepth 100000 in
set_option maxHeartbeats 4000000 in
theorem new4_any (w : World) (p0 p1 p2 : Option Addr) (c0 c1 c2 : Nat) (ls ns ss : List Spn) (r0 : Rd eP w p0 ls) (r1 : Rd eP w p1 ns) (r2 : Rd eP w p2 ss)
    (b0 : ls.length * 8 ≤ 140737488351232) (b1 : ns.length * 8 ≤ 140737488351232) (b2 : ss.length * 8 ≤ 140737488351232) :
    Calls Tryz.prog 59 #[.slice p0 ls.length c0, .slice p1 ns.length c1, .slice p2 ss.length c2] w fun e w' => TabNew w ls ns ss e w' := by
  have R0 := Lib.hid r0
  have R1 := Lib.hid r1
  have R2 := Lib.hid r2
  clear r0 r1 r2
  go_enter Tryz.func59, Tryz.ntmps59
  go_wp2_with fail
  have X0 := Lib.hid ((Ext.refl (fun _ => False) w).alloc (.cells #[.int .i64 0, .int .i64 0, .int .i64 0] 128))
  refine (cloneP _ p0 c0 ls (R0.out.on X0.out) b0).mono ?_
  rintro e w1 ⟨q0, d0, rfl, A0, hx1, n0⟩
  have A0 := Lib.hid A0
  have X1 := Lib.hid (X0.out.trans hx1 (fun _ _ h => h))
  have Y1 := Lib.hid hx1
  clear hx1
  go_wp2_with fail
  refine (cloneP _ p1 c1 ns (R1.out.on X1.out) b1).mono ?_
  rintro e w2 ⟨q1, d1, rfl, A1, hx2, n1⟩
  have A1 := Lib.hid A1
  have X2 := Lib.hid (X1.out.trans hx2 (fun _ _ h => h))
  have Y2 := Lib.hid (Y1.out.trans hx2 (fun _ _ h => h))
  have Z2 := Lib.hid hx2
  clear hx2
  go_wp2_with fail
  refine (cloneP _ p2 c2 ss (R2.out.on X2.out) b2).mono ?_
  rintro e w3 ⟨q2, d2, rfl, A2, hx3, n2⟩
  have A2 := Lib.hid A2
  have X3 := Lib.hid (X2.out.trans hx3 (fun _ _ h => h))
  have Y3 := Lib.hid (Y2.out.trans hx3 (fun _ _ h => h))
  have Z3 := Lib.hid hx3
  clear hx3 n0 n1 n2
  have s3 : w.heap.size < w3.heap.size := by have := Y3.out.size; simp at this; omega
  go_wp2_with fail
  obtain ⟨W, hW⟩ : ∃ W, w3.alloc (.cells #[.slice q0 ls.length d0, .slice q1 ns.length d1, .slice q2 ss.length d2] 160) = W := ⟨_, rfl⟩
  have S := Lib.hid (show NewSt4 17592186044416 w W w3.heap.size q0 q1 q2 d0 d1 d2 ls ns ss from by
    have hx4 : Ext (fun _ => False) w3 W := by rw [← hW]; exact (Ext.refl _ _).alloc _
    refine ⟨X3.out.trans hx4 (fun _ _ h => h), ⟨by rw [← hW]; exact heap_alloc_new w3 _, ?_, ?_, ?_, by omega, by omega, by omega, (arr_cap A0.out).1, (arr_cap A1.out).1, (arr_cap A2.out).1⟩, by omega, by omega, (Y3.out.trans hx4 (fun _ _ h => h)).obj (heap_alloc_new w _) (fun h => h)⟩
    · exact (Rd.of_arr (E := eP) A0.out).on ((Z2.out.trans Z3.out (fun _ _ h => h)).trans hx4 (fun _ _ h => h))
    · exact (Rd.of_arr (E := eP) A1.out).on (Z3.out.trans hx4 (fun _ _ h => h))
    · exact (Rd.of_arr (E := eP) A2.out).on hx4)
  rw [hW]
  clear hW X0 X1 X2 X3 Y1 Y2 Y3 Z2 Z3 A0 A1 A2 R0 R1 R2
  obtain ⟨a, ha⟩ : ∃ a, w3.heap.size = a := ⟨_, rfl⟩
  rw [ha] at S ⊢
  clear ha s3
  obtain ⟨j0, j1, j2⟩ := idx3 q0 q1 q2 ls.length ns.length ss.length d0 d1 d2
  obtain ⟨e0, e1, e2, f0, f1, f2, g0, g1, g2⟩ := S.out.facts
  refine wp_loop_rounds 4 ?_
  rw [rounds_succ]
  by_cases hA0 : 512 < ls.length
  · have i0 : (ls.length : Int) > 512 := by omega
    go_wp2_with fail
    exact bodyPost_ret (v := .tuple #[.pointer none, .agg #[.int .i64 4, .int .i64 1, .int .i64 512]]) (by simp [results, Tryz.f59, go_sem, f0, f1, f2]) rfl (S.out.bad (by unfold check4; rw [if_pos hA0]) (by decide))
  have k0 : (ls.length : Int) ≤ 512 := by omega
  go_wp2_with fail
  rw [rounds_succ]
  by_cases hA1 : 512 < ns.length
  · have i0 : (ns.length : Int) > 512 := by omega
    go_wp2_with fail
    exact bodyPost_ret (v := .tuple #[.pointer none, .agg #[.int .i64 4, .int .i64 2, .int .i64 512]]) (by simp [results, Tryz.f59, go_sem, f0, f1, f2]) rfl (S.out.bad (by unfold check4; rw [if_neg hA0]; rw [if_pos hA1]) (by decide))
  have k1 : (ns.length : Int) ≤ 512 := by omega
  go_wp2_with fail
  rw [rounds_succ]
  by_cases hA2 : 512 < ss.length
  · have i0 : (ss.length : Int) > 512 := by omega
    go_wp2_with fail
    exact bodyPost_ret (v := .tuple #[.pointer none, .agg #[.int .i64 4, .int .i64 3, .int .i64 512]]) (by simp [results, Tryz.f59, go_sem, f0, f1, f2]) rfl (S.out.bad (by unfold check4; rw [if_neg hA0]; rw [if_neg hA1]; rw [if_pos hA2]) (by decide))
  have k2 : (ss.length : Int) ≤ 512 := by omega
  go_wp2_with fail
  rw [rounds_succ]
  go_wp2_with fail
  have S := Lib.hid (show NewSt4 512 w W a q0 q1 q2 d0 d1 d2 ls ns ss from ⟨S.out.ext, { S.out.tab with b0 := by omega, b1 := by omega, b2 := by omega }, S.out.new, S.out.ne, S.out.res⟩)
  have q3 : ls.length ≤ 1099511627776 ∧ ns.length ≤ 1099511627776 ∧ ss.length ≤ 1099511627776 := by omega
  refine wp_loop_rounds 4 ?_
  rw [rounds_succ]
  by_cases hB0 : (right ls).2 = 0
  rotate_left
  · obtain ⟨y, hy⟩ : ∃ y, (right ls).2 = y := ⟨_, rfl⟩
    obtain ⟨r, hr⟩ : ∃ r, (right ls).1 = r := ⟨_, rfl⟩
    have C := right_any W q0 d0 ls S.out.tab.r0 S.out.tab.k0 q3.1
    rw [hy, hr] at C
    rw [hy] at hB0
    have C := Lib.hid C
    have HY := Lib.hid (And.intro hy hr)
    have hne : (y != 0) = true := by simpa using hB0
    have hwf := rightGo_why (i := 0) (prev := none) (l := ls)
    rw [show (rightGo 0 none ls).2 = y from hy] at hwf
    clear hy hr e0 e1 e2 f0 f1 f2 g0 g1 g2
    go_wp2_with fail
    refine C.out.mono ?_
    rintro e W1 ⟨rfl, hx⟩
    have S := Lib.hid (S.out.on hx)
    clear hx
    obtain ⟨e0, e1, e2, f0, f1, f2, g0, g1, g2⟩ := S.out.facts
    go_wp2_with fail
    exact bodyPost_ret (v := .tuple #[.pointer none, .agg #[.int .i64 y, .int .i64 1, .int .i64 r]]) (by simp [results, Tryz.f59, go_sem, f0, f1, f2]) rfl (S.out.bad (by unfold check4; rw [if_neg hA0, if_neg hA1, if_neg hA2]; rw [if_pos (by rw [HY.out.1]; exact hB0), HY.out.1, HY.out.2]) (hB0))
  have C := right_any W q0 d0 ls S.out.tab.r0 S.out.tab.k0 q3.1
  rw [show right ls = (0, 0) from rightGo_row hB0] at C
  have C := Lib.hid C
  have hB0 := Lib.hid hB0
  clear e0 e1 e2 f0 f1 f2 g0 g1 g2
  go_wp2_with fail
  refine C.out.mono ?_
  rintro e V0 ⟨rfl, hx⟩
  have S := Lib.hid (S.out.on hx)
  clear hx C
  obtain ⟨e0, e1, e2, f0, f1, f2, g0, g1, g2⟩ := S.out.facts
  go_wp2_with fail
  replace hB0 := hB0.out
  rw [rounds_succ]
  by_cases hB1 : (right ns).2 = 0
  rotate_left
  · obtain ⟨y, hy⟩ : ∃ y, (right ns).2 = y := ⟨_, rfl⟩
    obtain ⟨r, hr⟩ : ∃ r, (right ns).1 = r := ⟨_, rfl⟩
    have C := right_any V0 q1 d1 ns S.out.tab.r1 S.out.tab.k1 q3.2.1
    rw [hy, hr] at C
    rw [hy] at hB1
    have C := Lib.hid C
    have HY := Lib.hid (And.intro hy hr)
    have hne : (y != 0) = true := by simpa using hB1
    have hwf := rightGo_why (i := 0) (prev := none) (l := ns)
    rw [show (rightGo 0 none ns).2 = y from hy] at hwf
    clear hy hr e0 e1 e2 f0 f1 f2 g0 g1 g2
    go_wp2_with fail
    refine C.out.mono ?_
    rintro e W1 ⟨rfl, hx⟩
    have S := Lib.hid (S.out.on hx)
    clear hx
    obtain ⟨e0, e1, e2, f0, f1, f2, g0, g1, g2⟩ := S.out.facts
    go_wp2_with fail
    exact bodyPost_ret (v := .tuple #[.pointer none, .agg #[.int .i64 y, .int .i64 2, .int .i64 r]]) (by simp [results, Tryz.f59, go_sem, f0, f1, f2]) rfl (S.out.bad (by unfold check4; rw [if_neg hA0, if_neg hA1, if_neg hA2]; rw [if_neg (Decidable.not_not.2 hB0)]; rw [if_pos (by rw [HY.out.1]; exact hB1), HY.out.1, HY.out.2]) (hB1))
  have C := right_any V0 q1 d1 ns S.out.tab.r1 S.out.tab.k1 q3.2.1
  rw [show right ns = (0, 0) from rightGo_row hB1] at C
  have C := Lib.hid C
  have hB1 := Lib.hid hB1
  clear e0 e1 e2 f0 f1 f2 g0 g1 g2
  go_wp2_with fail
  refine C.out.mono ?_
  rintro e V1 ⟨rfl, hx⟩
  have S := Lib.hid (S.out.on hx)
  clear hx C
  obtain ⟨e0, e1, e2, f0, f1, f2, g0, g1, g2⟩ := S.out.facts
  go_wp2_with fail
  replace hB1 := hB1.out
  rw [rounds_succ]
  by_cases hB2 : (right ss).2 = 0
  rotate_left
  · obtain ⟨y, hy⟩ : ∃ y, (right ss).2 = y := ⟨_, rfl⟩
    obtain ⟨r, hr⟩ : ∃ r, (right ss).1 = r := ⟨_, rfl⟩
    have C := right_any V1 q2 d2 ss S.out.tab.r2 S.out.tab.k2 q3.2.2
    rw [hy, hr] at C
    rw [hy] at hB2
    have C := Lib.hid C
    have HY := Lib.hid (And.intro hy hr)
    have hne : (y != 0) = true := by simpa using hB2
    have hwf := rightGo_why (i := 0) (prev := none) (l := ss)
    rw [show (rightGo 0 none ss).2 = y from hy] at hwf
    clear hy hr e0 e1 e2 f0 f1 f2 g0 g1 g2
    go_wp2_with fail
    refine C.out.mono ?_
    rintro e W1 ⟨rfl, hx⟩
    have S := Lib.hid (S.out.on hx)
    clear hx
    obtain ⟨e0, e1, e2, f0, f1, f2, g0, g1, g2⟩ := S.out.facts
    go_wp2_with fail
    exact bodyPost_ret (v := .tuple #[.pointer none, .agg #[.int .i64 y, .int .i64 3, .int .i64 r]]) (by simp [results, Tryz.f59, go_sem, f0, f1, f2]) rfl (S.out.bad (by unfold check4; rw [if_neg hA0, if_neg hA1, if_neg hA2]; rw [if_neg (Decidable.not_not.2 hB0)]; rw [if_neg (Decidable.not_not.2 hB1)]; rw [if_pos (by rw [HY.out.1]; exact hB2), HY.out.1, HY.out.2]) (hB2))
  have C := right_any V1 q2 d2 ss S.out.tab.r2 S.out.tab.k2 q3.2.2
  rw [show right ss = (0, 0) from rightGo_row hB2] at C
  have C := Lib.hid C
  have hB2 := Lib.hid hB2
  clear e0 e1 e2 f0 f1 f2 g0 g1 g2
  go_wp2_with fail
  refine C.out.mono ?_
  rintro e V2 ⟨rfl, hx⟩
  have S := Lib.hid (S.out.on hx)
  clear hx C
  obtain ⟨e0, e1, e2, f0, f1, f2, g0, g1, g2⟩ := S.out.facts
  go_wp2_with fail
  replace hB2 := hB2.out
  rw [rounds_succ]
  go_wp2_with fail
  have o0 := Lib.hid (right_ok hB0)
  have o1 := Lib.hid (right_ok hB1)
  have o2 := Lib.hid (right_ok hB2)
  have N2 := Lib.hid (And.intro hB0 (And.intro hB1 hB2))
  clear hB0 hB1 hB2
  refine wp_loop_rounds 4 ?_
  rw [rounds_succ]
  go_wp2_with fail
  refine wp_loop_rounds 1 ?_
  rw [rounds_succ]
  go_wp2_with fail
  rw [rounds_succ]
  go_wp2_with fail
  refine wp_loop_rounds 2 ?_
  rw [rounds_succ]
  rcases meet_cases ns ls with hm1 | ⟨k, hk, hm1⟩
  rotate_left
  · have mk : mn (ns.length : Int) (k : Int) = k := by unfold mn; rw [if_pos (by omega)]
    have HM := Lib.hid hm1
    have C := meet_any V2 q1 q0 d1 d0 ns ls S.out.tab.r1 S.out.tab.r0 o1.out o0.out q3.2.1 q3.1
    rw [hm1] at C
    have C := Lib.hid C
    go_wp2_with fail
    clear e0 e1 e2 f0 f1 f2 g0 g1 g2
    refine C.out.mono ?_
    rintro e U1 ⟨rfl, hx⟩
    have S := Lib.hid (S.out.on hx)
    clear hx C
    obtain ⟨e0, e1, e2, f0, f1, f2, g0, g1, g2⟩ := S.out.facts
    go_wp2_with fail
    rw [rounds_succ]
    go_wp2_with fail
    exact bodyPost_ret (v := .tuple #[.pointer none, .agg #[.int .i64 16, .int .i64 2, .int .i64 k]]) (by simp [results, Tryz.f59, go_sem, f0, f1, f2]) rfl (S.out.bad (by unfold check4; rw [if_neg hA0, if_neg hA1, if_neg hA2]; rw [if_neg (Decidable.not_not.2 N2.out.1), if_neg (Decidable.not_not.2 N2.out.2.1), if_neg (Decidable.not_not.2 N2.out.2.2)]; rw [if_pos (by rw [HM.out]), HM.out]) (by decide))
  have M1 := Lib.hid hm1
  have C := meet_any V2 q1 q0 d1 d0 ns ls S.out.tab.r1 S.out.tab.r0 o1.out o0.out q3.2.1 q3.1
  rw [M1.out] at C
  have C := Lib.hid C
  go_wp2_with fail
  clear e0 e1 e2 f0 f1 f2 g0 g1 g2
  refine C.out.mono ?_
  rintro e U2 ⟨rfl, hx⟩
  have S := Lib.hid (S.out.on hx)
  clear hx C
  obtain ⟨e0, e1, e2, f0, f1, f2, g0, g1, g2⟩ := S.out.facts
  go_wp2_with fail
  clear hm1
  rw [rounds_succ]
  go_wp2_with fail
  rw [rounds_succ]
  go_wp2_with fail
  refine wp_loop_rounds 3 ?_
  rw [rounds_succ]
  rcases meet_cases ss ls with hm2 | ⟨k, hk, hm2⟩
  rotate_left
  · have mk : mn (ss.length : Int) (k : Int) = k := by unfold mn; rw [if_pos (by omega)]
    have M2 := Lib.hid hm2
    have C := meet_any U2 q2 q0 d2 d0 ss ls S.out.tab.r2 S.out.tab.r0 o2.out o0.out q3.2.2 q3.1
    rw [M2.out] at C
    have C := Lib.hid C
    go_wp2_with fail
    clear e0 e1 e2 f0 f1 f2 g0 g1 g2
    refine C.out.mono ?_
    rintro e U3 ⟨rfl, hx⟩
    have S := Lib.hid (S.out.on hx)
    clear hx C
    obtain ⟨e0, e1, e2, f0, f1, f2, g0, g1, g2⟩ := S.out.facts
    go_wp2_with fail
    clear hm2
    rw [rounds_succ]
    rcases meet_cases ss ns with hm3 | ⟨k2, hk2, hm3⟩
    · have M3 := Lib.hid hm3
      have C := meet_any U3 q2 q1 d2 d1 ss ns S.out.tab.r2 S.out.tab.r1 o2.out o1.out q3.2.2 q3.2.1
      rw [M3.out] at C
      have C := Lib.hid C
      go_wp2_with fail
      clear e0 e1 e2 f0 f1 f2 g0 g1 g2
      refine C.out.mono ?_
      rintro e U4 ⟨rfl, hx⟩
      have S := Lib.hid (S.out.on hx)
      clear hx C
      obtain ⟨e0, e1, e2, f0, f1, f2, g0, g1, g2⟩ := S.out.facts
      go_wp2_with fail
      rw [rounds_succ]
      go_wp2_with fail
      exact bodyPost_ret (v := .tuple #[.pointer none, .agg #[.int .i64 16, .int .i64 3, .int .i64 k]]) (by simp [results, Tryz.f59, go_sem, f0, f1, f2]) rfl (S.out.bad (by unfold check4; rw [if_neg hA0, if_neg hA1, if_neg hA2]; rw [if_neg (Decidable.not_not.2 N2.out.1), if_neg (Decidable.not_not.2 N2.out.2.1), if_neg (Decidable.not_not.2 N2.out.2.2)]; rw [if_neg (by rw [M1.out]; decide)]; rw [if_pos (by rw [M2.out]), if_neg (by rw [M3.out]; decide), M2.out]) (by decide))
    · have M3 := Lib.hid hm3
      have EM := Lib.hid (mn_eq (k : Int) (k2 : Int))
      have C := meet_any U3 q2 q1 d2 d1 ss ns S.out.tab.r2 S.out.tab.r1 o2.out o1.out q3.2.2 q3.2.1
      rw [M3.out] at C
      have C := Lib.hid C
      go_wp2_with fail
      clear e0 e1 e2 f0 f1 f2 g0 g1 g2
      refine C.out.mono ?_
      rintro e U5 ⟨rfl, hx⟩
      have S := Lib.hid (S.out.on hx)
      clear hx C
      obtain ⟨e0, e1, e2, f0, f1, f2, g0, g1, g2⟩ := S.out.facts
      go_wp2_with fail
      rw [rounds_succ]
      go_wp2_with fail
      exact bodyPost_ret (v := .tuple #[.pointer none, .agg #[.int .i64 16, .int .i64 3, .int .i64 (mn (k : Int) (k2 : Int))]]) (by simp [results, Tryz.f59, go_sem, f0, f1, f2]) rfl (S.out.bad (by unfold check4; rw [if_neg hA0, if_neg hA1, if_neg hA2]; rw [if_neg (Decidable.not_not.2 N2.out.1), if_neg (Decidable.not_not.2 N2.out.2.1), if_neg (Decidable.not_not.2 N2.out.2.2)]; rw [if_neg (by rw [M1.out]; decide)]; rw [if_pos (by rw [M2.out]), if_pos (by rw [M3.out]), M2.out, M3.out, EM.out]) (by decide))
  have M2 := Lib.hid hm2
  have C := meet_any U2 q2 q0 d2 d0 ss ls S.out.tab.r2 S.out.tab.r0 o2.out o0.out q3.2.2 q3.1
  rw [M2.out] at C
  have C := Lib.hid C
  go_wp2_with fail
  clear e0 e1 e2 f0 f1 f2 g0 g1 g2
  refine C.out.mono ?_
  rintro e U6 ⟨rfl, hx⟩
  have S := Lib.hid (S.out.on hx)
  clear hx C
  obtain ⟨e0, e1, e2, f0, f1, f2, g0, g1, g2⟩ := S.out.facts
  go_wp2_with fail
  clear hm2
  rw [rounds_succ]
  rcases meet_cases ss ns with hm3 | ⟨k, hk, hm3⟩
  rotate_left
  · have mk : mn (ss.length : Int) (k : Int) = k := by unfold mn; rw [if_pos (by omega)]
    have M3 := Lib.hid hm3
    have C := meet_any U6 q2 q1 d2 d1 ss ns S.out.tab.r2 S.out.tab.r1 o2.out o1.out q3.2.2 q3.2.1
    rw [M3.out] at C
    have C := Lib.hid C
    go_wp2_with fail
    clear e0 e1 e2 f0 f1 f2 g0 g1 g2
    refine C.out.mono ?_
    rintro e U7 ⟨rfl, hx⟩
    have S := Lib.hid (S.out.on hx)
    clear hx C
    obtain ⟨e0, e1, e2, f0, f1, f2, g0, g1, g2⟩ := S.out.facts
    go_wp2_with fail
    rw [rounds_succ]
    go_wp2_with fail
    exact bodyPost_ret (v := .tuple #[.pointer none, .agg #[.int .i64 16, .int .i64 3, .int .i64 k]]) (by simp [results, Tryz.f59, go_sem, f0, f1, f2]) rfl (S.out.bad (by unfold check4; rw [if_neg hA0, if_neg hA1, if_neg hA2]; rw [if_neg (Decidable.not_not.2 N2.out.1), if_neg (Decidable.not_not.2 N2.out.2.1), if_neg (Decidable.not_not.2 N2.out.2.2)]; rw [if_neg (by rw [M1.out]; decide)]; rw [if_neg (by rw [M2.out]; decide)]; rw [if_pos (by rw [M3.out]), M3.out]) (by decide))
  have M3 := Lib.hid hm3
  have C := meet_any U6 q2 q1 d2 d1 ss ns S.out.tab.r2 S.out.tab.r1 o2.out o1.out q3.2.2 q3.2.1
  rw [M3.out] at C
  have C := Lib.hid C
  go_wp2_with fail
  clear e0 e1 e2 f0 f1 f2 g0 g1 g2
  refine C.out.mono ?_
  rintro e U8 ⟨rfl, hx⟩
  have S := Lib.hid (S.out.on hx)
  clear hx C
  obtain ⟨e0, e1, e2, f0, f1, f2, g0, g1, g2⟩ := S.out.facts
  go_wp2_with fail
  clear hm3
  rw [rounds_succ]
  go_wp2_with fail
  rw [rounds_succ]
  go_wp2_with fail
  obtain ⟨z, hz⟩ : ∃ z, kindOf ls ns ss 32 = z := ⟨_, rfl⟩
  obtain ⟨y, hy⟩ : ∃ y, kindOf ls ns ss 39 = y := ⟨_, rfl⟩
  have HZ := Lib.hid hz
  have HY := Lib.hid hy
  clear hz hy
  have KB := Lib.hid (kind_blank (ls := ls) (ns := ns) (ss := ss) M2.out M3.out)
  by_cases hz : z = 3
  · by_cases hy : y = 4
    · subst hz
      subst hy
      have C := of_any U8 a q0 q1 q2 d0 d1 d2 ls ns ss 32 S.out.tab o0.out o1.out o2.out
      rw [HZ.out] at C
      have C := Lib.hid C
      clear e0 e1 e2 f0 f1 f2 g0 g1 g2
      refine C.out.mono ?_
      rintro e U9 ⟨rfl, hx⟩
      have S := Lib.hid (S.out.on hx)
      clear hx C
      obtain ⟨e0, e1, e2, f0, f1, f2, g0, g1, g2⟩ := S.out.facts
      go_wp2_with fail
      have C := of_any U9 a q0 q1 q2 d0 d1 d2 ls ns ss 39 S.out.tab o0.out o1.out o2.out
      rw [HY.out] at C
      have C := Lib.hid C
      clear e0 e1 e2 f0 f1 f2 g0 g1 g2
      refine C.out.mono ?_
      rintro e U10 ⟨rfl, hx⟩
      have S := Lib.hid (S.out.on hx)
      clear hx C
      obtain ⟨e0, e1, e2, f0, f1, f2, g0, g1, g2⟩ := S.out.facts
      go_wp2_with fail
      refine bodyPost_ret (v := .tuple #[.pointer (some ⟨a, 0, none⟩), .agg #[.int .i64 0, .int .i64 0, .int .i64 0]]) (by simp [results, Tryz.f59, go_sem, f0, f1, f2]) rfl ?_
      have x1 := ext_same f0
      have x2 := ext_same (v := .int .i64 0) ((x1.cell (p := ⟨w.heap.size, 1, none⟩) (blk_lt S.out.res) (fun h => h)).trans f1)
      have x12 := x1.trans x2 (fun _ _ h => h)
      have x3 := ext_same (v := .int .i64 0) ((x12.cell (p := ⟨w.heap.size, 2, none⟩) (blk_lt S.out.res) (fun h => h)).trans f2)
      have S' := S.out.on (x12.trans x3 (fun _ _ h => h))
      refine ⟨S'.ext, .inr ⟨?_, a, q0, q1, q2, d0, d1, d2, rfl, S'.tab, S'.new⟩⟩
      unfold check4; rw [if_neg hA0, if_neg hA1, if_neg hA2]; rw [if_neg (Decidable.not_not.2 N2.out.1), if_neg (Decidable.not_not.2 N2.out.2.1), if_neg (Decidable.not_not.2 N2.out.2.2)]; rw [if_neg (by rw [M1.out]; decide)]; rw [if_neg (by rw [M2.out]; decide)]; rw [if_neg (by rw [M3.out]; decide)]; rw [if_neg (fun h => KB.out.1 h ⟨HZ.out, HY.out⟩)]
    · subst hz
      have hne : (y != 4) = true := by simpa using hy
      have C := of_any U8 a q0 q1 q2 d0 d1 d2 ls ns ss 32 S.out.tab o0.out o1.out o2.out
      rw [HZ.out] at C
      have C := Lib.hid C
      clear e0 e1 e2 f0 f1 f2 g0 g1 g2
      refine C.out.mono ?_
      rintro e U11 ⟨rfl, hx⟩
      have S := Lib.hid (S.out.on hx)
      clear hx C
      obtain ⟨e0, e1, e2, f0, f1, f2, g0, g1, g2⟩ := S.out.facts
      go_wp2_with fail
      have C := of_any U11 a q0 q1 q2 d0 d1 d2 ls ns ss 39 S.out.tab o0.out o1.out o2.out
      rw [HY.out] at C
      have C := Lib.hid C
      clear e0 e1 e2 f0 f1 f2 g0 g1 g2
      refine C.out.mono ?_
      rintro e U12 ⟨rfl, hx⟩
      have S := Lib.hid (S.out.on hx)
      clear hx C
      obtain ⟨e0, e1, e2, f0, f1, f2, g0, g1, g2⟩ := S.out.facts
      go_wp2_with fail
      exact bodyPost_ret (v := .tuple #[.pointer none, .agg #[.int .i64 20, .int .i64 3, .int .i64 0]]) (by simp [results, Tryz.f59, go_sem, f0, f1, f2]) rfl (S.out.bad (by unfold check4; rw [if_neg hA0, if_neg hA1, if_neg hA2]; rw [if_neg (Decidable.not_not.2 N2.out.1), if_neg (Decidable.not_not.2 N2.out.2.1), if_neg (Decidable.not_not.2 N2.out.2.2)]; rw [if_neg (by rw [M1.out]; decide)]; rw [if_neg (by rw [M2.out]; decide)]; rw [if_neg (by rw [M3.out]; decide)]; rw [if_pos (KB.out.2 (fun h => hy (by rw [← HY.out]; exact h.2)))]) (by decide))
  · have hne : (z != 3) = true := by simpa using hz
    have C := of_any U8 a q0 q1 q2 d0 d1 d2 ls ns ss 32 S.out.tab o0.out o1.out o2.out
    rw [HZ.out] at C
    have C := Lib.hid C
    clear e0 e1 e2 f0 f1 f2 g0 g1 g2
    refine C.out.mono ?_
    rintro e U13 ⟨rfl, hx⟩
    have S := Lib.hid (S.out.on hx)
    clear hx C
    obtain ⟨e0, e1, e2, f0, f1, f2, g0, g1, g2⟩ := S.out.facts
    go_wp2_with fail
    exact bodyPost_ret (v := .tuple #[.pointer none, .agg #[.int .i64 20, .int .i64 3, .int .i64 0]]) (by simp [results, Tryz.f59, go_sem, f0, f1, f2]) rfl (S.out.bad (by unfold check4; rw [if_neg hA0, if_neg hA1, if_neg hA2]; rw [if_neg (Decidable.not_not.2 N2.out.1), if_neg (Decidable.not_not.2 N2.out.2.1), if_neg (Decidable.not_not.2 N2.out.2.2)]; rw [if_neg (by rw [M1.out]; decide)]; rw [if_neg (by rw [M2.out]; decide)]; rw [if_neg (by rw [M3.out]; decide)]; rw [if_pos (KB.out.2 (fun h => hz (by rw [← HZ.out]; exact h.1)))]) (by decide))
end Go.Proofs.YtigpaaelggnffaaGreatDoor.Sl

/- utf, cut: items, runs and pre-tokens of a text, in plain words. -/
namespace Go.Proofs.YtigpaaelggnffaaGreatDoor.Cut
open Go.Proofs.YtigpaaelggnffaaGreatDoor.Lib Go.Proofs.YtigpaaelggnffaaGreatDoor.Sl
set_option linter.unusedVariables false
set_option linter.unusedSimpArgs false

theorem decode_bd (s : ByteArray) (h : 0 < s.size) : 1 ≤ (Utf8.decode s 0).2 ∧ (Utf8.decode s 0).2 ≤ s.size ∧ (Utf8.decode s 0).2 ≤ 4 ∧ (Utf8.decode s 0).1 < 2097152 := by
  unfold Utf8.decode
  simp only [Nat.zero_add, ge_iff_le, Bool.and_eq_true, decide_eq_true_eq, beq_iff_eq]
  have hb : (s.get! 0).toNat < 256 := (s.get! 0).toNat_lt
  repeat' split
  all_goals simp only [Utf8.runeError]
  all_goals omega
/-- What stands at a place. -/
structure Item where
  at_ : Nat
  n : Nat
  r : Nat
  bad : Bool
def itemAt (s : ByteArray) (k : Nat) : Item :=
  ⟨k, (Utf8.decode (s.extract k s.size) 0).2, (Utf8.decode (s.extract k s.size) 0).1, (Utf8.decode (s.extract k s.size) 0).1 == 65533 && (Utf8.decode (s.extract k s.size) 0).2 == 1⟩
theorem itemAt_bd {s : ByteArray} {k : Nat} (h : k < s.size) : 1 ≤ (itemAt s k).n ∧ k + (itemAt s k).n ≤ s.size ∧ (itemAt s k).n ≤ 4 ∧ (itemAt s k).r < 2097152 := by
  have hz : (s.extract k s.size).size = s.size - k := by rw [ByteArray.size_extract]; omega
  have := decode_bd (s.extract k s.size) (by omega)
  rw [hz] at this
  unfold itemAt
  simp only
  omega
def itemsGo (s : ByteArray) : Nat → Nat → List Item
  | 0, _ => []
  | f + 1, k => if k < s.size then itemAt s k :: itemsGo s f (k + (itemAt s k).n) else []
def items (s : ByteArray) : List Item := itemsGo s s.size 0
theorem itemsGo_end {s : ByteArray} {f k : Nat} (h : s.size ≤ k) : itemsGo s f k = [] := by
  cases f with
  | zero => rfl
  | succ f => unfold itemsGo; rw [if_neg (by omega)]
theorem itemsGo_cons {s : ByteArray} {f k : Nat} (h : k < s.size) (hf : s.size - k ≤ f) : ∃ f', itemsGo s f k = itemAt s k :: itemsGo s f' (k + (itemAt s k).n) ∧ s.size - (k + (itemAt s k).n) ≤ f' := by
  cases f with
  | zero => omega
  | succ f =>
    have := itemAt_bd h
    exact ⟨f, by conv => lhs; unfold itemsGo; rw [if_pos h], by omega⟩
theorem itemsGo_fuel {s : ByteArray} : ∀ {f g k : Nat}, s.size - k ≤ f → s.size - k ≤ g → itemsGo s f k = itemsGo s g k := by
  intro f
  induction f with
  | zero => intro g k hf hg; rw [itemsGo_end (by omega), itemsGo_end (by omega)]
  | succ f ih =>
    intro g k hf hg
    by_cases h : k < s.size
    · obtain ⟨f', e1, h1⟩ := itemsGo_cons h hf
      obtain ⟨g', e2, h2⟩ := itemsGo_cons h hg
      have hb := itemAt_bd h
      have : itemsGo s (f + 1) k = itemAt s k :: itemsGo s f (k + (itemAt s k).n) := by conv => lhs; unfold itemsGo; rw [if_pos h]
      rw [this, e2, ih (by omega) h2]
    · rw [itemsGo_end (by omega), itemsGo_end (by omega)]
theorem items_cons {s : ByteArray} (h : 0 < s.size) : ∃ t, items s = itemAt s 0 :: t := by
  obtain ⟨f', e1, _⟩ := itemsGo_cons (s := s) (f := s.size) (k := 0) h (by omega)
  exact ⟨_, e1⟩
/-- An item's kind. -/
def kindI (d : Dat) (x : Item) : Int := if x.bad = true then 4 else kindOf d.ls d.ns d.ss x.r
def runGo (d : Dat) (k : Int) : List Item → Nat → Nat → Nat × Nat
  | [], n, last => (n, last)
  | x :: t, n, last => if kindI d x = k then runGo d k t (n + x.n) x.n else (n, last)
/-- The bytes of the first items of one kind, the last one's, their kind. -/
def runT (d : Dat) (s : ByteArray) : Nat × Nat × Int :=
  match items s with
  | [] => (0, 0, 0)
  | x :: t => ((runGo d (kindI d x) t x.n x.n).1, (runGo d (kindI d x) t x.n x.n).2, kindI d x)
theorem runGo_bd {d : Dat} {s : ByteArray} {k : Int} : ∀ {f j n last : Nat}, j ≤ s.size → n = j → last ≤ n → 1 ≤ last → n ≤ (runGo d k (itemsGo s f j) n last).1 ∧ (runGo d k (itemsGo s f j) n last).1 ≤ s.size ∧ (runGo d k (itemsGo s f j) n last).2 ≤ (runGo d k (itemsGo s f j) n last).1 ∧ 1 ≤ (runGo d k (itemsGo s f j) n last).2 := by
  intro f
  induction f with
  | zero => intro j n last h1 h2 h3 h4; simp only [itemsGo, runGo]; omega
  | succ f ih =>
    intro j n last h1 h2 h3 h4
    by_cases h : j < s.size
    · have hb := itemAt_bd h
      have e : itemsGo s (f + 1) j = itemAt s j :: itemsGo s f (j + (itemAt s j).n) := by conv => lhs; unfold itemsGo; rw [if_pos h]
      rw [e]
      unfold runGo
      split
      · have := ih (j := j + (itemAt s j).n) (n := n + (itemAt s j).n) (last := (itemAt s j).n) (by omega) (by omega) (by omega) (by omega)
        omega
      · simp only; omega
    · rw [itemsGo_end (by omega)]
      simp only [runGo]; omega
theorem runT_bd {d : Dat} {s : ByteArray} (h : 0 < s.size) : 1 ≤ (runT d s).1 ∧ (runT d s).1 ≤ s.size ∧ 1 ≤ (runT d s).2.1 ∧ (runT d s).2.1 ≤ (runT d s).1 := by
  obtain ⟨f', e1, _⟩ := itemsGo_cons (s := s) (f := s.size) (k := 0) h (by omega)
  have hb := itemAt_bd h
  unfold runT items
  rw [e1]
  simp only [Nat.zero_add]
  have := runGo_bd (d := d) (s := s) (k := kindI d (itemAt s 0)) (f := f') (j := (itemAt s 0).n) (n := (itemAt s 0).n) (last := (itemAt s 0).n) (by omega) rfl (Nat.le_refl _) (by omega)
  omega
def shorts : List (List UInt8) := [[39, 115], [39, 116], [39, 109], [39, 100], [39, 114, 101], [39, 118, 101], [39, 108, 108]]
def shortGo (l : List UInt8) : List (List UInt8) → Nat
  | [] => 0
  | w :: t => if w <+: l then w.length else shortGo l t
/-- How many bytes a Short at the beginning has. -/
def shortT (s : ByteArray) : Nat := shortGo s.data.toList shorts
theorem shortGo_bd {l : List UInt8} : ∀ (ws : List (List UInt8)), shortGo l ws ≤ l.length := by
  intro ws
  induction ws with
  | nil => exact Nat.zero_le _
  | cons w t ih =>
    unfold shortGo
    split
    · rename_i h; exact h.length_le
    · exact ih
def sortT (k : Int) : Int := if k = 1 then 2 else if k = 2 then 3 else 4
def nextT (d : Dat) (s : ByteArray) : Nat × Int :=
  if 0 < shortT s then (shortT s, 1)
  else if (runT d s).2.2 ≠ 3 then ((runT d s).1, sortT (runT d s).2.2)
  else if s.data.toList.head? = some 32 ∧ (runT d s).1 = 1 ∧ 1 < s.size then (1 + (runT d (s.extract 1 s.size)).1, sortT (runT d (s.extract 1 s.size)).2.2)
  else if (runT d s).1 < s.size ∧ (runT d s).2.1 < (runT d s).1 then ((runT d s).1 - (runT d s).2.1, 5)
  else ((runT d s).1, 5)
theorem nextT_bd {d : Dat} {s : ByteArray} (h : 0 < s.size) : 1 ≤ (nextT d s).1 ∧ (nextT d s).1 ≤ s.size := by
  have hr := runT_bd (d := d) h
  have hs : shortT s ≤ s.size := by
    have := shortGo_bd (l := s.data.toList) shorts
    rw [Array.length_toList] at this
    exact this
  unfold nextT
  split
  · simp only; omega
  · split
    · simp only; omega
    · split
      · rename_i h3
        have hz : (s.extract 1 s.size).size = s.size - 1 := by rw [ByteArray.size_extract]; omega
        have := runT_bd (d := d) (s := s.extract 1 s.size) (by omega)
        simp only; omega
      · split <;> (simp only; omega)
/-- A pre-token. -/
structure Tok where
  a : Nat
  b : Nat
  so : Int
def tokAt (d : Dat) (s : ByteArray) (k : Nat) : Tok := ⟨k, k + (nextT d (s.extract k s.size)).1, (nextT d (s.extract k s.size)).2⟩
theorem tokAt_bd {d : Dat} {s : ByteArray} {k : Nat} (h : k < s.size) : k < (tokAt d s k).b ∧ (tokAt d s k).b ≤ s.size := by
  have hz : (s.extract k s.size).size = s.size - k := by rw [ByteArray.size_extract]; omega
  have := nextT_bd (d := d) (s := s.extract k s.size) (by omega)
  unfold tokAt
  simp only
  omega
def toksGo (d : Dat) (s : ByteArray) : Nat → Nat → List Tok
  | 0, _ => []
  | f + 1, k => if k < s.size then tokAt d s k :: toksGo d s f (tokAt d s k).b else []
def toks (d : Dat) (s : ByteArray) : List Tok := toksGo d s s.size 0
theorem toksGo_end {d : Dat} {s : ByteArray} {f k : Nat} (h : s.size ≤ k) : toksGo d s f k = [] := by
  cases f with
  | zero => rfl
  | succ f => unfold toksGo; rw [if_neg (by omega)]
theorem toksGo_cons {d : Dat} {s : ByteArray} {f k : Nat} (h : k < s.size) (hf : s.size - k ≤ f) : ∃ f', toksGo d s f k = tokAt d s k :: toksGo d s f' (tokAt d s k).b ∧ s.size - (tokAt d s k).b ≤ f' := by
  cases f with
  | zero => omega
  | succ f =>
    have := tokAt_bd (d := d) h
    exact ⟨f, by conv => lhs; unfold toksGo; rw [if_pos h], by omega⟩
end Go.Proofs.YtigpaaelggnffaaGreatDoor.Cut
