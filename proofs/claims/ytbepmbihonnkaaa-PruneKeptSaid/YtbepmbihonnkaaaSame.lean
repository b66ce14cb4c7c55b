/- tesserabook.Same[int]. -/
import Derived.Test.YtbepmbihonnkaaaSpanPure
import Derived.Deep.DeepCutAuto
import Derived.Deep.QuietTactic
namespace Go.Proofs.Ytbepmbihonnkaaa.Sl
open Go.Proofs.Ytbepmbihonnkaaa.Lib
open Go.RowKit
set_option linter.unusedVariables false
set_option linter.unusedSimpArgs false

def ints (l : List Int) : List Value := l.map (Value.int .i64)
theorem ints_flat (l : List Int) : flat eI l = ints l := by
  induction l with
  | nil => rfl
  | cons x l ih => rw [flat_cons, ih]; rfl
theorem ints_rd {w : World} {e c n : Nat} {p : Option Addr} {l : List Int} (h : Arr w e 1 p n c (ints l)) : Rd eI w p l := Rd.of_arr (by rw [ints_flat]; exact h)

set_option maxRecDepth 100000 in
set_option maxHeartbeats 2000000 in
theorem sameI_any (w : World) (p q : Option Addr) (c c2 : Nat) (xs ys : List Int) (hx : Rd eI w p xs) (hy : Rd eI w q ys) (hl : xs.length ≤ 1125899906842624) :
    Calls Try.prog 20 #[.slice p xs.length c, .slice q ys.length c2] w fun e w' => e = .returned (.bool (decide (xs = ys))) ∧ Ext (fun _ => False) w w' := by
  have HX := Lib.hid hx
  have HY := Lib.hid hy
  clear hx hy
  by_cases hlen : xs.length = ys.length
  · have LE := Lib.hid hlen
    rw [← hlen]
    clear hlen
    go_enter Try.func20, Try.ntmps20
    go_wp2_with fail
    go_loopw [5] (fun i wr => ∃ n : Nat, i = .int .i64 n ∧ n ≤ xs.length ∧ xs.take n = ys.take n ∧ Ext (fun _ => False) w wr) (fun i _ => xs.length - (intOf i).toNat)
    case atStart => exact ⟨0, rfl, Nat.zero_le _, rfl, Ext.refl _ _⟩
    case round =>
      obtain ⟨n, rfl, hn, hsame, hx⟩ := hrel
      have SM := Lib.hid hsame
      have EX := Lib.hid hx
      clear hsame hx
      by_cases hlt : n < xs.length
      · have i1 : (n : Int) < (xs.length : Int) := by omega
        obtain ⟨x, hx⟩ : ∃ x, xs[n]? = some x := ⟨_, List.getElem?_eq_getElem hlt⟩
        obtain ⟨y, hy⟩ : ∃ y, ys[n]? = some y := ⟨_, List.getElem?_eq_getElem (by have := LE.out; omega)⟩
        obtain ⟨b, o, hp, hb, cx⟩ := (HX.out.on EX.out).cellI hx
        obtain ⟨b', o', hq, hb', cy⟩ := (HY.out.on EX.out).cellI hy
        have XN := Lib.hid hx
        have YN := Lib.hid hy
        clear hx hy
        rw [hp, hq]
        by_cases he : x = y
        · subst he
          have NX := Lib.hid (show xs.take (n + 1) = ys.take (n + 1) from by rw [List.take_add_one, List.take_add_one, SM.out, XN.out, YN.out])
          go_wp2_with fail
          go_quiet (fail)
          go_wp2_with fail
          go_roundw
          case rel => exact ⟨n + 1, by go_num, by omega, NX.out, EX.out.drewN _⟩
          case measure => simp [intOf]; omega
        · have NE := Lib.hid (show decide (xs = ys) = false from decide_eq_false (fun h => by subst h; have := XN.out.symm.trans YN.out; injection this with h; exact he h))
          go_wp2_with fail
          go_quiet (fail)
          go_wp2_with fail
          go_ret
          exact ⟨by rw [NE.out]; rfl, EX.out.drewN _⟩
      · have i1 : ¬ ((n : Int) < (xs.length : Int)) := by omega
        have EQ := Lib.hid (show decide (xs = ys) = true from decide_eq_true (by
          have := SM.out
          rwa [List.take_of_length_le (by omega), List.take_of_length_le (by have := LE.out; omega)] at this))
        go_wp2_with fail
        go_ret
        exact ⟨by rw [EQ.out]; rfl, EX.out⟩
  · have NE := Lib.hid (show decide (xs = ys) = false from decide_eq_false (fun h => hlen (by rw [h])))
    have hne : (xs.length : Int) ≠ (ys.length : Int) := by omega
    go_enter Try.func20, Try.ntmps20
    go_wp2_with fail
    go_ret
    exact ⟨by rw [NE.out]; rfl, Ext.refl _ _⟩
end Go.Proofs.Ytbepmbihonnkaaa.Sl
