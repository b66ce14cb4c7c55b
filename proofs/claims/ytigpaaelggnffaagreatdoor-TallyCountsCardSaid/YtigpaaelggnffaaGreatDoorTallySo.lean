/- law23.same. -/
import Derived.Test.YtigpaaelggnffaaGreatDoorTallyKnown
import Derived.BigQuiet
import Derived.Deep.QuietTactic
namespace Go.Proofs.YtigpaaelggnffaaGreatDoor.Ty
open Go.RowKit Go.Proofs.YtigpaaelggnffaaGreatDoor.Lib Go.Proofs.YtigpaaelggnffaaGreatDoor.Sl Go.Proofs.YtigpaaelggnffaaGreatDoor.Bpe Go.Proofs.YtigpaaelggnffaaGreatDoor.Cut
set_option linter.unusedVariables false
set_option linter.unusedSimpArgs false

set_option maxRecDepth 100000 in
set_option maxHeartbeats 8000000 in
/-- Two equal lists are told to be so. -/
theorem same23_any (w : World) (p q : Option Addr) (c c2 : Nat) (l : List TRow) (hl : Rd eTR w p l) (hm : Rd eTR w q l) (hn : l.length ≤ 281474976710656) :
    Calls Tryz.prog 16 #[.slice p l.length c, .slice q l.length c2] w fun e w' => e = .returned (.bool true) ∧ Ext (fun _ => False) w w' := by
  have HL := Lib.hid hl
  have HM := Lib.hid hm
  clear hl hm
  have q0 : ((l.length : Int) != (l.length : Int)) = false := by simp
  go_enter Tryz.func16, Tryz.ntmps16
  go_wp2_with fail
  go_loopw [5] (fun v wr => ∃ i : Nat, v = .int .i64 i ∧ i ≤ l.length ∧ Ext (fun _ => False) w wr) (fun v _ => l.length - (intOf v).toNat)
  case atStart => exact ⟨0, rfl, Nat.zero_le _, Ext.refl _ _⟩
  case round =>
    obtain ⟨i, rfl, hi, hx⟩ := hrel
    have EX := Lib.hid hx
    by_cases hlt : i < l.length
    · have i1 : (i : Int) < (l.length : Int) := by omega
      obtain ⟨x, hget⟩ : ∃ x, l[i]? = some x := ⟨_, List.getElem?_eq_getElem hlt⟩
      obtain ⟨b1, o1, rfl, hb1, a0, a1⟩ := (HL.out.on hx).cellR hget
      obtain ⟨b2, o2, rfl, hb2, d0, d1⟩ := (HM.out.on hx).cellR hget
      have hq := fun W => row_neq x x W
      simp only [decide_true, Bool.not_true] at hq
      obtain ⟨xi, xn⟩ := x
      simp only at a0 a1 d0 d1 hq
      clear hget hx
      go_wp2_with fail
      go_quiet (fail)
      go_wp2_with fail
      go_roundw
      case rel => exact ⟨i + 1, by go_num, hlt, EX.out.drewN _⟩
      case measure => simp [intOf]; omega
    · obtain rfl : i = l.length := by omega
      have i1 : ¬ ((l.length : Int) < (l.length : Int)) := by omega
      clear hx
      go_wp2_with fail
      go_ret
      exact ⟨rfl, EX.out⟩
end Go.Proofs.YtigpaaelggnffaaGreatDoor.Ty
