/- law24.few; bpe.Merge of a text that is not too long. -/
import Derived.Test.YtbepmbihonnkaaaBpeMerge
namespace Go.Proofs.Ytbepmbihonnkaaa.Bpe
open Go.RowKit Go.Proofs.Ytbepmbihonnkaaa.Lib Go.Proofs.Ytbepmbihonnkaaa.Sl
set_option linter.unusedVariables false
set_option linter.unusedSimpArgs false

def fewB (s : ByteArray) (n : Nat) : ByteArray := if n < s.size then s.extract 0 n else s
theorem fewB_size (s : ByteArray) (n : Nat) : (fewB s n).size ≤ n := by
  unfold fewB
  split
  · rw [ByteArray.size_extract]; omega
  · omega
set_option maxRecDepth 100000 in
set_option maxHeartbeats 1000000 in
theorem few24_any (w : World) (s : ByteArray) (n : Nat) (hn : n ≤ 1048576) :
    Calls Try.prog 30 #[.string s, .int .i64 n] w fun e w' => e = .returned (.string (fewB s n)) ∧ w = w' := by
  by_cases h : n < s.size
  · have E := Lib.hid (show fewB s n = s.extract 0 n from if_pos h)
    have i1 : (n : Int) < (s.size : Int) := by omega
    have d1 : decide ((s.size : Int) > (n : Int)) = true := decide_eq_true (by omega)
    have i0 : (0 : Int) ≤ (n : Int) := by omega
    have i2 : (n : Int) ≤ (s.size : Int) := by omega
    go_enter Try.func30, Try.ntmps30
    go_wp2_with fail
    go_ret
    exact ⟨by rw [E.out]; simp, rfl⟩
  · have E := Lib.hid (show fewB s n = s from if_neg h)
    have d1 : decide ((s.size : Int) > (n : Int)) = false := decide_eq_false (by omega)
    go_enter Try.func30, Try.ntmps30
    go_wp2_with fail
    go_ret
    exact ⟨by rw [E.out]; rfl, rfl⟩
theorem mergeB_ok {w : World} {m : Nat} {d : Dat} (hm : IsModel w m d) (hd : RightD d) (s : ByteArray) (hs : s.size ≤ 1048576) :
    Calls Try.prog 31 #[.pointer (some ⟨m, 0, none⟩), .string s] w fun e w' => JoinedEnd w (joinT d.ms (bytesL s)).1 0 e w' := by
  have := mergeB_any hm hd s
  have e : mergeT d s = ((joinT d.ms (bytesL s)).1, 0) := if_neg (by omega)
  rwa [e] at this
end Go.Proofs.Ytbepmbihonnkaaa.Bpe
