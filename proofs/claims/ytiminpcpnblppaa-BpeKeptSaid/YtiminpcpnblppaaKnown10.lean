/- law10: few, known. -/
import Derived.Test.YtiminpcpnblppaaBpeMerge
import Derived.Test.YtiminpcpnblppaaSame
namespace Go.Proofs.Ytiminpcpnblppaa.Bpe
open Go.RowKit Go.Proofs.Ytiminpcpnblppaa.Lib Go.Proofs.Ytiminpcpnblppaa.Sl Go.Proofs.Ytiminpcpnblppaa.Chain
set_option linter.unusedVariables false
set_option linter.unusedSimpArgs false

def fewB (s : ByteArray) (n : Nat) : ByteArray := if n < s.size then s.extract 0 n else s
theorem fewB_size (s : ByteArray) (n : Nat) : (fewB s n).size ≤ n := by
  unfold fewB
  split
  · rw [ByteArray.size_extract]; omega
  · omega
set_option maxRecDepth 100000 in
set_option maxHeartbeats 1000000 in
theorem few_any (w : World) (s : ByteArray) (n : Nat) (hn : n ≤ 1048576) :
    Calls Try.prog 18 #[.string s, .int .i64 n] w fun e w' => e = .returned (.string (fewB s n)) ∧ w = w' := by
  by_cases h : n < s.size
  · have E := Lib.hid (show fewB s n = s.extract 0 n from if_pos h)
    have i1 : (n : Int) < (s.size : Int) := by omega
    have d1 : decide ((s.size : Int) > (n : Int)) = true := decide_eq_true (by omega)
    have i0 : (0 : Int) ≤ (n : Int) := by omega
    have i2 : (n : Int) ≤ (s.size : Int) := by omega
    go_enter Try.func18, Try.ntmps18
    go_wp2_with fail
    go_ret
    exact ⟨by rw [E.out]; simp, rfl⟩
  · have E := Lib.hid (show fewB s n = s from if_neg h)
    have d1 : decide ((s.size : Int) > (n : Int)) = false := decide_eq_false (by omega)
    go_enter Try.func18, Try.ntmps18
    go_wp2_with fail
    go_ret
    exact ⟨by rw [E.out]; rfl, rfl⟩
theorem house_merge : mergeT houseDat ⟨#[116, 104, 101, 32, 97, 98]⟩ = ([259, 32, 256], 0) := by decide +kernel
set_option maxRecDepth 100000 in
set_option maxHeartbeats 4000000 in
theorem known10_any (w : World) : Calls Try.prog 11 #[] w fun e w' => e = .returned (.bool true) ∧ Ext (fun _ => False) w w' := by
  have RD := Lib.hid (RightD.of_good house_good)
  go_enter Try.func11, Try.ntmps11
  go_wp2_with fail
  refine (house_any _).mono ?_
  rintro e W ⟨L, rfl, hD, hx⟩
  have X1 := Lib.hid hx
  go_wp2_with fail
  refine (of5_any W L houseDat hD).mono ?_
  rintro e W2 ⟨hx2, h⟩
  rcases h with ⟨hg, _⟩ | ⟨hg, a, rfl, hm, hwa⟩
  · rw [house_good] at hg; cases hg
  have X2 := Lib.hid (hx.trans hx2 (fun _ _ h => h))
  have M := Lib.hid hm
  clear hx hx2 hD hg hm X1
  go_wp2_with fail
  refine (mergeB_any M.out RD.out _).mono ?_
  rintro e W3 ⟨p, c, rfl, hA, hx3, hf⟩
  rw [house_merge] at hA ⊢
  have OUT := Lib.hid (ints_rd hA)
  have X3 := Lib.hid (X2.out.trans hx3 (fun _ _ h => h))
  clear hA hx3 hf
  have xl : Ext (fun _ => False) W3 (W3.alloc (.cells #[.int .i64 259, .int .i64 32, .int .i64 256] 3)) := (Ext.refl _ _).alloc _
  have O4 := Lib.hid (OUT.out.on xl)
  have XL := Lib.hid (X3.out.trans xl (fun _ _ h => h))
  have RL := Lib.hid (show Rd eI (W3.alloc (.cells #[.int .i64 259, .int .i64 32, .int .i64 256] 3)) (some ⟨W3.heap.size, 0, none⟩) [259, 32, 256] from Rd.lit (E := eI) (t := 3) (fr := (0, 0)) (heap_alloc_new W3 _))
  clear xl OUT
  go_wp2_with fail
  refine (sameI_any _ p _ c 3 [259, 32, 256] [259, 32, 256] O4.out RL.out (by decide)).mono ?_
  rintro e W5 ⟨rfl, hx5⟩
  have X5 := Lib.hid (XL.out.trans hx5 (fun _ _ h => h))
  clear hx5
  go_wp2_with fail
  go_ret
  exact ⟨rfl, X5.out⟩
end Go.Proofs.Ytiminpcpnblppaa.Bpe
