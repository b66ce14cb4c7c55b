/- The walks of chapter 8's statements over pairs: count, HeapSorts. -/
import Derived.Test.YtjaehghnjolaaaaHeapPd
import Derived.Test.YtjaehghnjolaaaaHeapLawsI
import Derived.Test.YtjaehghnjolaaaaBookPair
namespace Go.Proofs.Ytjaehghnjolaaaa.HeapP
open Go.RowKit Go.Proofs.Ytjaehghnjolaaaa.Lib Go.Proofs.Ytjaehghnjolaaaa.HeapPure Go.Proofs.Ytjaehghnjolaaaa.ElPair
set_option linter.unusedVariables false
set_option linter.unusedSimpArgs false

def cnt (xs : List El) (x : El) : Nat := xs.countP (fun y => decide (y = x))
theorem cnt_step (xs : List El) (x : El) (k : Nat) (hk : k < xs.length) : cnt (xs.take (k + 1)) x = cnt (xs.take k) x + (if at_ xs k = x then 1 else 0) := by
  unfold cnt
  rw [List.take_succ_eq_append_getElem hk, List.countP_append, ← at_eq xs k hk]
  simp
theorem cnt_le (xs : List El) (x : El) : cnt xs x ≤ xs.length := List.countP_le_length
set_option maxHeartbeats 1000000 in
set_option maxRecDepth 100000 in
/-- count. -/
theorem count_any (W : World) (p : Option Addr) (c : Nat) (xs : List El) (x : El) (hx : RowR W p xs) (hb : xs.length ≤ 1000000000) :
    Calls Try.prog 34 #[.slice p xs.length c, .agg #[.int .i64 x.f0, .int .i64 x.f1]] W fun e w' => e = .returned (.int .i64 (cnt xs x : Nat)) ∧ Ext (fun _ => False) W w' := by
  have HX := Lib.hid (hx.ext ((Ext.refl (fun _ => False) W).alloc (.cells #[.int .i64 x.f0, .int .i64 x.f1] 43)) (fun _ _ _ h => h))
  clear hx
  go_enter Try.func34, Try.ntmps34
  go_wp2_with fail
  go_loopw [5, 6] (fun n i wr => ∃ k : Nat, k ≤ xs.length ∧ i = .int .i64 k ∧ n = .int .i64 (cnt (xs.take k) x : Nat) ∧ ∃ m, (W.alloc (.cells #[.int .i64 x.f0, .int .i64 x.f1] 43)).drewN m = wr) (fun _ i _ => xs.length - (intOf i).toNat)
  case atStart => exact ⟨0, Nat.zero_le _, rfl, rfl, 0, rfl⟩
  case round =>
    obtain ⟨k, hk, rfl, rfl, m, rfl⟩ := hrel
    by_cases hlt : k < xs.length
    · obtain ⟨X, hX⟩ : ∃ X, at_ xs k = X := ⟨_, rfl⟩
      obtain ⟨b, o, rfl, hb0, e0, e1⟩ := HX.out.elem k hlt X hX
      have HXX := Lib.hid hX
      have hc := cnt_step xs x k hlt
      have hcl := cnt_le (xs.take k) x
      rw [List.length_take] at hcl
      obtain ⟨u, hu⟩ : ∃ u, cnt (xs.take k) x = u := ⟨_, rfl⟩
      rw [hX] at hc
      rw [hu] at hc hcl ⊢
      have HC := Lib.hid hc
      have hub : u ≤ 1000000000 := by omega
      have i1 : (k : Int) < (xs.length : Int) := by omega
      clear hX hc hu hcl
      by_cases hcc : X = x
      · have hq := fun W => el_eql X x W
        rw [decide_eq_true hcc] at hq
        go_wp2_with fail
        go_quiet (fail)
        go_wp2_with fail
        go_roundw
        case rel => exact ⟨k + 1, by omega, by go_num, by rw [HC.out, if_pos hcc]; go_num, m + nq, by first | rfl | rw [World.drewN_drewN]⟩
        case measure => simp [intOf]; omega
      · have hq := fun W => el_eql X x W
        rw [decide_eq_false hcc] at hq
        go_wp2_with fail
        go_quiet (fail)
        go_wp2_with fail
        go_roundw
        case rel => exact ⟨k + 1, by omega, by go_num, by rw [HC.out, if_neg hcc]; go_num, m + nq, by first | rfl | rw [World.drewN_drewN]⟩
        case measure => simp [intOf]; omega
    · have hk2 : k = xs.length := by omega
      subst hk2
      go_wp2_with fail
      go_ret
      exact ⟨by rw [List.take_length]; rfl, ((Ext.refl _ W).alloc _).drewN m⟩
end Go.Proofs.Ytjaehghnjolaaaa.HeapP
