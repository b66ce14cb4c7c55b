/- tesserabook.Within of 0 and up. -/
import Derived.Test.YtiminpcpnblppaaSpanPure
namespace Go.Proofs.Ytiminpcpnblppaa.Wi
open Go.Proofs.Ytiminpcpnblppaa.Lib Go.Proofs.Ytiminpcpnblppaa.Sl
open Go.RowKit
set_option linter.unusedVariables false
set_option linter.unusedSimpArgs false

theorem inI_wf {n : Int} (h : (Lit.int .i64 n).wf = true) : inI n := by
  unfold inI
  simp [Lit.wf, IntKind.min, IntKind.max, IntKind.signed, IntKind.bits] at h
  omega
def WithinEnd (w : World) (n : Int) (e : Ending) (w' : World) : Prop := ∃ r : Int, e = .returned (.int .i64 r) ∧ 0 ≤ r ∧ r ≤ n ∧ w = w'
theorem within0_any (w : World) (k : Int) (n : Int) (hk : inI k) (h0 : 0 ≤ n) (hn : n ≤ 1000000) :
    Calls Try.prog 22 #[.int .i64 k, .int .i64 0, .int .i64 n] w fun e w' => WithinEnd w n e w' := by
  obtain ⟨k0, k1⟩ := hk
  by_cases h : 0 ≤ k
  · have h1 := Int.emod_nonneg k (show n + 1 ≠ 0 by omega)
    have h2 := Int.emod_lt_of_pos k (show (0 : Int) < n + 1 by omega)
    go_enter Try.func22, Try.ntmps22
    go_wp2_with fail
    go_ret
    exact ⟨k % (n + 1), ret_int (by omega), h1, by omega, rfl⟩
  · have h1 := Int.tmod_lt_of_pos k (show (0 : Int) < n + 1 by omega)
    have h2 := Int.lt_tmod_of_pos k (show (0 : Int) < n + 1 by omega)
    obtain ⟨r, hr⟩ : ∃ r, k.tmod (n + 1) = r := ⟨_, rfl⟩
    rw [hr] at h1 h2
    by_cases hz : r < 0
    · go_enter Try.func22, Try.ntmps22
      go_wp2_with fail
      go_ret
      exact ⟨r + n + 1, ret_int (by omega), by omega, by omega, rfl⟩
    · go_enter Try.func22, Try.ntmps22
      go_wp2_with fail
      go_ret
      exact ⟨r, ret_int (by omega), by omega, by omega, rfl⟩

end Go.Proofs.Ytiminpcpnblppaa.Wi
