/- ChainPlays whole: its iterator's contract handed in. -/
import Derived.Test.YtjaehghnjolaaaaChainAllF
namespace Go.Proofs.Ytjaehghnjolaaaa.Chain
open Go.RowKit Go.Shelf Go.Proofs.Ytjaehghnjolaaaa.Lib
set_option linter.unusedVariables false
set_option linter.unusedSimpArgs false

theorem all_wide (w W : World) (g a s n : Nat) (al : Nat → Bool) (stop : Int) (h : PlSt W w g a s n al) :
    Calls Try.prog 17 #[.pointer (some ⟨g, 0, none⟩), .slice (some ⟨a, 0, none⟩) n n, .int .i64 (cnt al n), .int .i64 stop] w fun e w' => e = .returned (.bool true) ∧ Ext (fun _ => False) w w' := by
  obtain ⟨p, c, q, d, nx, pv, first, len, hM, hI, hn, h1, h2, h3⟩ := h.ch
  have hC : ChAt w.heap.size w g n p c al := by
    refine ⟨blk_lt hM.blk, ?_, ?_, fun i hi ha => ?_⟩
    · rw [← hI.first]; exact (blk_cell hM.blk 2).trans rfl
    · exact (blk_cell hM.blk 0).trans rfl
    · obtain ⟨x, rfl⟩ := arr_some hM.nx (by omega)
      refine ⟨x, rfl, arr_lt hM.nx rfl, (arr_cell hM.nx i (by omega)).trans ?_⟩
      simp [ints, hI.next i hi ha]
  refine callsIn_wide.1 ((allf_in Fence.wide 3 trivial trivial trivial rfl (by omega) w g a n c p al stop hC h.row).mono ?_)
  rintro e w' ⟨he, hb⟩
  exact ⟨he, Ext.of_below hb⟩

theorem plays_whole (W : World) (m : Int) (hm : (Lit.int .i64 m).wf = true) (p : Option Addr) (len cap : Nat) (hlen : len * 8 ≤ 140737488351232) (h1 : len ≤ cap) (h2 : cap ≤ maxLen) (xs : Nat → Int)
    (hxs : ∀ i, i < len → ∃ b o, p = some ⟨b, o, none⟩ ∧ b < W.heap.size ∧ W.cell? ⟨b, o + i, none⟩ = some (.int .i64 (xs i))) (hwf : ∀ i, i < len → (Lit.int .i64 (xs i)).wf = true) (st : Int) (hst : (Lit.int .i64 st).wf = true) :
    Calls Try.prog 5 #[.int .i64 m, .slice p len cap, .int .i64 st] W fun e w' => e = .returned (.bool true) ∧ Ext (fun _ => False) W w' :=
  plays_any (fun w W g a s n al stop h _ _ _ => all_wide w W g a s n al stop h) W m hm p len cap hlen h1 h2 xs hxs hwf st hst
end Go.Proofs.Ytjaehghnjolaaaa.Chain
