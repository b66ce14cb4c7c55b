/- A function that has run several loops over iterators leaves: one mark a loop. -/
import Derived.Test.YtjaehghnjolaaaaLib
import Derived.RangeFuncKeeps
import Derived.RangeFuncLeaves
namespace Go.Proofs.Ytjaehghnjolaaaa.Lib
open Go.RowKit
set_option linter.unusedVariables false
def marks (Ds : List Nat) : List Deferred := Ds.map fun D => { target := .collected D, args := #[] }
theorem leaves_marks {F : Fence} {n : Nat} {P : Program} {fn : Func} {tmps : Array Value} {R : Ending → World → Prop} (n₀ : Nat) : ∀ (Ds : List Nat) (w : World), (∀ D ∈ Ds, n₀ ≤ D ∧ w.heap[D]? = some (.deferred (some []))) → Ds.Nodup →
    (∀ w', Below n₀ w w' → LeavesIn F n P fn tmps R [] .returning w') → LeavesInM F n P fn tmps R (marks Ds) .returning w
  | [], w, _, _, h => h w (Below.refl _ _)
  | D :: Ds, w, hD, hn, h => by
    obtain ⟨h0, h1⟩ := hD D (by simp)
    have hlt := (Array.getElem?_eq_some_iff.1 h1).1
    have hb : Below n₀ w (w.putObj D (.deferred none)) := (Below.refl n₀ w).grown (grownBy_putObj' w D (.deferred none)) (by omega) (fun k e => by cases e; omega)
    refine ⟨by simp, .inl ⟨D, w.putObj D (.deferred none), rfl, run_takeDeferred h1, ?_⟩⟩
    refine leaves_marks n₀ Ds _ (fun E hE => ?_) (List.nodup_cons.1 hn).2 (fun w' hw => h w' (hb.trans hw))
    obtain ⟨e0, e1⟩ := hD E (by simp [hE])
    refine ⟨e0, ?_⟩
    have hne : D ≠ E := fun e => (List.nodup_cons.1 hn).1 (e ▸ hE)
    have hg := grownBy_putObj' w D (.deferred none)
    rw [hg.block E (Array.getElem?_eq_some_iff.1 e1).1 (fun e => by cases e; exact hne rfl), e1]
end Go.Proofs.Ytjaehghnjolaaaa.Lib
