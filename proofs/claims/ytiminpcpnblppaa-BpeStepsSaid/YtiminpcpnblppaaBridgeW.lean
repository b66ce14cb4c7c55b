/- A region that draws its order, within a round of a loop over an iterator, in the wide fence: its plain walk serves. -/
import Derived.Test.YtiminpcpnblppaaReg
import Derived.Test.YtiminpcpnblppaaBridge
import Derived.RangeFuncCalls
namespace Go.Proofs.Ytiminpcpnblppaa.Lib
open Go.RowKit Go.Proofs.Ytiminpcpnblppaa.Sl
open Go.Proofs.YtiminpcpnblppaaW.PrintLast
set_option linter.unusedVariables false
set_option linter.unusedSimpArgs false

section
variable {P : Program} {o : Oper} {n r : Nat} {Q : Exit → Act → World → Prop} {a : Act} {w : World} {K K' : Act → World → Prop} {ops : Array Oper}
theorem op_in (nd : ∀ c, o.op ≠ .defer c) (hK : ∀ a w, K a w → K' a w) (hw : o.wp P a w K Q) : o.wpIn (Fence.wide.inRound r) n P a w K' Q := by
  refine ⟨fun f _ => trivial, ?_⟩
  rw [Oper.semAt_eq _ _ _ nd]
  unfold Oper.wp at hw
  revert hw
  cases (execOp a.eval o).run P w with
  | ok v w' =>
    cases v with
    | value v => exact hK _ _
    | skip => exact hK _ _
    | defer d => exact hK _ _
    | enter f args =>
      intro hw
      refine ⟨fun h => by simp [Fence.inRound, Fence.wide] at h, ?_⟩
      refine CallsIn.inRound r (callsIn_wide.2 (Calls.mono hw ?_))
      intro e w2 h
      cases e with
      | returned v => exact hK _ _ h
      | panicked c => exact h
      | outgrown => exact h
    | row row args =>
      intro hw
      refine ⟨fun h => by simp [Fence.inRound, Fence.wide] at h, fun c cs _ => ?_⟩
      obtain ⟨v, w2, h1, h2⟩ := hw c cs
      exact ⟨v, w2, hK _ _ h1, stepsIn_wide.2 h2⟩
    | _ => intro hw; exact (hw : False).elim
  | halt q w' => cases q <;> intro hw <;> exact hw
theorem any_in {md : Region.Mode} (hc : ∀ (i : Nat) (o : Oper), ops[i]? = some o → ∀ c, o.op ≠ .defer c) (hL : ¬ LetsOut Q) : ∀ (fuel : Nat) (listed : Array Bool) (a : Act) (w : World), wpAny P md ops Q fuel listed a w → wpAnyIn (Fence.wide.inRound r) n P md ops Q fuel listed a w := by
  intro fuel
  induction fuel with
  | zero => intro listed a w h; exact h
  | succ fuel ih =>
    intro listed a w h
    refine ⟨h.1, fun i hi => ?_⟩
    have h2 := h.2 i hi
    unfold wpOp at h2
    unfold wpOpIn
    cases ho : ops[i]? with
    | none => rw [ho] at h2; exact ih _ _ _ h2
    | some o =>
      rw [ho] at h2
      simp only at h2 ⊢
      by_cases hw : Region.wanted o (yielded ops a.tmps) = true
      · rw [if_pos hw] at h2 ⊢
        rcases h2 with h2 | h2
        · exact op_in (hc i o ho) (fun a w => ih _ a w) h2
        · exact absurd h2.2 hL
      · rw [if_neg hw] at h2 ⊢
        exact ⟨fun f _ => trivial, ih _ _ _ h2⟩
def noDefer (o : Oper) : Bool := match o.op with
  | .defer _ => false
  | _ => true
theorem startW_ {id m : Nat} {ops : List Oper} {S : World → Prop} {ds : List Nat} (l : Array Bool) (hm : P.follows .mixedOrders = true) (hc : ops.all noDefer = true) (hL : ¬ LetsOut Q) (hn : ops.toArray.size = m) (hl : Array.replicate m false = l) (hS : S w.drew)
    (h : S w.drew → wpAnyLast P .any ops.toArray Q S ds m l a w.drew) : (Code.region id ops.toArray true).wpIn (Fence.wide.inRound r) n P Q a w := by
  subst hn
  subst hl
  refine wpIn_region_any hm (any_in (fun i o ho c hd => ?_) hL _ _ _ _ (wpAny_of_last _ _ _ _ (h hS)))
  have hmem : o ∈ ops := by
    rw [List.getElem?_toArray] at ho
    exact List.mem_of_getElem? ho
  have := List.all_eq_true.1 hc o hmem
  unfold noDefer at this
  rw [hd] at this
  cases this
end
end Go.Proofs.Ytiminpcpnblppaa.Lib
