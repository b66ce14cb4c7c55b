/- A region that draws its order and calls nothing: its plain walk serves within a fence too. -/
import Derived.Test.YtbepmbihonnkaaaLib2
import Derived.RangeFuncKeeps
import Derived.RangeFuncLeaves
import Derived.WalkKit
import Derived.OwnWalkIn
import Derived.TacticsInMore
namespace Go.Proofs.Ytbepmbihonnkaaa.Lib
open Go.RowKit
set_option linter.unusedVariables false
set_option linter.unusedSimpArgs false

def Tame : Result Next → Prop
  | .ok (.value _) _ => True
  | .ok .skip _ => True
  | .halt _ _ => True
  | _ => False
theorem tame_v {P : Program} (s : Sem Value) (w : World) : Tame ((do let v ← s; pure (Next.value v) : Sem Next).run P w) := by
  rw [Sem.run_bind]
  cases s.run P w <;> simp [Result.andThen, Tame, Sem.run_pure]
theorem tame_u {P : Program} (s : Sem Unit) (w : World) : Tame ((do s; pure Next.skip : Sem Next).run P w) := by
  rw [Sem.run_bind]
  cases s.run P w <;> simp [Result.andThen, Tame, Sem.run_pure]
theorem tame_bind {P : Program} {α : Type} (s : Sem α) (f : α → Sem Next) (w : World) (h : ∀ x w', Tame ((f x).run P w')) : Tame ((s >>= f).run P w) := by
  rw [Sem.run_bind]
  cases s.run P w with
  | ok x w' => exact h x w'
  | halt r w' => trivial
structure Calm (P : Program) (o : Oper) : Prop where
  nd : ∀ c, o.op ≠ .defer c
  ab : ∀ w ρ, o.about P w ρ = none
  tm : ∀ ρ w, Tame ((execOp ρ o).run P w)
section
variable {P : Program} {o : Oper}
theorem calm_move {x : Operand} (h : o.op = .move x) : Calm P o := by
  refine ⟨fun c => (by rw [h]; exact fun h => nomatch h), fun w ρ => (by unfold Oper.about; rw [h]), fun ρ w => ?_⟩
  unfold execOp
  rw [h]
  simp [Sem.run_pure, Tame]
theorem calm_assign {x : Operand} (h : o.op = .assign x) : Calm P o := by
  refine ⟨fun c => (by rw [h]; exact fun h => nomatch h), fun w ρ => (by unfold Oper.about; rw [h]), fun ρ w => ?_⟩
  unfold execOp
  rw [h]
  simp [Sem.run_pure, Tame]
theorem calm_load {t : TypeId} {x : Operand} (h : o.op = .load t x) : Calm P o := by
  refine ⟨fun c => (by rw [h]; exact fun h => nomatch h), fun w ρ => (by unfold Oper.about; rw [h]), fun ρ w => ?_⟩
  unfold execOp
  rw [h]
  exact tame_v _ w
theorem calm_store {t : TypeId} {x y : Operand} (h : o.op = .store t x y) : Calm P o := by
  refine ⟨fun c => (by rw [h]; exact fun h => nomatch h), fun w ρ => (by unfold Oper.about; rw [h]), fun ρ w => ?_⟩
  unfold execOp
  rw [h]
  exact tame_u _ w
theorem calm_field {t f : Nat} {x : Operand} (h : o.op = .fieldAddr t x f) : Calm P o := by
  refine ⟨fun c => (by rw [h]; exact fun h => nomatch h), fun w ρ => (by unfold Oper.about; rw [h]), fun ρ w => ?_⟩
  unfold execOp
  rw [h]
  exact tame_v _ w
theorem calm_index {t : TypeId} {x y : Operand} (h : o.op = .indexAddr t x y) : Calm P o := by
  refine ⟨fun c => (by rw [h]; exact fun h => nomatch h), fun w ρ => (by unfold Oper.about; rw [h]), fun ρ w => ?_⟩
  unfold execOp
  rw [h]
  exact tame_v _ w
theorem calm_slice {t : TypeId} {n : Nat} {xs : Array (Nat × Operand)} (h : o.op = .buildSlice t n xs) : Calm P o := by
  refine ⟨fun c => (by rw [h]; exact fun h => nomatch h), fun w ρ => (by unfold Oper.about; rw [h]), fun ρ w => ?_⟩
  unfold execOp
  rw [h]
  exact tame_v _ w
theorem calm_append {xs : Array Operand} {ts : Array TypeId} (h : o.op = .call { callee := .builtin .append, args := xs, argTypes := ts }) : Calm P o := by
  refine ⟨fun c => (by rw [h]; exact fun h => nomatch h), fun w ρ => (by simp [Oper.about, h, resolve, Target.leads, Sem.run_pure]), fun ρ w => ?_⟩
  unfold execOp
  rw [h]
  simp only [resolve, Sem.run_bind, Sem.run_pure, Result.andThen_ok, invoke, builtin]
  cases (Builtin.append_ ts o.type (xs.map ρ)).run P w <;> simp [Result.andThen, Tame, Sem.run_pure]
theorem calm_nil {x : Operand} (h : o.op = .nilCheck x) : Calm P o := by
  refine ⟨fun c => (by rw [h]; exact fun h => nomatch h), fun w ρ => (by unfold Oper.about; rw [h]), fun ρ w => ?_⟩
  unfold execOp
  rw [h]
  simp only
  repeat' split
  all_goals first | (simp [runtimePanic, Sem.run_pure, Tame]; done) | skip
  refine tame_bind _ _ _ fun x w1 => tame_bind _ _ _ fun y w2 => ?_
  split
  · exact tame_bind _ _ _ fun z w3 => by simp [Sem.run_pure, Tame]
  · simp [Sem.run_pure, Tame]
variable {F : Fence} {n : Nat} {Q : Exit → Act → World → Prop} {a : Act} {w : World} {K K' : Act → World → Prop} {ops : Array Oper}
theorem Calm.wpIn (h : Calm P o) (hK : ∀ a w, K a w → K' a w) (hw : o.wp P a w K Q) : o.wpIn F n P a w K' Q := by
  refine ⟨fun f hf => (by rw [h.ab] at hf; cases hf), ?_⟩
  rw [Oper.semAt_eq _ _ _ h.nd]
  have ht := h.tm a.eval w
  unfold Oper.wp at hw
  unfold Oper.uponIn
  unfold Oper.upon at hw
  revert hw ht
  cases (execOp a.eval o).run P w with
  | ok v w' => cases v <;> intro hw ht <;> first | exact hK _ _ hw | exact (ht : False).elim
  | halt r w' => cases r <;> intro hw ht <;> exact hw
theorem anyIn_of_any {md : Region.Mode} (hc : ∀ (i : Nat) (o : Oper), ops[i]? = some o → Calm P o) (hL : ¬ LetsOut Q) : ∀ (fuel : Nat) (listed : Array Bool) (a : Act) (w : World), wpAny P md ops Q fuel listed a w → wpAnyIn F n P md ops Q fuel listed a w := by
  intro fuel
  induction fuel with
  | zero => intro listed a w h; exact h
  | succ fuel ih =>
    intro listed a w h
    refine ⟨h.1, fun i hi => ?_⟩
    have h2 := h.2 i hi
    unfold wpOp at h2
    unfold wpOpIn
    cases ho : ops[i]? with
    | none => rw [ho] at h2; exact ih _ _ _ h2
    | some o =>
      rw [ho] at h2
      simp only at h2 ⊢
      by_cases hw : Region.wanted o (yielded ops a.tmps) = true
      · rw [if_pos hw] at h2 ⊢
        rcases h2 with h2 | h2
        · exact (hc i o ho).wpIn (fun a w => ih _ a w) h2
        · exact absurd h2.2 hL
      · rw [if_neg hw] at h2 ⊢
        exact ⟨fun f hf => (by rw [(hc i o ho).ab] at hf; cases hf), ih _ _ _ h2⟩
theorem wpIn_region_calm {id : Nat} {l : List Oper} (hm : P.follows .mixedOrders = true) (hc : ∀ o ∈ l, Calm P o) (hL : ¬ LetsOut Q) (h : wpAny P .any l.toArray Q l.toArray.size (Array.replicate l.toArray.size false) a w.drew) : (Code.region id l.toArray true).wpIn F n P Q a w :=
  wpIn_region_any hm (anyIn_of_any (fun i o ho => hc o (by
    rw [List.getElem?_toArray] at ho
    exact List.mem_of_getElem? ho)) hL _ _ _ _ h)
end
end Go.Proofs.Ytbepmbihonnkaaa.Lib
