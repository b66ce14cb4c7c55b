/- Merged of Reg, Bridge, BridgeW, HeapPure, ElBpe, BpePure, HeapBa. -/
import Derived.Test.YtigpaaelggnffaaGreatDoorWLast
import Derived.Test.YtigpaaelggnffaaGreatDoorSpanPure
import Derived.RangeFuncKeeps
import Derived.RangeFuncLeaves
import Derived.WalkKit
import Derived.OwnWalkIn
import Derived.TacticsInMore
import Derived.RangeFuncCalls
import Derived.KernelRfl
import Derived.Test.YtigpaaelggnffaaGreatDoorProg
import Derived.Laws.StructEq
import Derived.Test.YtigpaaelggnffaaGreatDoorModelPairs
import Derived.Test.YtigpaaelggnffaaGreatDoorItems
import Derived.Deep.DeepCutAuto
import Derived.Deep.CutBlock
import Derived.StillTailTactics
import Derived.Deep.LoopGhost
/- Drawn regions by the print's words (WLast): small words of mine beside them. -/
namespace Go.Proofs.YtigpaaelggnffaaGreatDoor.Sl
/-- n bits of a number. -/
def ls (n m : Nat) : Array Bool := ((List.range n).map fun i => m.testBit i).toArray
theorem cell_alloc {w : World} {p : Addr} {v : Value} {o : Obj} (h : w.cell? p = some v) : (w.alloc o).cell? p = some v := (World.cell?_alloc_lt _ _ _ (World.block_lt_of_cell? _ _ h)).trans h
end Go.Proofs.YtigpaaelggnffaaGreatDoor.Sl

/- A region that draws its order and calls nothing: its plain walk serves within a fence too. -/
namespace Go.Proofs.YtigpaaelggnffaaGreatDoor.Lib
open Go.RowKit
set_option linter.unusedVariables false
set_option linter.unusedSimpArgs false

def Tame : Result Next → Prop
  | .ok (.value _) _ => True
  | .ok .skip _ => True
  | .halt _ _ => True
  | _ => False
theorem tame_v {P : Program} (s : Sem Value) (w : World) : Tame ((do let v ← s; pure (Next.value v) : Sem Next).run P w) := by
  rw [Sem.run_bind]
  cases s.run P w <;> simp [Result.andThen, Tame, Sem.run_pure]
theorem tame_u {P : Program} (s : Sem Unit) (w : World) : Tame ((do s; pure Next.skip : Sem Next).run P w) := by
  rw [Sem.run_bind]
  cases s.run P w <;> simp [Result.andThen, Tame, Sem.run_pure]
theorem tame_bind {P : Program} {α : Type} (s : Sem α) (f : α → Sem Next) (w : World) (h : ∀ x w', Tame ((f x).run P w')) : Tame ((s >>= f).run P w) := by
  rw [Sem.run_bind]
  cases s.run P w with
  | ok x w' => exact h x w'
  | halt r w' => trivial
structure Calm (P : Program) (o : Oper) : Prop where
  nd : ∀ c, o.op ≠ .defer c
  ab : ∀ w ρ, o.about P w ρ = none
  tm : ∀ ρ w, Tame ((execOp ρ o).run P w)
section
variable {P : Program} {o : Oper}
theorem calm_move {x : Operand} (h : o.op = .move x) : Calm P o := by
  refine ⟨fun c => (by rw [h]; exact fun h => nomatch h), fun w ρ => (by unfold Oper.about; rw [h]), fun ρ w => ?_⟩
  unfold execOp
  rw [h]
  simp [Sem.run_pure, Tame]
theorem calm_assign {x : Operand} (h : o.op = .assign x) : Calm P o := by
  refine ⟨fun c => (by rw [h]; exact fun h => nomatch h), fun w ρ => (by unfold Oper.about; rw [h]), fun ρ w => ?_⟩
  unfold execOp
  rw [h]
  simp [Sem.run_pure, Tame]
theorem calm_load {t : TypeId} {x : Operand} (h : o.op = .load t x) : Calm P o := by
  refine ⟨fun c => (by rw [h]; exact fun h => nomatch h), fun w ρ => (by unfold Oper.about; rw [h]), fun ρ w => ?_⟩
  unfold execOp
  rw [h]
  exact tame_v _ w
theorem calm_store {t : TypeId} {x y : Operand} (h : o.op = .store t x y) : Calm P o := by
  refine ⟨fun c => (by rw [h]; exact fun h => nomatch h), fun w ρ => (by unfold Oper.about; rw [h]), fun ρ w => ?_⟩
  unfold execOp
  rw [h]
  exact tame_u _ w
theorem calm_field {t f : Nat} {x : Operand} (h : o.op = .fieldAddr t x f) : Calm P o := by
  refine ⟨fun c => (by rw [h]; exact fun h => nomatch h), fun w ρ => (by unfold Oper.about; rw [h]), fun ρ w => ?_⟩
  unfold execOp
  rw [h]
  exact tame_v _ w
theorem calm_index {t : TypeId} {x y : Operand} (h : o.op = .indexAddr t x y) : Calm P o := by
  refine ⟨fun c => (by rw [h]; exact fun h => nomatch h), fun w ρ => (by unfold Oper.about; rw [h]), fun ρ w => ?_⟩
  unfold execOp
  rw [h]
  exact tame_v _ w
theorem calm_slice {t : TypeId} {n : Nat} {xs : Array (Nat × Operand)} (h : o.op = .buildSlice t n xs) : Calm P o := by
  refine ⟨fun c => (by rw [h]; exact fun h => nomatch h), fun w ρ => (by unfold Oper.about; rw [h]), fun ρ w => ?_⟩
  unfold execOp
  rw [h]
  exact tame_v _ w
theorem calm_append {xs : Array Operand} {ts : Array TypeId} (h : o.op = .call { callee := .builtin .append, args := xs, argTypes := ts }) : Calm P o := by
  refine ⟨fun c => (by rw [h]; exact fun h => nomatch h), fun w ρ => (by simp [Oper.about, h, resolve, Target.leads, Sem.run_pure]), fun ρ w => ?_⟩
  unfold execOp
  rw [h]
  simp only [resolve, Sem.run_bind, Sem.run_pure, Result.andThen_ok, invoke, builtin]
  cases (Builtin.append_ ts o.type (xs.map ρ)).run P w <;> simp [Result.andThen, Tame, Sem.run_pure]
theorem calm_nil {x : Operand} (h : o.op = .nilCheck x) : Calm P o := by
  refine ⟨fun c => (by rw [h]; exact fun h => nomatch h), fun w ρ => (by unfold Oper.about; rw [h]), fun ρ w => ?_⟩
  unfold execOp
  rw [h]
  simp only
  repeat' split
  all_goals first | (simp [runtimePanic, Sem.run_pure, Tame]; done) | skip
  refine tame_bind _ _ _ fun x w1 => tame_bind _ _ _ fun y w2 => ?_
  split
  · exact tame_bind _ _ _ fun z w3 => by simp [Sem.run_pure, Tame]
  · simp [Sem.run_pure, Tame]
variable {F : Fence} {n : Nat} {Q : Exit → Act → World → Prop} {a : Act} {w : World} {K K' : Act → World → Prop} {ops : Array Oper}
theorem Calm.wpIn (h : Calm P o) (hK : ∀ a w, K a w → K' a w) (hw : o.wp P a w K Q) : o.wpIn F n P a w K' Q := by
  refine ⟨fun f hf => (by rw [h.ab] at hf; cases hf), ?_⟩
  rw [Oper.semAt_eq _ _ _ h.nd]
  have ht := h.tm a.eval w
  unfold Oper.wp at hw
  unfold Oper.uponIn
  unfold Oper.upon at hw
  revert hw ht
  cases (execOp a.eval o).run P w with
  | ok v w' => cases v <;> intro hw ht <;> first | exact hK _ _ hw | exact (ht : False).elim
  | halt r w' => cases r <;> intro hw ht <;> exact hw
theorem anyIn_of_any {md : Region.Mode} (hc : ∀ (i : Nat) (o : Oper), ops[i]? = some o → Calm P o) (hL : ¬ LetsOut Q) : ∀ (fuel : Nat) (listed : Array Bool) (a : Act) (w : World), wpAny P md ops Q fuel listed a w → wpAnyIn F n P md ops Q fuel listed a w := by
  intro fuel
  induction fuel with
  | zero => intro listed a w h; exact h
  | succ fuel ih =>
    intro listed a w h
    refine ⟨h.1, fun i hi => ?_⟩
    have h2 := h.2 i hi
    unfold wpOp at h2
    unfold wpOpIn
    cases ho : ops[i]? with
    | none => rw [ho] at h2; exact ih _ _ _ h2
    | some o =>
      rw [ho] at h2
      simp only at h2 ⊢
      by_cases hw : Region.wanted o (yielded ops a.tmps) = true
      · rw [if_pos hw] at h2 ⊢
        rcases h2 with h2 | h2
        · exact (hc i o ho).wpIn (fun a w => ih _ a w) h2
        · exact absurd h2.2 hL
      · rw [if_neg hw] at h2 ⊢
        exact ⟨fun f hf => (by rw [(hc i o ho).ab] at hf; cases hf), ih _ _ _ h2⟩
theorem wpIn_region_calm {id : Nat} {l : List Oper} (hm : P.follows .mixedOrders = true) (hc : ∀ o ∈ l, Calm P o) (hL : ¬ LetsOut Q) (h : wpAny P .any l.toArray Q l.toArray.size (Array.replicate l.toArray.size false) a w.drew) : (Code.region id l.toArray true).wpIn F n P Q a w :=
  wpIn_region_any hm (anyIn_of_any (fun i o ho => hc o (by
    rw [List.getElem?_toArray] at ho
    exact List.mem_of_getElem? ho)) hL _ _ _ _ h)
end
end Go.Proofs.YtigpaaelggnffaaGreatDoor.Lib

/- A region that draws its order, within a round of a loop over an iterator, in the wide fence: its plain walk serves. -/
namespace Go.Proofs.YtigpaaelggnffaaGreatDoor.Lib
open Go.RowKit Go.Proofs.YtigpaaelggnffaaGreatDoor.Sl
open Go.Proofs.YtigpaaelggnffaaGreatDoorW.PrintLast
set_option linter.unusedVariables false
set_option linter.unusedSimpArgs false

section
variable {P : Program} {o : Oper} {n r : Nat} {Q : Exit → Act → World → Prop} {a : Act} {w : World} {K K' : Act → World → Prop} {ops : Array Oper}
theorem op_in (nd : ∀ c, o.op ≠ .defer c) (hK : ∀ a w, K a w → K' a w) (hw : o.wp P a w K Q) : o.wpIn (Fence.wide.inRound r) n P a w K' Q := by
  refine ⟨fun f _ => trivial, ?_⟩
  rw [Oper.semAt_eq _ _ _ nd]
  unfold Oper.wp at hw
  revert hw
  cases (execOp a.eval o).run P w with
  | ok v w' =>
    cases v with
    | value v => exact hK _ _
    | skip => exact hK _ _
    | defer d => exact hK _ _
    | enter f args =>
      intro hw
      refine ⟨fun h => by simp [Fence.inRound, Fence.wide] at h, ?_⟩
      refine CallsIn.inRound r (callsIn_wide.2 (Calls.mono hw ?_))
      intro e w2 h
      cases e with
      | returned v => exact hK _ _ h
      | panicked c => exact h
      | outgrown => exact h
    | row row args =>
      intro hw
      refine ⟨fun h => by simp [Fence.inRound, Fence.wide] at h, fun c cs _ => ?_⟩
      obtain ⟨v, w2, h1, h2⟩ := hw c cs
      exact ⟨v, w2, hK _ _ h1, stepsIn_wide.2 h2⟩
    | _ => intro hw; exact (hw : False).elim
  | halt q w' => cases q <;> intro hw <;> exact hw
theorem any_in {md : Region.Mode} (hc : ∀ (i : Nat) (o : Oper), ops[i]? = some o → ∀ c, o.op ≠ .defer c) (hL : ¬ LetsOut Q) : ∀ (fuel : Nat) (listed : Array Bool) (a : Act) (w : World), wpAny P md ops Q fuel listed a w → wpAnyIn (Fence.wide.inRound r) n P md ops Q fuel listed a w := by
  intro fuel
  induction fuel with
  | zero => intro listed a w h; exact h
  | succ fuel ih =>
    intro listed a w h
    refine ⟨h.1, fun i hi => ?_⟩
    have h2 := h.2 i hi
    unfold wpOp at h2
    unfold wpOpIn
    cases ho : ops[i]? with
    | none => rw [ho] at h2; exact ih _ _ _ h2
    | some o =>
      rw [ho] at h2
      simp only at h2 ⊢
      by_cases hw : Region.wanted o (yielded ops a.tmps) = true
      · rw [if_pos hw] at h2 ⊢
        rcases h2 with h2 | h2
        · exact op_in (hc i o ho) (fun a w => ih _ a w) h2
        · exact absurd h2.2 hL
      · rw [if_neg hw] at h2 ⊢
        exact ⟨fun f _ => trivial, ih _ _ _ h2⟩
def noDefer (o : Oper) : Bool := match o.op with
  | .defer _ => false
  | _ => true
theorem startW_ {id m : Nat} {ops : List Oper} {S : World → Prop} {ds : List Nat} (l : Array Bool) (hm : P.follows .mixedOrders = true) (hc : ops.all noDefer = true) (hL : ¬ LetsOut Q) (hn : ops.toArray.size = m) (hl : Array.replicate m false = l) (hS : S w.drew)
    (h : S w.drew → wpAnyLast P .any ops.toArray Q S ds m l a w.drew) : (Code.region id ops.toArray true).wpIn (Fence.wide.inRound r) n P Q a w := by
  subst hn
  subst hl
  refine wpIn_region_any hm (any_in (fun i o ho c hd => ?_) hL _ _ _ _ (wpAny_of_last _ _ _ _ (h hS)))
  have hmem : o ∈ ops := by
    rw [List.getElem?_toArray] at ho
    exact List.mem_of_getElem? ho
  have := List.all_eq_true.1 hc o hmem
  unfold noDefer at this
  rw [hd] at this
  cases this
end
end Go.Proofs.YtigpaaelggnffaaGreatDoor.Lib

/- heap: plain laws on a binary heap in a list (no program). -/
namespace Go.Proofs.YtigpaaelggnffaaGreatDoor.HeapPure
set_option linter.unusedVariables false
set_option linter.unusedSimpArgs false
set_option linter.unusedSectionVars false

section
variable {α : Type} [Inhabited α]
def at_ (l : List α) (i : Nat) : α := l.getD i default
def swap (l : List α) (i j : Nat) : List α := (l.set i (at_ l j)).set j (at_ l i)
theorem swap_length (l : List α) (i j : Nat) : (swap l i j).length = l.length := by simp [swap]
theorem at_eq (l : List α) (i : Nat) (h : i < l.length) : at_ l i = l[i] := by simp [at_, List.getD, h]
theorem at_get (l : List α) (i : Nat) (h : i < l.length) : l[i]? = some (at_ l i) := by rw [at_eq l i h, List.getElem?_eq_getElem h]

theorem at_swap (l : List α) (i j k : Nat) (hi : i < l.length) (hj : j < l.length) : at_ (swap l i j) k = if k = j then at_ l i else if k = i then at_ l j else at_ l k := by
  unfold swap at_
  rw [List.getD_eq_getElem?_getD, List.getD_eq_getElem?_getD, List.getD_eq_getElem?_getD, List.getD_eq_getElem?_getD]
  rw [List.getElem?_set]
  by_cases e : j = k
  · subst e; simp [hj]
  · rw [if_neg e, if_neg (fun x => e x.symm), List.getElem?_set]
    by_cases e2 : i = k
    · subst e2; simp [hi]
    · rw [if_neg e2, if_neg (fun x => e2 x.symm)]

theorem set_at_self (l : List α) (i : Nat) : l.set i (at_ l i) = l := by
  by_cases h : i < l.length
  · rw [at_eq l i h]; exact List.set_getElem_self h
  · exact List.set_eq_of_length_le (by omega)

/-- A swap is a permutation. -/
theorem swap_perm (l : List α) (i j : Nat) (hi : i < l.length) (hj : j < l.length) : (swap l i j).Perm l := by
  by_cases e : i = j
  · subst e
    have : swap l i i = l := by unfold swap; rw [set_at_self, set_at_self]
    rw [this]
  · have key : ∀ (l : List α) (i j : Nat), i < j → j < l.length → ((l.set i (at_ l j)).set j (at_ l i)).Perm l := by
      intro l i j hij hj
      obtain ⟨A, x, B, y, C, hl, hA, hB⟩ : ∃ A x B y C, l = A ++ x :: (B ++ y :: C) ∧ A.length = i ∧ A.length + 1 + B.length = j := by
        refine ⟨l.take i, l[i], (l.drop (i + 1)).take (j - i - 1), l[j], l.drop (j + 1), ?_, by simp; omega, by simp; omega⟩
        have h1 : l = l.take i ++ l[i] :: l.drop (i + 1) := by rw [List.getElem_cons_drop]; simp
        have h2 : l.drop (i + 1) = (l.drop (i + 1)).take (j - i - 1) ++ l[j] :: l.drop (j + 1) := by
          have h3 := List.take_append_drop (j - i - 1) (l.drop (i + 1))
          rw [List.drop_drop, show i + 1 + (j - i - 1) = j from by omega] at h3
          rw [List.getElem_cons_drop]
          exact h3.symm
        rw [← h2]; exact h1
      have ai : at_ l i = x := by rw [at_, hl, ← hA]; simp [List.getD]
      have aj : at_ l j = y := by rw [at_, hl, ← hB]; simp [List.getD, List.getElem?_append]; rw [if_neg (by omega)]; simp [show A.length + 1 + B.length - A.length = B.length + 1 from by omega]
      rw [ai, aj, hl, ← hA]
      rw [List.set_append_right _ _ (Nat.le_refl _), Nat.sub_self, List.set_cons_zero, List.set_append_right _ _ (by omega), show j - A.length = B.length + 1 from by omega, List.set_cons_succ, List.set_append_right _ _ (Nat.le_refl _), Nat.sub_self, List.set_cons_zero]
      refine List.Perm.append_left A ?_
      refine (List.perm_middle (a := x) (l₁ := y :: B) (l₂ := C)).trans ?_
      exact List.Perm.cons x ((List.perm_middle (a := y) (l₁ := B) (l₂ := C)).symm)
    rcases Nat.lt_or_gt_of_ne e with h | h
    · exact key l i j h hj
    · have := key l j i h hi
      unfold swap
      rw [List.set_comm _ _ e]
      exact this

/-- A strict weak order: asymmetric enough, and 'not less' goes on. -/
structure Weak (less : α → α → Bool) : Prop where
  irrefl : ∀ x, less x x = false
  trans : ∀ x y z, less x y = true → less y z = true → less x z = true
  negtrans : ∀ x y z, less x y = false → less y z = false → less x z = false
theorem Weak.asymm {less : α → α → Bool} (h : Weak less) {x y : α} (hx : less x y = true) : less y x = false := by
  cases hy : less y x with
  | false => rfl
  | true => have := h.trans x y x hx hy; rw [h.irrefl] at this; cases this

/-- No child is less than its parent. -/
def Heap (less : α → α → Bool) (l : List α) : Prop := ∀ k, 0 < k → k < l.length → less (at_ l k) (at_ l ((k - 1) / 2)) = false

theorem Heap.least {less : α → α → Bool} (hw : Weak less) {l : List α} (h : Heap less l) : ∀ k, k < l.length → less (at_ l k) (at_ l 0) = false := by
  intro k
  induction k using Nat.strongRecOn with
  | ind k ih =>
    intro hk
    by_cases h0 : k = 0
    · subst h0; exact hw.irrefl _
    · exact hw.negtrans _ _ _ (h k (by omega) hk) (ih ((k - 1) / 2) (by omega) (by omega))

/-- Push's way up. -/
def up (less : α → α → Bool) (l : List α) (i : Nat) : List α :=
  if h : i = 0 then l
  else if less (at_ l i) (at_ l ((i - 1) / 2)) then up less (swap l i ((i - 1) / 2)) ((i - 1) / 2) else l
termination_by i
decreasing_by omega

theorem up_zero (less : α → α → Bool) (l : List α) : up less l 0 = l := by rw [up]; simp
theorem up_step (less : α → α → Bool) (l : List α) (i : Nat) (h0 : i ≠ 0) (h : less (at_ l i) (at_ l ((i - 1) / 2)) = true) : up less l i = up less (swap l i ((i - 1) / 2)) ((i - 1) / 2) := by
  rw [up, dif_neg h0, if_pos h]
theorem up_stop (less : α → α → Bool) (l : List α) (i : Nat) (h0 : i ≠ 0) (h : less (at_ l i) (at_ l ((i - 1) / 2)) = false) : up less l i = l := by
  rw [up, dif_neg h0, h]; rfl

theorem up_length (less : α → α → Bool) (i : Nat) : ∀ l : List α, (up less l i).length = l.length := by
  induction i using Nat.strongRecOn with
  | ind i ih =>
    intro l
    by_cases h0 : i = 0
    · subst h0; rw [up_zero]
    · cases h : less (at_ l i) (at_ l ((i - 1) / 2)) with
      | true => rw [up_step less l i h0 h, ih _ (by omega), swap_length]
      | false => rw [up_stop less l i h0 h]
theorem up_perm (less : α → α → Bool) (i : Nat) : ∀ l : List α, i < l.length → (up less l i).Perm l := by
  induction i using Nat.strongRecOn with
  | ind i ih =>
    intro l hi
    by_cases h0 : i = 0
    · subst h0; rw [up_zero]
    · cases h : less (at_ l i) (at_ l ((i - 1) / 2)) with
      | true => rw [up_step less l i h0 h]; exact (ih _ (by omega) _ (by rw [swap_length]; omega)).trans (swap_perm l _ _ hi (by omega))
      | false => rw [up_stop less l i h0 h]

/-- The heap but for i against its parent; i's children are no less than i's parent. -/
def UpInv (less : α → α → Bool) (l : List α) (i : Nat) : Prop :=
  (∀ k, 0 < k → k < l.length → k ≠ i → less (at_ l k) (at_ l ((k - 1) / 2)) = false) ∧
  (∀ k, 0 < k → k < l.length → (k - 1) / 2 = i → 0 < i → less (at_ l k) (at_ l ((i - 1) / 2)) = false)

theorem up_heap {less : α → α → Bool} (hw : Weak less) (i : Nat) : ∀ l : List α, i < l.length → UpInv less l i → Heap less (up less l i) := by
  induction i using Nat.strongRecOn with
  | ind i ih =>
    intro l hi ⟨h1, h2⟩
    by_cases h0 : i = 0
    · subst h0; rw [up_zero]
      intro k hk hk2
      exact h1 k hk hk2 (by omega)
    · cases h : less (at_ l i) (at_ l ((i - 1) / 2)) with
      | false =>
        rw [up_stop less l i h0 h]
        intro k hk hk2
        by_cases e : k = i
        · subst e; exact h
        · exact h1 k hk hk2 e
      | true =>
        rw [up_step less l i h0 h]
        have hp : (i - 1) / 2 < l.length := by omega
        refine ih _ (by omega) _ (by rw [swap_length]; exact hp) ⟨fun k hk hk2 hne => ?_, fun k hk hk2 hkp hpos => ?_⟩
        · rw [swap_length] at hk2
          rw [at_swap l _ _ _ hi hp, at_swap l _ _ _ hi hp, if_neg hne]
          by_cases e : k = i
          · subst e
            rw [if_pos rfl, if_pos rfl]
            exact hw.asymm h
          · rw [if_neg e]
            by_cases e1 : (k - 1) / 2 = (i - 1) / 2
            · rw [if_pos e1]
              have := h1 k hk hk2 e
              rw [e1] at this
              cases hx : less (at_ l k) (at_ l i) with
              | false => rfl
              | true => have := hw.trans _ _ _ hx h; simp_all
            · rw [if_neg e1]
              by_cases e2 : (k - 1) / 2 = i
              · rw [if_pos e2]
                exact h2 k hk hk2 e2 (by omega)
              · rw [if_neg e2]
                exact h1 k hk hk2 e
        · rw [swap_length] at hk2
          rw [at_swap l _ _ _ hi hp, at_swap l _ _ _ hi hp]
          have hg : ((i - 1) / 2 - 1) / 2 ≠ (i - 1) / 2 := by omega
          have hg2 : ((i - 1) / 2 - 1) / 2 ≠ i := by omega
          rw [if_neg hg, if_neg hg2]
          have hpp := h1 ((i - 1) / 2) hpos hp (by omega)
          by_cases e : k = i
          · subst e
            rw [if_neg (by omega), if_pos rfl]
            exact hpp
          · rw [if_neg (by omega), if_neg e]
            have := h1 k hk hk2 e
            rw [hkp] at this
            exact hw.negtrans _ _ _ this hpp

def push (less : α → α → Bool) (l : List α) (x : α) : List α := up less (l ++ [x]) l.length
theorem push_perm (less : α → α → Bool) (l : List α) (x : α) : (push less l x).Perm (l ++ [x]) := up_perm less _ _ (by simp)
theorem push_length (less : α → α → Bool) (l : List α) (x : α) : (push less l x).length = l.length + 1 := by rw [push, up_length]; simp
theorem at_append (l : List α) (x : α) (k : Nat) (h : k < l.length) : at_ (l ++ [x]) k = at_ l k := by simp [at_, List.getD, List.getElem?_append, h]
theorem push_heap {less : α → α → Bool} (hw : Weak less) {l : List α} (x : α) (h : Heap less l) : Heap less (push less l x) := by
  refine up_heap hw _ _ (by simp) ⟨fun k hk hk2 hne => ?_, fun k hk hk2 hkp _ => ?_⟩
  · simp at hk2
    rw [at_append _ _ _ (by omega), at_append _ _ _ (by omega)]
    exact h k hk (by omega)
  · simp at hk2; omega

/-- Pop's way down: the lesser of i and its children. -/
def low1 (less : α → α → Bool) (l : List α) (i k low : Nat) : Nat := if k < l.length ∧ less (at_ l k) (at_ l low) = true then k else low
def low (less : α → α → Bool) (l : List α) (i : Nat) : Nat := low1 less l i (2 * i + 2) (low1 less l i (2 * i + 1) i)
theorem low1_bd (less : α → α → Bool) (l : List α) (i k m : Nat) : low1 less l i k m = m ∨ (low1 less l i k m = k ∧ k < l.length) := by
  unfold low1
  split
  · rename_i h; exact .inr ⟨rfl, h.1⟩
  · exact .inl rfl
theorem low_bd (less : α → α → Bool) (l : List α) (i : Nat) (hi : i < l.length) : low less l i < l.length ∧ (low less l i = i ∨ low less l i = 2 * i + 1 ∨ low less l i = 2 * i + 2) := by
  unfold low
  have h1 := low1_bd less l i (2 * i + 1) i
  have h2 := low1_bd less l i (2 * i + 2) (low1 less l i (2 * i + 1) i)
  omega
/-- None of i and its children is less than the lesser. -/
theorem low_least {less : α → α → Bool} (hw : Weak less) (l : List α) (i : Nat) (hi : i < l.length) : less (at_ l i) (at_ l (low less l i)) = false ∧ ∀ k, (k = 2 * i + 1 ∨ k = 2 * i + 2) → k < l.length → less (at_ l k) (at_ l (low less l i)) = false := by
  unfold low
  have s1 : less (at_ l i) (at_ l (low1 less l i (2 * i + 1) i)) = false ∧ (2 * i + 1 < l.length → less (at_ l (2 * i + 1)) (at_ l (low1 less l i (2 * i + 1) i)) = false) := by
    unfold low1
    split
    · rename_i h; exact ⟨hw.asymm h.2, fun _ => hw.irrefl _⟩
    · rename_i h
      refine ⟨hw.irrefl _, fun hk => ?_⟩
      cases e : less (at_ l (2 * i + 1)) (at_ l i) with
      | false => rfl
      | true => exact absurd ⟨hk, e⟩ h
  generalize low1 less l i (2 * i + 1) i = m at s1
  unfold low1
  split
  · rename_i h
    have hx := hw.asymm h.2
    refine ⟨hw.negtrans _ _ _ s1.1 hx, fun k hk hk2 => ?_⟩
    rcases hk with rfl | rfl
    · exact hw.negtrans _ _ _ (s1.2 hk2) hx
    · exact hw.irrefl _
  · rename_i h
    refine ⟨s1.1, fun k hk hk2 => ?_⟩
    rcases hk with rfl | rfl
    · exact s1.2 hk2
    · cases e : less (at_ l (2 * i + 2)) (at_ l m) with
      | false => rfl
      | true => exact absurd ⟨hk2, e⟩ h

/-- The lesser of i and its children below k. -/
def lowTo (less : α → α → Bool) (l : List α) (i k : Nat) : Nat := if k ≤ 2 * i + 1 then i else if k = 2 * i + 2 then low1 less l i (2 * i + 1) i else low less l i
theorem lowTo_start (less : α → α → Bool) (l : List α) (i : Nat) : lowTo less l i (2 * i + 1) = i := by unfold lowTo; rw [if_pos (Nat.le_refl _)]
theorem lowTo_step (less : α → α → Bool) (l : List α) (i k : Nat) (h1 : 2 * i + 1 ≤ k) (h2 : k ≤ 2 * i + 2) : lowTo less l i (k + 1) = low1 less l i k (lowTo less l i k) := by
  unfold lowTo
  by_cases e : k = 2 * i + 1
  · subst e; rw [if_neg (by omega), if_pos (by omega), if_pos (by omega)]
  · have : k = 2 * i + 2 := by omega
    subst this
    rw [if_neg (by omega), if_neg (by omega), if_neg (by omega), if_pos rfl]; rfl
theorem lowTo_end (less : α → α → Bool) (l : List α) (i k : Nat) (h1 : 2 * i + 1 ≤ k) (h2 : 2 * i + 2 < k ∨ l.length ≤ k) : lowTo less l i k = low less l i := by
  unfold lowTo low
  have hl : ∀ k m, l.length ≤ k → low1 less l i k m = m := fun k m h => by unfold low1; rw [if_neg (by omega)]
  by_cases e : k = 2 * i + 1
  · subst e; rw [if_pos (by omega), hl (2 * i + 1) _ (by omega), hl _ _ (by omega)]
  · by_cases e2 : k = 2 * i + 2
    · subst e2; rw [if_neg (by omega), if_pos rfl, hl (2 * i + 2) _ (by omega)]
    · rw [if_neg (by omega), if_neg e2]
theorem lowTo_lt (less : α → α → Bool) (l : List α) (i k : Nat) (hi : i < l.length) : lowTo less l i k < l.length ∧ lowTo less l i k ≤ 2 * i + 2 := by
  unfold lowTo
  split
  · omega
  · split
    · have := low1_bd less l i (2 * i + 1) i; omega
    · have := low_bd less l i hi; omega
theorem low_nil (less : α → α → Bool) : low less ([] : List α) 0 = 0 := by simp [low, low1]

def down (less : α → α → Bool) (l : List α) (i : Nat) : List α :=
  if h : i < low less l i ∧ low less l i < l.length then down less (swap l i (low less l i)) (low less l i) else l
termination_by l.length - i
decreasing_by rw [swap_length]; omega

theorem down_stop (less : α → α → Bool) (l : List α) (i : Nat) (h : low less l i = i) : down less l i = l := by rw [down, dif_neg (by omega)]
theorem down_step (less : α → α → Bool) (l : List α) (i : Nat) (hi : i < l.length) (h : low less l i ≠ i) : down less l i = down less (swap l i (low less l i)) (low less l i) := by
  have := low_bd less l i hi
  rw [down, dif_pos (by omega)]

theorem down_ind {P : List α → Nat → Prop} (less : α → α → Bool) (hstop : ∀ l i, i < l.length → low less l i = i → P l i)
    (hstep : ∀ l i, i < l.length → low less l i ≠ i → P (swap l i (low less l i)) (low less l i) → P l i) : ∀ (n : Nat) (l : List α) (i : Nat), l.length - i = n → i < l.length → P l i := by
  intro n
  induction n using Nat.strongRecOn with
  | ind n ih =>
    intro l i hn hi
    by_cases h : low less l i = i
    · exact hstop l i hi h
    · have := low_bd less l i hi
      exact hstep l i hi h (ih (l.length - low less l i) (by omega) _ _ (by rw [swap_length]) (by rw [swap_length]; exact this.1))

theorem down_perm (less : α → α → Bool) (l : List α) (i : Nat) (hi : i < l.length) : (down less l i).Perm l := by
  refine down_ind (P := fun l i => (down less l i).Perm l) less (fun l i _ h => by rw [down_stop less l i h]) (fun l i hi h ih => ?_) _ l i rfl hi
  rw [down_step less l i hi h]
  exact ih.trans (swap_perm l _ _ hi (low_bd less l i hi).1)
theorem down_length (less : α → α → Bool) (l : List α) (i : Nat) (hi : i < l.length) : (down less l i).length = l.length := (down_perm less l i hi).length_eq

/-- The heap but for i's children against i; they are no less than i's parent. -/
def DownInv (less : α → α → Bool) (l : List α) (i : Nat) : Prop :=
  (∀ k, 0 < k → k < l.length → (k - 1) / 2 ≠ i → less (at_ l k) (at_ l ((k - 1) / 2)) = false) ∧
  (∀ k, 0 < k → k < l.length → (k - 1) / 2 = i → 0 < i → less (at_ l k) (at_ l ((i - 1) / 2)) = false)

theorem down_heap {less : α → α → Bool} (hw : Weak less) (l : List α) (i : Nat) (hi : i < l.length) : DownInv less l i → Heap less (down less l i) := by
  refine down_ind (P := fun l i => DownInv less l i → Heap less (down less l i)) less (fun l i hi h hD => ?_) (fun l i hi h ih hD => ?_) _ l i rfl hi
  · rw [down_stop less l i h]
    intro k hk hk2
    by_cases e : (k - 1) / 2 = i
    · have := (low_least hw l i hi).2 k (by omega) hk2
      rw [h] at this
      rw [e]; exact this
    · exact hD.1 k hk hk2 e
  · rw [down_step less l i hi h]
    have hb := low_bd less l i hi
    have hl := low_least hw l i hi
    generalize low less l i = m at *
    refine ih ⟨fun k hk hk2 hne => ?_, fun k hk hk2 hkp _ => ?_⟩
    · rw [swap_length] at hk2
      rw [at_swap l _ _ _ hi hb.1, at_swap l _ _ _ hi hb.1]
      rw [if_neg hne]
      by_cases e1 : (k - 1) / 2 = i
      · rw [if_pos e1]
        by_cases e2 : k = m
        · rw [if_pos e2]; exact hl.1
        · rw [if_neg e2, if_neg (by omega)]; exact hl.2 k (by omega) hk2
      · rw [if_neg e1]
        by_cases e2 : k = m
        · exact absurd e2 (by omega)
        · rw [if_neg e2]
          by_cases e3 : k = i
          · rw [if_pos e3]
            subst e3
            exact hD.2 m (by omega) hb.1 (by omega) hk
          · rw [if_neg e3]; exact hD.1 k hk hk2 e1
    · rw [swap_length] at hk2
      rw [at_swap l _ _ _ hi hb.1, at_swap l _ _ _ hi hb.1]
      have e0 : (m - 1) / 2 = i := by omega
      rw [e0, if_neg (show i ≠ m by omega), if_pos rfl, if_neg (by omega), if_neg (by omega)]
      have := hD.1 k hk hk2 (by omega)
      rw [hkp] at this
      exact this

/-- Pop of a list that is not empty: the last one is laid in front. -/
def popRest (less : α → α → Bool) (l : List α) : List α :=
  let r := (l.set 0 (at_ l (l.length - 1))).take (l.length - 1)
  if r.length = 0 then r else down less r 0
theorem popRest_down (less : α → α → Bool) (l : List α) : popRest less l = down less ((l.set 0 (at_ l (l.length - 1))).take (l.length - 1)) 0 := by
  unfold popRest
  dsimp only
  split
  · rename_i h
    rw [List.eq_nil_of_length_eq_zero h, down_stop _ _ _ (low_nil less)]
  · rfl
theorem rest_at (l : List α) (k : Nat) (hk : k < l.length - 1) : at_ ((l.set 0 (at_ l (l.length - 1))).take (l.length - 1)) k = if k = 0 then at_ l (l.length - 1) else at_ l k := by
  unfold at_
  rw [List.getD_eq_getElem?_getD, List.getElem?_take, if_pos hk, List.getElem?_set]
  by_cases e : 0 = k
  · subst e; rw [if_pos rfl, if_pos rfl, if_pos (by omega)]; rfl
  · rw [if_neg e, if_neg (fun x => e x.symm)]; rfl
theorem rest_perm (l : List α) (h : l ≠ []) : (at_ l 0 :: (l.set 0 (at_ l (l.length - 1))).take (l.length - 1)).Perm l := by
  cases l with
  | nil => exact absurd rfl h
  | cons x t =>
    cases ht : t.reverse with
    | nil =>
      have : t = [] := by simpa using ht
      subst this
      simp [at_]
    | cons y r =>
      have : t = r.reverse ++ [y] := by have := congrArg List.reverse ht; simpa using this
      subst this
      have e1 : at_ (x :: (r.reverse ++ [y])) ((x :: (r.reverse ++ [y])).length - 1) = y := by simp [at_]
      rw [e1]
      have e2 : ((x :: (r.reverse ++ [y])).set 0 y).take ((x :: (r.reverse ++ [y])).length - 1) = y :: r.reverse := by
        simp
      rw [e2]
      show (x :: y :: r.reverse).Perm (x :: (r.reverse ++ [y]))
      exact List.Perm.cons x (List.perm_append_singleton y r.reverse).symm
theorem popRest_perm (less : α → α → Bool) (l : List α) (h : l ≠ []) : (at_ l 0 :: popRest less l).Perm l := by
  unfold popRest
  dsimp only
  split
  · exact rest_perm l h
  · exact (List.Perm.cons _ (down_perm less _ 0 (by omega))).trans (rest_perm l h)
theorem popRest_length (less : α → α → Bool) (l : List α) (h : l ≠ []) : (popRest less l).length + 1 = l.length := by
  have := (popRest_perm less l h).length_eq
  simpa using this
theorem popRest_heap {less : α → α → Bool} (hw : Weak less) {l : List α} (h : Heap less l) : Heap less (popRest less l) := by
  unfold popRest
  dsimp only
  have hlen : ((l.set 0 (at_ l (l.length - 1))).take (l.length - 1)).length = l.length - 1 := by simp
  split
  · rename_i e
    intro k hk hk2
    omega
  · rename_i e
    refine down_heap hw _ 0 (by omega) ⟨fun k hk hk2 hne => ?_, fun k _ _ _ h0 => absurd h0 (Nat.lt_irrefl 0)⟩
    rw [hlen] at hk2
    rw [rest_at l k hk2, rest_at l _ (by omega), if_neg (by omega), if_neg hne]
    exact h k hk (by omega)

/-- Pushed one by one. -/
def pushAll (less : α → α → Bool) (l : List α) : List α := l.foldl (push less) []
theorem pushAll_snoc (less : α → α → Bool) (l : List α) (x : α) : pushAll less (l ++ [x]) = push less (pushAll less l) x := by simp [pushAll]
theorem pushAll_perm (less : α → α → Bool) (l : List α) : (pushAll less l).Perm l := by
  suffices h : ∀ (l a : List α), (l.foldl (push less) a).Perm (a ++ l) by have := h l []; rw [List.nil_append] at this; exact this
  intro l
  induction l with
  | nil => intro a; simp
  | cons x l ih =>
    intro a
    refine (ih _).trans ?_
    refine ((push_perm less a x).append_right l).trans ?_
    simp
theorem pushAll_length (less : α → α → Bool) (l : List α) : (pushAll less l).length = l.length := (pushAll_perm less l).length_eq
theorem heap_nil (less : α → α → Bool) : Heap less ([] : List α) := fun k _ h => absurd h (Nat.not_lt_zero _)
theorem pushAll_heap {less : α → α → Bool} (hw : Weak less) (l : List α) : Heap less (pushAll less l) := by
  suffices h : ∀ (l a : List α), Heap less a → Heap less (l.foldl (push less) a) from h l [] (heap_nil less)
  intro l
  induction l with
  | nil => intro a h; exact h
  | cons x l ih => intro a h; exact ih _ (push_heap hw x h)
end
end Go.Proofs.YtigpaaelggnffaaGreatDoor.HeapPure

/- Elements of the type tessera/bpe.pair: their cells, rows of them. -/
namespace Go.Proofs.YtigpaaelggnffaaGreatDoor.ElBpe
open Go.RowKit Go.Proofs.YtigpaaelggnffaaGreatDoor.Lib Go.Proofs.YtigpaaelggnffaaGreatDoor.HeapPure
set_option linter.unusedVariables false
set_option linter.unusedSimpArgs false

structure El where
  f0 : Int
  f1 : Int
  f2 : Int
  f3 : Int
  f4 : Int
  f5 : Int
  deriving DecidableEq
def El.cells (x : El) : List Value := [.int .i64 x.f0, .int .i64 x.f1, .int .i64 x.f2, .int .i64 x.f3, .int .i64 x.f4, .int .i64 x.f5]
instance : Inhabited El := ⟨⟨0, 0, 0, 0, 0, 0⟩⟩
theorem infoE : (Tryz.prog.info? 197).map (fun i => (i.zero, i.size, i.bytes)) = some (some (.agg #[.int .i64 0, .int .i64 0, .int .i64 0, .int .i64 0, .int .i64 0, .int .i64 0]), 6, 48) := by kernel_rfl
theorem cells_inj {x y : El} (h : x.cells = y.cells) : x = y := by
  cases x; cases y; simpa [El.cells] using h
theorem cells_one (x : El) : ∀ u ∈ x.cells, u.oneCell' = true := by simp [El.cells, Value.oneCell']

def flat (xs : List El) : List Value := xs.flatMap El.cells
theorem flat_append (xs ys : List El) : flat (xs ++ ys) = flat xs ++ flat ys := by simp [flat]
theorem flat_one (x : El) : flat [x] = x.cells := by simp [flat]
theorem flat_one_cell (xs : List El) : ∀ u ∈ flat xs, u.oneCell' = true := by
  intro u hu
  obtain ⟨x, _, h⟩ := List.mem_flatMap.1 hu
  exact cells_one x u h
theorem flat_length (xs : List El) : (flat xs).length = xs.length * 6 := by
  induction xs with
  | nil => rfl
  | cons x xs ih => simp [flat, El.cells] at *; omega
theorem flat_get (xs : List El) (i j : Nat) (hi : i < xs.length) (hj : j < 6) : (flat xs)[i * 6 + j]? = (at_ xs i).cells[j]? := by
  induction xs generalizing i with
  | nil => exact absurd hi (Nat.not_lt_zero _)
  | cons x xs ih =>
    cases i with
    | zero =>
      rw [show flat (x :: xs) = x.cells ++ flat xs from rfl, Nat.zero_mul, Nat.zero_add, List.getElem?_append_left (by simpa [El.cells] using hj)]
      rfl
    | succ i =>
      rw [show flat (x :: xs) = x.cells ++ flat xs from rfl, List.getElem?_append_right (by simp [El.cells] <;> omega), show (i + 1) * 6 + j - x.cells.length = i * 6 + j from by simp [El.cells] <;> omega]
      rw [ih i (by simpa using hi)]
      rfl
theorem flat_set (ys : List El) (k : Nat) (Y : El) : flat (ys.set k Y) = ((((((flat ys).set (k * 6) (.int .i64 Y.f0)).set (k * 6 + 1) (.int .i64 Y.f1)).set (k * 6 + 2) (.int .i64 Y.f2)).set (k * 6 + 3) (.int .i64 Y.f3)).set (k * 6 + 4) (.int .i64 Y.f4)).set (k * 6 + 5) (.int .i64 Y.f5) := by
  induction ys generalizing k with
  | nil => simp [flat]
  | cons x xs ih =>
    cases k with
    | zero => simp [flat, El.cells]
    | succ k =>
      rw [List.set_cons_succ, show flat (x :: xs.set k Y) = x.cells ++ flat (xs.set k Y) from rfl, ih k, show flat (x :: xs) = x.cells ++ flat xs from rfl]
      rw [List.set_append_right _ _ (by simp [El.cells] <;> omega), List.set_append_right _ _ (by simp [El.cells] <;> omega), List.set_append_right _ _ (by simp [El.cells] <;> omega), List.set_append_right _ _ (by simp [El.cells] <;> omega), List.set_append_right _ _ (by simp [El.cells] <;> omega), List.set_append_right _ _ (by simp [El.cells] <;> omega)]
      rw [show (k + 1) * 6 - x.cells.length = k * 6 from by simp [El.cells] <;> omega, show (k + 1) * 6 + 1 - x.cells.length = k * 6 + 1 from by simp [El.cells] <;> omega, show (k + 1) * 6 + 2 - x.cells.length = k * 6 + 2 from by simp [El.cells] <;> omega, show (k + 1) * 6 + 3 - x.cells.length = k * 6 + 3 from by simp [El.cells] <;> omega, show (k + 1) * 6 + 4 - x.cells.length = k * 6 + 4 from by simp [El.cells] <;> omega, show (k + 1) * 6 + 5 - x.cells.length = k * 6 + 5 from by simp [El.cells] <;> omega]
theorem flat_take (ys : List El) (m : Nat) (hm : m ≤ ys.length) : flat (ys.take m) = (flat ys).take (m * 6) := by
  have hl : (ys.take m).length = m := by simp; omega
  have e := flat_append (ys.take m) (ys.drop m)
  rw [List.take_append_drop] at e
  rw [e, List.take_left' (by rw [flat_length, hl])]
/-- The next element's cells written behind those that stand. -/
theorem flat_fill (A : List El) (R : List Value) (Y : El) (hR : 6 ≤ R.length) : (((((((flat A ++ R).set (A.length * 6) (.int .i64 Y.f0)).set (A.length * 6 + 1) (.int .i64 Y.f1)).set (A.length * 6 + 2) (.int .i64 Y.f2)).set (A.length * 6 + 3) (.int .i64 Y.f3)).set (A.length * 6 + 4) (.int .i64 Y.f4)).set (A.length * 6 + 5) (.int .i64 Y.f5)) = flat (A ++ [Y]) ++ R.drop 6 := by
  induction A with
  | nil =>
    match R, hR with
    | r0 :: r1 :: r2 :: r3 :: r4 :: r5 :: R', _ => simp [flat, El.cells]
  | cons x A ih =>
    rw [show flat (x :: A) = x.cells ++ flat A from rfl, List.append_assoc, List.length_cons]
    rw [List.set_append_right _ _ (by simp [El.cells] <;> omega), List.set_append_right _ _ (by simp [El.cells] <;> omega), List.set_append_right _ _ (by simp [El.cells] <;> omega), List.set_append_right _ _ (by simp [El.cells] <;> omega), List.set_append_right _ _ (by simp [El.cells] <;> omega), List.set_append_right _ _ (by simp [El.cells] <;> omega)]
    rw [show (A.length + 1) * 6 - x.cells.length = A.length * 6 from by simp [El.cells] <;> omega, show (A.length + 1) * 6 + 1 - x.cells.length = A.length * 6 + 1 from by simp [El.cells] <;> omega, show (A.length + 1) * 6 + 2 - x.cells.length = A.length * 6 + 2 from by simp [El.cells] <;> omega, show (A.length + 1) * 6 + 3 - x.cells.length = A.length * 6 + 3 from by simp [El.cells] <;> omega, show (A.length + 1) * 6 + 4 - x.cells.length = A.length * 6 + 4 from by simp [El.cells] <;> omega, show (A.length + 1) * 6 + 5 - x.cells.length = A.length * 6 + 5 from by simp [El.cells] <;> omega, ih, List.cons_append, show flat (x :: (A ++ [Y])) = x.cells ++ flat (A ++ [Y]) from rfl, List.append_assoc]

/-- A row of the call's own. -/
abbrev Row (w : World) (p : Option Addr) (c : Nat) (xs : List El) : Prop := Arr w 197 6 p xs.length c (flat xs)
/-- A row that is read. -/
def RowR (w : World) (p : Option Addr) (xs : List El) : Prop := Reads w 6 p xs.length (fun i => (at_ xs i).cells)
theorem RowR.elem {w : World} {p : Option Addr} {xs : List El} (h : RowR w p xs) (k : Nat) (hk : k < xs.length) (Y : El) (hY : at_ xs k = Y) :
    ∃ b o, p = some ⟨b, o, none⟩ ∧ b < w.heap.size ∧ w.cell? ⟨b, o + k * 6, none⟩ = some (.int .i64 Y.f0) ∧ w.cell? ⟨b, o + k * 6 + 1, none⟩ = some (.int .i64 Y.f1) ∧ w.cell? ⟨b, o + k * 6 + 2, none⟩ = some (.int .i64 Y.f2) ∧ w.cell? ⟨b, o + k * 6 + 3, none⟩ = some (.int .i64 Y.f3) ∧ w.cell? ⟨b, o + k * 6 + 4, none⟩ = some (.int .i64 Y.f4) ∧ w.cell? ⟨b, o + k * 6 + 5, none⟩ = some (.int .i64 Y.f5) := by
  obtain ⟨b, o, hp, hb, hc⟩ := h k hk
  simp only [hY] at hc
  refine ⟨b, o, hp, hb, by simpa [El.cells] using (hc 0 (by omega)), by simpa [El.cells] using (hc 1 (by omega)), by simpa [El.cells] using (hc 2 (by omega)), by simpa [El.cells] using (hc 3 (by omega)), by simpa [El.cells] using (hc 4 (by omega)), by simpa [El.cells] using (hc 5 (by omega))⟩
theorem RowR.ext {w w' : World} {p : Option Addr} {xs : List El} {S : Nat → Prop} (h : RowR w p xs) (hx : Ext S w w') (hn : ∀ k, blkOf p = some k → k < w.heap.size → ¬ S k) : RowR w' p xs := Reads.ext h hx hn
theorem Row.reads {w : World} {p : Option Addr} {c : Nat} {xs : List El} (h : Row w p c xs) : RowR w p xs := by
  intro i hi
  obtain ⟨b, o, hp, hb, hc⟩ := arr_reads h (by omega) i hi
  refine ⟨b, o, hp, hb, fun j hj => (hc j hj).trans ?_⟩
  rw [List.getElem?_take, if_pos hj, List.getElem?_drop, flat_get xs i j hi hj]
theorem RowR.take {w : World} {p : Option Addr} {xs : List El} (h : RowR w p xs) (m : Nat) (hm : m ≤ xs.length) : RowR w p (xs.take m) := by
  have hl : (xs.take m).length = m := by simp; omega
  intro i hi
  rw [hl] at hi
  obtain ⟨b, o, hp, hb, hc⟩ := h i (by omega)
  refine ⟨b, o, hp, hb, fun j hj => (hc j hj).trans ?_⟩
  have : at_ (xs.take m) i = at_ xs i := by unfold at_; rw [List.getD_eq_getElem?_getD, List.getD_eq_getElem?_getD, List.getElem?_take, if_pos hi]
  show (at_ xs i).cells[j]? = (at_ (xs.take m) i).cells[j]?
  rw [this]
/-- The cells of element k. -/
theorem Row.elem {w : World} {a n c : Nat} {ys : List El} (h : Arr w 197 6 (some ⟨a, 0, none⟩) n c (flat ys)) (hn : n = ys.length) (k : Nat) (hk : k < ys.length) (Y : El) (hY : at_ ys k = Y) :
    w.cell? ⟨a, k * 6, none⟩ = some (.int .i64 Y.f0) ∧ w.cell? ⟨a, k * 6 + 1, none⟩ = some (.int .i64 Y.f1) ∧ w.cell? ⟨a, k * 6 + 2, none⟩ = some (.int .i64 Y.f2) ∧ w.cell? ⟨a, k * 6 + 3, none⟩ = some (.int .i64 Y.f3) ∧ w.cell? ⟨a, k * 6 + 4, none⟩ = some (.int .i64 Y.f4) ∧ w.cell? ⟨a, k * 6 + 5, none⟩ = some (.int .i64 Y.f5) ∧ w.frozen? ⟨a, k * 6, none⟩ = false ∧ w.frozen? ⟨a, k * 6 + 1, none⟩ = false ∧ w.frozen? ⟨a, k * 6 + 2, none⟩ = false ∧ w.frozen? ⟨a, k * 6 + 3, none⟩ = false ∧ w.frozen? ⟨a, k * 6 + 4, none⟩ = false ∧ w.frozen? ⟨a, k * 6 + 5, none⟩ = false := by
  subst hn
  have e := fun j (hj : j < 6) => (arr_cell h (k * 6 + j) (by omega)).trans (flat_get _ _ _ hk hj)
  rw [hY] at e
  exact ⟨by simpa [El.cells] using e 0 (by omega), by simpa [El.cells] using e 1 (by omega), by simpa [El.cells] using e 2 (by omega), by simpa [El.cells] using e 3 (by omega), by simpa [El.cells] using e 4 (by omega), by simpa [El.cells] using e 5 (by omega), arr_frozen h _, arr_frozen h _, arr_frozen h _, arr_frozen h _, arr_frozen h _, arr_frozen h _⟩
/-- Element k written. -/
theorem Row.set {w : World} {a n c : Nat} {ys : List El} (h : Arr w 197 6 (some ⟨a, 0, none⟩) n c (flat ys)) (k : Nat) (Y : El) :
    Arr ((((((w.setCell ⟨a, k * 6, none⟩ (.int .i64 Y.f0)).setCell ⟨a, k * 6 + 1, none⟩ (.int .i64 Y.f1)).setCell ⟨a, k * 6 + 2, none⟩ (.int .i64 Y.f2)).setCell ⟨a, k * 6 + 3, none⟩ (.int .i64 Y.f3)).setCell ⟨a, k * 6 + 4, none⟩ (.int .i64 Y.f4)).setCell ⟨a, k * 6 + 5, none⟩ (.int .i64 Y.f5)) 197 6 (some ⟨a, 0, none⟩) n c (flat (ys.set k Y)) := by
  have := arr_set (arr_set (arr_set (arr_set (arr_set (arr_set (h) (k * 6) (.int .i64 Y.f0)) (k * 6 + 1) (.int .i64 Y.f1)) (k * 6 + 2) (.int .i64 Y.f2)) (k * 6 + 3) (.int .i64 Y.f3)) (k * 6 + 4) (.int .i64 Y.f4)) (k * 6 + 5) (.int .i64 Y.f5)
  rw [flat_set]
  exact this
theorem ext_set {S : Nat → Prop} {w w' : World} (h : Ext S w w') {a : Nat} (ha : a < w.heap.size → S a) (k : Nat) (Y : El) :
    Ext S w ((((((w'.setCell ⟨a, k * 6, none⟩ (.int .i64 Y.f0)).setCell ⟨a, k * 6 + 1, none⟩ (.int .i64 Y.f1)).setCell ⟨a, k * 6 + 2, none⟩ (.int .i64 Y.f2)).setCell ⟨a, k * 6 + 3, none⟩ (.int .i64 Y.f3)).setCell ⟨a, k * 6 + 4, none⟩ (.int .i64 Y.f4)).setCell ⟨a, k * 6 + 5, none⟩ (.int .i64 Y.f5)) := ((((((h.setCell (p := ⟨a, k * 6, none⟩) ha _).setCell (p := ⟨a, k * 6 + 1, none⟩) ha _).setCell (p := ⟨a, k * 6 + 2, none⟩) ha _).setCell (p := ⟨a, k * 6 + 3, none⟩) ha _).setCell (p := ⟨a, k * 6 + 4, none⟩) ha _).setCell (p := ⟨a, k * 6 + 5, none⟩) ha _)
theorem blk_set' {w : World} {g a : Nat} {o : Obj} (h : w.heap[g]? = some o) (hne : g ≠ a) (k : Nat) (Y : El) : ((((((w.setCell ⟨a, k * 6, none⟩ (.int .i64 Y.f0)).setCell ⟨a, k * 6 + 1, none⟩ (.int .i64 Y.f1)).setCell ⟨a, k * 6 + 2, none⟩ (.int .i64 Y.f2)).setCell ⟨a, k * 6 + 3, none⟩ (.int .i64 Y.f3)).setCell ⟨a, k * 6 + 4, none⟩ (.int .i64 Y.f4)).setCell ⟨a, k * 6 + 5, none⟩ (.int .i64 Y.f5)).heap[g]? = some o := blk_far (blk_far (blk_far (blk_far (blk_far (blk_far (h) (p := ⟨a, k * 6, none⟩) hne _) (p := ⟨a, k * 6 + 1, none⟩) hne _) (p := ⟨a, k * 6 + 2, none⟩) hne _) (p := ⟨a, k * 6 + 3, none⟩) hne _) (p := ⟨a, k * 6 + 4, none⟩) hne _) (p := ⟨a, k * 6 + 5, none⟩) hne _
theorem arr_set' {w : World} {e sz n c : Nat} {p : Option Addr} {cs : List Value} (h : Arr w e sz p n c cs) {a : Nat} (hne : blkOf p ≠ some a) (k : Nat) (Y : El) : Arr ((((((w.setCell ⟨a, k * 6, none⟩ (.int .i64 Y.f0)).setCell ⟨a, k * 6 + 1, none⟩ (.int .i64 Y.f1)).setCell ⟨a, k * 6 + 2, none⟩ (.int .i64 Y.f2)).setCell ⟨a, k * 6 + 3, none⟩ (.int .i64 Y.f3)).setCell ⟨a, k * 6 + 4, none⟩ (.int .i64 Y.f4)).setCell ⟨a, k * 6 + 5, none⟩ (.int .i64 Y.f5)) e sz p n c cs := arr_far (arr_far (arr_far (arr_far (arr_far (arr_far (h) (q := ⟨a, k * 6, none⟩) hne _) (q := ⟨a, k * 6 + 1, none⟩) hne _) (q := ⟨a, k * 6 + 2, none⟩) hne _) (q := ⟨a, k * 6 + 3, none⟩) hne _) (q := ⟨a, k * 6 + 4, none⟩) hne _) (q := ⟨a, k * 6 + 5, none⟩) hne _
end Go.Proofs.YtigpaaelggnffaaGreatDoor.ElBpe

/- Merging, pure: the next step, the places that stand, the pairs that are kept. -/
namespace Go.Proofs.YtigpaaelggnffaaGreatDoor.Bpe
open Go.Proofs.YtigpaaelggnffaaGreatDoor.Lib Go.Proofs.YtigpaaelggnffaaGreatDoor.Sl Go.Proofs.YtigpaaelggnffaaGreatDoor.Chain
set_option linter.unusedVariables false
set_option linter.unusedSimpArgs false

/-! ### the merge of two ids -/
/-- The rank of two ids' merge, and what they become. -/
def mergeOf (ms : List Mrg) (l r : Int) : Option (Nat × Int) := (ms.findIdx? fun x => decide (x.l = l) && decide (x.r = r)).bind fun k => (ms[k]?).map fun x => (k, x.i)
theorem mergeOf_some {ms : List Mrg} {l r : Int} {k : Nat} {id : Int} (h : mergeOf ms l r = some (k, id)) : ∃ x : Mrg, ms[k]? = some x ∧ x.l = l ∧ x.r = r ∧ x.i = id ∧ ∀ (j : Nat) (y : Mrg), j < k → ms[j]? = some y → ¬ (y.l = l ∧ y.r = r) := by
  unfold mergeOf at h
  cases e : ms.findIdx? fun x => decide (x.l = l) && decide (x.r = r) with
  | none => rw [e] at h; cases h
  | some j =>
    rw [e, Option.bind_some] at h
    obtain ⟨hj, hp, hno⟩ := List.findIdx?_eq_some_iff_getElem.1 e
    rw [List.getElem?_eq_getElem hj] at h
    simp at h
    obtain ⟨rfl, rfl⟩ := h
    simp at hp
    refine ⟨ms[j], List.getElem?_eq_getElem hj, hp.1, hp.2, rfl, fun i y hi hy hc => ?_⟩
    have := hno i hi
    obtain ⟨hi2, rfl⟩ := List.getElem?_eq_some_iff.1 hy
    simp at this
    exact this hc.1 hc.2
theorem mergeOf_none {ms : List Mrg} {l r : Int} (h : mergeOf ms l r = none) : ∀ (j : Nat) (y : Mrg), ms[j]? = some y → ¬ (y.l = l ∧ y.r = r) := by
  unfold mergeOf at h
  cases e : ms.findIdx? fun x => decide (x.l = l) && decide (x.r = r) with
  | none =>
    intro j y hy hc
    have := List.findIdx?_eq_none_iff.1 e y (List.mem_of_getElem? hy)
    simp [hc] at this
  | some j =>
    rw [e, Option.bind_some] at h
    obtain ⟨hj, _⟩ := List.findIdx?_eq_some_iff_getElem.1 e
    rw [List.getElem?_eq_getElem hj] at h
    cases h
theorem mergeOf_at {ms : List Mrg} {k : Nat} {x : Mrg} (hx : ms[k]? = some x) (hno : ∀ (j : Nat) (y : Mrg), j < k → ms[j]? = some y → ¬ (y.l = x.l ∧ y.r = x.r)) : mergeOf ms x.l x.r = some (k, x.i) := by
  cases e : mergeOf ms x.l x.r with
  | none => exact absurd ⟨rfl, rfl⟩ (mergeOf_none e k x hx)
  | some t =>
    obtain ⟨j, id⟩ := t
    obtain ⟨y, hy, h1, h2, h3, h4⟩ := mergeOf_some e
    rcases Nat.lt_trichotomy j k with h | h | h
    · exact absurd ⟨h1, h2⟩ (hno j y h hy)
    · subst h
      rw [hx] at hy
      cases hy
      rw [h3]
    · exact absurd ⟨rfl, rfl⟩ (h4 k x h hx)

/-! ### the next step -/
def At (ms : List Mrg) (l : List Int) (i r : Nat) (id : Int) : Prop := ∃ a b, l[i]? = some a ∧ l[i + 1]? = some b ∧ mergeOf ms a b = some (r, id)
theorem At.uniq {ms : List Mrg} {l : List Int} {i r r' : Nat} {id id' : Int} (h : At ms l i r id) (h' : At ms l i r' id') : r = r' ∧ id = id' := by
  obtain ⟨a, b, h1, h2, h3⟩ := h
  obtain ⟨a', b', h1', h2', h3'⟩ := h'
  rw [h1] at h1'; rw [h2] at h2'
  cases h1'; cases h2'
  rw [h3] at h3'
  cases h3'
  exact ⟨rfl, rfl⟩
/-- The step that is done next. -/
def IsStep (ms : List Mrg) (l : List Int) (r i : Nat) (id : Int) : Prop := At ms l i r id ∧ ∀ j r' id', At ms l j r' id' → r < r' ∨ (r = r' ∧ i ≤ j)
theorem IsStep.uniq {ms : List Mrg} {l : List Int} {r i r' i' : Nat} {id id' : Int} (h : IsStep ms l r i id) (h' : IsStep ms l r' i' id') : r = r' ∧ i = i' ∧ id = id' := by
  have h1 := h.2 _ _ _ h'.1
  have h2 := h'.2 _ _ _ h.1
  have hr : r = r' := by omega
  have hi : i = i' := by omega
  subst hr hi
  exact ⟨rfl, rfl, (h.1.uniq h'.1).2⟩
/-- One place more is looked at: the best one so far. -/
def better (ms : List Mrg) (l : List Int) (i : Nat) (best : Option (Nat × Nat × Int)) : Option (Nat × Nat × Int) :=
  match l[i]?, l[i + 1]? with
  | some a, some b => match mergeOf ms a b with
    | some (r, id) => match best with
      | none => some (r, i, id)
      | some (r0, i0, id0) => if r < r0 then some (r, i, id) else some (r0, i0, id0)
    | none => best
  | _, _ => best
def nextGo (ms : List Mrg) (l : List Int) : Nat → Option (Nat × Nat × Int)
  | 0 => none
  | i + 1 => better ms l i (nextGo ms l i)
def nextT (ms : List Mrg) (l : List Int) : Option (Nat × Nat × Int) := nextGo ms l (l.length - 1)
theorem better_cases (ms : List Mrg) (l : List Int) (i : Nat) (best : Option (Nat × Nat × Int)) : (better ms l i best = best ∧ ∀ r id, ¬ At ms l i r id) ∨
    ∃ r id, At ms l i r id ∧ ((best = none ∧ better ms l i best = some (r, i, id)) ∨ ∃ r0 i0 id0, best = some (r0, i0, id0) ∧ ((r < r0 ∧ better ms l i best = some (r, i, id)) ∨ (¬ r < r0 ∧ better ms l i best = best))) := by
  unfold better
  cases e1 : l[i]? with
  | none => exact .inl ⟨rfl, fun r id ⟨a, b, h, _⟩ => by rw [e1] at h; cases h⟩
  | some a =>
    cases e2 : l[i + 1]? with
    | none => exact .inl ⟨rfl, fun r id ⟨a, b, _, h, _⟩ => by rw [e2] at h; cases h⟩
    | some b =>
      simp only
      cases e3 : mergeOf ms a b with
      | none => exact .inl ⟨rfl, fun r id ⟨a', b', h1, h2, h3⟩ => by rw [e1] at h1; rw [e2] at h2; cases h1; cases h2; rw [e3] at h3; cases h3⟩
      | some t =>
        obtain ⟨r, id⟩ := t
        refine .inr ⟨r, id, ⟨a, b, e1, e2, e3⟩, ?_⟩
        cases best with
        | none => exact .inl ⟨rfl, rfl⟩
        | some t =>
          obtain ⟨r0, i0, id0⟩ := t
          refine .inr ⟨r0, i0, id0, rfl, ?_⟩
          by_cases h : r < r0
          · exact .inl ⟨h, if_pos h⟩
          · exact .inr ⟨h, if_neg h⟩
theorem nextGo_spec (ms : List Mrg) (l : List Int) : ∀ n, match nextGo ms l n with
    | none => ∀ j r id, j < n → ¬ At ms l j r id
    | some (r, i, id) => i < n ∧ At ms l i r id ∧ ∀ j r' id', j < n → At ms l j r' id' → r < r' ∨ (r = r' ∧ i ≤ j) := by
  intro n
  induction n with
  | zero => intro j r id hj; omega
  | succ n ih =>
    rw [nextGo]
    rcases better_cases ms l n (nextGo ms l n) with ⟨h1, h2⟩ | ⟨r, id, hat, h⟩
    · rw [h1]
      cases e : nextGo ms l n with
      | none =>
        rw [e] at ih
        intro j r id hj hc
        rcases Nat.lt_or_ge j n with hh | hh
        · exact ih j r id hh hc
        · obtain rfl : j = n := by omega
          exact h2 r id hc
      | some t =>
        obtain ⟨r, i, id⟩ := t
        rw [e] at ih
        obtain ⟨a, b, c⟩ := ih
        refine ⟨by omega, b, fun j r' id' hj hc => ?_⟩
        rcases Nat.lt_or_ge j n with hh | hh
        · exact c j r' id' hh hc
        · obtain rfl : j = n := by omega
          exact absurd hc (h2 r' id')
    · rcases h with ⟨hn, hb⟩ | ⟨r0, i0, id0, hn, ⟨hlt, hb⟩ | ⟨hlt, hb⟩⟩
      · rw [hb]
        rw [hn] at ih
        refine ⟨by omega, hat, fun j r' id' hj hc => ?_⟩
        rcases Nat.lt_or_ge j n with hh | hh
        · exact absurd hc (ih j r' id' hh)
        · obtain rfl : j = n := by omega
          have := hat.uniq hc
          omega
      · rw [hb]
        rw [hn] at ih
        obtain ⟨a, b, c⟩ := ih
        refine ⟨by omega, hat, fun j r' id' hj hc => ?_⟩
        rcases Nat.lt_or_ge j n with hh | hh
        · have := c j r' id' hh hc
          omega
        · obtain rfl : j = n := by omega
          have := hat.uniq hc
          omega
      · rw [hb, hn]
        rw [hn] at ih
        obtain ⟨a, b, c⟩ := ih
        refine ⟨by omega, b, fun j r' id' hj hc => ?_⟩
        rcases Nat.lt_or_ge j n with hh | hh
        · exact c j r' id' hh hc
        · obtain rfl : j = n := by omega
          have := hat.uniq hc
          omega
theorem At.lt {ms : List Mrg} {l : List Int} {i r : Nat} {id : Int} (h : At ms l i r id) : i < l.length - 1 := by
  obtain ⟨a, b, _, h2, _⟩ := h
  have := (List.getElem?_eq_some_iff.1 h2).1
  omega
theorem nextT_none {ms : List Mrg} {l : List Int} (h : nextT ms l = none) : ∀ j r id, ¬ At ms l j r id := fun j r id hc => by
  have := nextGo_spec ms l (l.length - 1)
  unfold nextT at h
  rw [h] at this
  exact this j r id hc.lt hc
theorem nextT_some {ms : List Mrg} {l : List Int} {r i : Nat} {id : Int} (h : nextT ms l = some (r, i, id)) : IsStep ms l r i id := by
  have := nextGo_spec ms l (l.length - 1)
  unfold nextT at h
  rw [h] at this
  exact ⟨this.2.1, fun j r' id' hc => this.2.2 j r' id' hc.lt hc⟩
theorem nextT_is {ms : List Mrg} {l : List Int} {r i : Nat} {id : Int} (h : IsStep ms l r i id) : nextT ms l = some (r, i, id) := by
  cases e : nextT ms l with
  | none => exact absurd h.1 (nextT_none e _ _ _)
  | some t =>
    obtain ⟨r', i', id'⟩ := t
    obtain ⟨rfl, rfl, rfl⟩ := h.uniq (nextT_some e)
    rfl
theorem nextT_no {ms : List Mrg} {l : List Int} (h : ∀ j r id, ¬ At ms l j r id) : nextT ms l = none := by
  cases e : nextT ms l with
  | none => rfl
  | some t =>
    obtain ⟨r', i', id'⟩ := t
    exact absurd (nextT_some e).1 (h _ _ _)
/-- A step done. -/
def stepT (l : List Int) (i : Nat) (id : Int) : List Int := (l.set i id).eraseIdx (i + 1)
def joinG (ms : List Mrg) : Nat → List Int → List Int × List (Nat × Nat)
  | 0, l => (l, [])
  | f + 1, l => match nextT ms l with
    | none => (l, [])
    | some (r, i, id) => ((joinG ms f (stepT l i id)).1, (r, i) :: (joinG ms f (stepT l i id)).2)
def joinT (ms : List Mrg) (l : List Int) : List Int × List (Nat × Nat) := joinG ms l.length l
theorem stepT_length {l : List Int} {i : Nat} {id : Int} (h : i + 1 < l.length) : (stepT l i id).length + 1 = l.length := by
  unfold stepT
  rw [List.length_eraseIdx, if_pos (by rw [List.length_set]; exact h), List.length_set]
  omega
theorem joinG_more (ms : List Mrg) : ∀ f l, l.length ≤ f → joinG ms f l = joinT ms l := by
  have key : ∀ f g l, l.length ≤ f → l.length ≤ g → joinG ms f l = joinG ms g l := by
    intro f
    induction f with
    | zero =>
      intro g l hf hg
      have : l = [] := List.length_eq_zero_iff.1 (by omega)
      subst this
      cases g with
      | zero => rfl
      | succ g => rfl
    | succ f ih =>
      intro g l hf hg
      cases g with
      | zero =>
        have : l = [] := List.length_eq_zero_iff.1 (by omega)
        subst this
        rfl
      | succ g =>
        rw [joinG, joinG]
        cases e : nextT ms l with
        | none => rfl
        | some t =>
          obtain ⟨r, i, id⟩ := t
          have h1 := (nextT_some e).1.lt
          have h2 := stepT_length (l := l) (i := i) (id := id) (by omega)
          simp only
          rw [ih g _ (by omega) (by omega)]
  intro f l h
  exact key f _ l h (Nat.le_refl _)
theorem joinT_none {ms : List Mrg} {l : List Int} (h : nextT ms l = none) : joinT ms l = (l, []) := by
  unfold joinT
  cases e : l.length with
  | zero => rfl
  | succ n => rw [joinG, h]
theorem joinT_some {ms : List Mrg} {l : List Int} {r i : Nat} {id : Int} (h : nextT ms l = some (r, i, id)) : joinT ms l = ((joinT ms (stepT l i id)).1, (r, i) :: (joinT ms (stepT l i id)).2) := by
  have h1 := (nextT_some h).1.lt
  have h2 := stepT_length (l := l) (i := i) (id := id) (by omega)
  unfold joinT
  cases e : l.length with
  | zero => omega
  | succ n =>
    rw [joinG, h]
    simp only
    rw [joinG_more ms n _ (by omega)]
    rfl
end Go.Proofs.YtigpaaelggnffaaGreatDoor.Bpe

/- heap.Heap[tessera/bpe.pair]: elements, Push. -/
namespace Go.Proofs.YtigpaaelggnffaaGreatDoor.HeapB
open Go.RowKit Go.Proofs.YtigpaaelggnffaaGreatDoor.Lib Go.Proofs.YtigpaaelggnffaaGreatDoor.HeapPure Go.Proofs.YtigpaaelggnffaaGreatDoor.ElBpe
set_option linter.unusedVariables false
set_option linter.unusedSimpArgs false

def less (x y : El) : Bool := if x.f0 = y.f0 then decide (x.f1 < y.f1) else decide (x.f0 < y.f0)
/-- The blocks of a heap at g: its row at p. -/
def HB (w : World) (g : Nat) (p : Option Addr) (n c : Nat) : Prop := w.heap[g]? = some (.cells #[.func (.func 131) #[] #[], .slice p n c] 248 (0, 0))
structure Mem (w : World) (g : Nat) (p : Option Addr) (c : Nat) (xs : List El) : Prop where
  blk : HB w g p xs.length c
  row : Arr w 197 6 p xs.length c (flat xs)
  pg : blkOf p ≠ some g

theorem Mem.ext {w w' : World} {g : Nat} {p : Option Addr} {c : Nat} {xs : List El} {S : Nat → Prop} (h : Mem w g p c xs) (hx : Ext S w w') (hg : ¬ S g) (hp : ∀ k, blkOf p = some k → ¬ S k) : Mem w' g p c xs :=
  ⟨hx.obj h.blk hg, arr_ext h.row hx hp, h.pg⟩
/-- The cells of element k. -/
theorem Mem.elem {w : World} {g a c : Nat} {ys : List El} (h : Mem w g (some ⟨a, 0, none⟩) c ys) (k : Nat) (hk : k < ys.length) (Y : El) (hY : at_ ys k = Y) :
    w.cell? ⟨a, k * 6, none⟩ = some (.int .i64 Y.f0) ∧ w.cell? ⟨a, k * 6 + 1, none⟩ = some (.int .i64 Y.f1) ∧ w.cell? ⟨a, k * 6 + 2, none⟩ = some (.int .i64 Y.f2) ∧ w.cell? ⟨a, k * 6 + 3, none⟩ = some (.int .i64 Y.f3) ∧ w.cell? ⟨a, k * 6 + 4, none⟩ = some (.int .i64 Y.f4) ∧ w.cell? ⟨a, k * 6 + 5, none⟩ = some (.int .i64 Y.f5) ∧ w.frozen? ⟨a, k * 6, none⟩ = false ∧ w.frozen? ⟨a, k * 6 + 1, none⟩ = false ∧ w.frozen? ⟨a, k * 6 + 2, none⟩ = false ∧ w.frozen? ⟨a, k * 6 + 3, none⟩ = false ∧ w.frozen? ⟨a, k * 6 + 4, none⟩ = false ∧ w.frozen? ⟨a, k * 6 + 5, none⟩ = false := by
  have e := fun j (hj : j < 6) => (arr_cell h.row (k * 6 + j) (by omega)).trans (flat_get _ _ _ hk hj)
  rw [hY] at e
  exact ⟨by simpa [El.cells] using e 0 (by omega), by simpa [El.cells] using e 1 (by omega), by simpa [El.cells] using e 2 (by omega), by simpa [El.cells] using e 3 (by omega), by simpa [El.cells] using e 4 (by omega), by simpa [El.cells] using e 5 (by omega), arr_frozen h.row _, arr_frozen h.row _, arr_frozen h.row _, arr_frozen h.row _, arr_frozen h.row _, arr_frozen h.row _⟩
theorem Mem.cell1 {w : World} {g : Nat} {p : Option Addr} {c : Nat} {ys : List El} (h : Mem w g p c ys) : w.cell? ⟨g, 1, none⟩ = some (.slice p ys.length c) ∧ w.frozen? ⟨g, 1, none⟩ = false :=
  ⟨by have := blk_cell h.blk 1; simpa using this, blk_frozen h.blk 1⟩
theorem Mem.cell0 {w : World} {g : Nat} {p : Option Addr} {c : Nat} {ys : List El} (h : Mem w g p c ys) : w.cell? ⟨g, 0, none⟩ = some (.func (.func 131) #[] #[]) := by have := blk_cell h.blk 0; simpa using this
theorem Mem.drew {w : World} {g : Nat} {p : Option Addr} {c : Nat} {xs : List El} (h : Mem w g p c xs) : Mem w.drew g p c xs := h.ext (S := fun _ => False) (Ext.drew (Ext.refl _ w)) (fun h => h) (fun _ _ h => h)
/-- Element k written. -/
theorem Mem.set {w : World} {g a c : Nat} {ys : List El} (h : Mem w g (some ⟨a, 0, none⟩) c ys) (k : Nat) (Y : El) :
    Mem ((((((w.setCell ⟨a, k * 6, none⟩ (.int .i64 Y.f0)).setCell ⟨a, k * 6 + 1, none⟩ (.int .i64 Y.f1)).setCell ⟨a, k * 6 + 2, none⟩ (.int .i64 Y.f2)).setCell ⟨a, k * 6 + 3, none⟩ (.int .i64 Y.f3)).setCell ⟨a, k * 6 + 4, none⟩ (.int .i64 Y.f4)).setCell ⟨a, k * 6 + 5, none⟩ (.int .i64 Y.f5)) g (some ⟨a, 0, none⟩) c (ys.set k Y) := by
  have hga : g ≠ a := fun e => h.pg (by simp [e])
  refine ⟨?_, ?_, h.pg⟩
  · have := blk_far (blk_far (blk_far (blk_far (blk_far (blk_far (h.blk) (p := ⟨a, k * 6, none⟩) hga (.int .i64 Y.f0)) (p := ⟨a, k * 6 + 1, none⟩) hga (.int .i64 Y.f1)) (p := ⟨a, k * 6 + 2, none⟩) hga (.int .i64 Y.f2)) (p := ⟨a, k * 6 + 3, none⟩) hga (.int .i64 Y.f3)) (p := ⟨a, k * 6 + 4, none⟩) hga (.int .i64 Y.f4)) (p := ⟨a, k * 6 + 5, none⟩) hga (.int .i64 Y.f5)
    simpa [HB] using this
  · have := arr_set (arr_set (arr_set (arr_set (arr_set (arr_set (h.row) (k * 6) (.int .i64 Y.f0)) (k * 6 + 1) (.int .i64 Y.f1)) (k * 6 + 2) (.int .i64 Y.f2)) (k * 6 + 3) (.int .i64 Y.f3)) (k * 6 + 4) (.int .i64 Y.f4)) (k * 6 + 5) (.int .i64 Y.f5)
    rw [flat_set, List.length_set]
    exact this
theorem push_first {W w0 w1 : World} {g : Nat} {p p1 : Option Addr} {c c1 : Nat} {xs : List El} {x : El} (hM : Mem W g p c xs) (h0 : Ext (fun _ => False) W w0)
    (hA1 : Arr w1 197 6 p1 (xs.length + 1) c1 (flat xs ++ [.int .i64 x.f0, .int .i64 x.f1, .int .i64 x.f2, .int .i64 x.f3, .int .i64 x.f4, .int .i64 x.f5])) (hx1 : Ext (fun k => blkOf p = some k) w0 w1) (hm1 : Moved w0 p p1) :
    Mem (w1.setCell ⟨g, 1, none⟩ (.slice p1 (xs.length + 1) c1)) g p1 c1 (xs ++ [x]) ∧ Ext (fun k => k = g ∨ blkOf p = some k) W (w1.setCell ⟨g, 1, none⟩ (.slice p1 (xs.length + 1) c1)) ∧ Moved W p p1 := by
  have b0 := h0.obj hM.blk (fun h => h)
  have b1 := hx1.obj b0 hM.pg
  have hs := h0.size
  have hlt := blk_lt b0
  have e1 : blkOf p1 ≠ some g := fun e => (hm1 _ e).elim hM.pg (fun h => by omega)
  refine ⟨⟨?_, ?_, e1⟩, ?_, fun k hk => ?_⟩
  · have := blk_set b1 1 (.slice p1 (xs.length + 1) c1)
    simpa [HB] using this
  · have := arr_far hA1 (q := ⟨g, 1, none⟩) e1 (.slice p1 (xs.length + 1) c1)
    rw [flat_append, List.length_append]
    exact this
  · exact ((h0.mono (S' := fun k => k = g ∨ blkOf p = some k) (fun _ h => h.elim)).trans hx1 (fun i hi h => .inr h)).setCell (fun _ => .inl rfl) _
  · rcases hm1 k hk with h | h
    · exact .inl h
    · exact .inr (by omega)

/-- The loop's state of Push. -/
def UpSt (W w : World) (g : Nat) (p p1 : Option Addr) (c1 : Nat) (xs1 : List El) (m k : Nat) (ys : List El) : Prop :=
  Mem w g p1 c1 ys ∧ Ext (fun k => k = g ∨ blkOf p = some k) W w ∧ Moved W p p1 ∧ k < ys.length ∧ ys.length = xs1.length ∧ up less ys k = up less xs1 m
set_option maxHeartbeats 1000000 in
theorem UpSt.swap {W w : World} {g a k m c1 : Nat} {p : Option Addr} {xs1 ys : List El} (h : UpSt W w g p (some ⟨a, 0, none⟩) c1 xs1 m k ys) (h0 : k ≠ 0) {w2 : World} (hx : Ext (fun _ => False) w w2) {X Y : El} {u : Nat} (hu : (k - 1) / 2 = u) (hX : at_ ys k = X) (hY : at_ ys u = Y)
    (hl : less X Y = true) : UpSt W (((((((((((((w2.setCell ⟨a, k * 6, none⟩ (.int .i64 Y.f0)).setCell ⟨a, k * 6 + 1, none⟩ (.int .i64 Y.f1)).setCell ⟨a, k * 6 + 2, none⟩ (.int .i64 Y.f2)).setCell ⟨a, k * 6 + 3, none⟩ (.int .i64 Y.f3)).setCell ⟨a, k * 6 + 4, none⟩ (.int .i64 Y.f4)).setCell ⟨a, k * 6 + 5, none⟩ (.int .i64 Y.f5)).setCell ⟨a, u * 6, none⟩ (.int .i64 X.f0)).setCell ⟨a, u * 6 + 1, none⟩ (.int .i64 X.f1)).setCell ⟨a, u * 6 + 2, none⟩ (.int .i64 X.f2)).setCell ⟨a, u * 6 + 3, none⟩ (.int .i64 X.f3)).setCell ⟨a, u * 6 + 4, none⟩ (.int .i64 X.f4)).setCell ⟨a, u * 6 + 5, none⟩ (.int .i64 X.f5))).drew g p (some ⟨a, 0, none⟩) c1 xs1 m u (swap ys k u) := by
  obtain ⟨hM, hE, hm, hk, hlen, hup⟩ := h
  have hM2 := hM.ext hx (fun h => h) (fun _ _ h => h)
  have hM3 := (hM2.set k Y).set u X
  have ha : a < W.heap.size → (a = g ∨ blkOf p = some a) := fun h => (hm a rfl).elim .inr (fun h2 => by omega)
  refine ⟨?_, (ext_set (ext_set (hE.trans hx (fun _ _ h => h.elim)) ha k Y) ha u X).drew, hm, by rw [swap_length]; omega, by rw [swap_length]; exact hlen, ?_⟩
  · unfold HeapPure.swap
    rw [hX, hY]
    exact hM3.drew
  · rw [← hup, up_step less ys k h0 (by rw [hX, hu, hY]; exact hl), hu]
/-- What Push leaves. -/
def PushEnd (W : World) (g : Nat) (p : Option Addr) (xs : List El) (x : El) (e : Ending) (w' : World) : Prop :=
  ∃ v p1 c1, e = .returned v ∧ Mem w' g p1 c1 (push less xs x) ∧ Ext (fun k => k = g ∨ blkOf p = some k) W w' ∧ Moved W p p1
theorem UpSt.stop {W w : World} {g k c1 : Nat} {p p1 : Option Addr} {xs ys : List El} {x : El} (h : UpSt W w g p p1 c1 (xs ++ [x]) xs.length k ys) {w2 : World} (hx : Ext (fun _ => False) w w2) (hs : up less ys k = ys) (v : Value) : PushEnd W g p xs x (.returned v) w2 := by
  obtain ⟨hM, hE, hm, hk, hlen, hup⟩ := h
  refine ⟨v, p1, c1, rfl, ?_, hE.trans hx (fun _ _ h => h.elim), hm⟩
  have := hM.ext hx (fun h => h) (fun _ _ h => h)
  unfold HeapPure.push
  rw [← hup, hs]
  exact this

theorem less_any (x y : El) (w : World) : Calls Tryz.prog 131 #[.agg #[.int .i64 x.f0, .int .i64 x.f1, .int .i64 x.f2, .int .i64 x.f3, .int .i64 x.f4, .int .i64 x.f5], .agg #[.int .i64 y.f0, .int .i64 y.f1, .int .i64 y.f2, .int .i64 y.f3, .int .i64 y.f4, .int .i64 y.f5]] w fun e w' => e = .returned (.bool (less x y)) ∧ Ext (fun _ => False) w w' := by
  go_enter Tryz.func131, Tryz.ntmps131
  by_cases hr : x.f0 = y.f0
  · have E := Lib.hid (show less x y = decide (x.f1 < y.f1) from if_pos hr)
    have d1 : (x.f0 != y.f0) = false := by simp [hr]
    have d2 : (x.f0 == y.f0) = true := by simp [hr]
    clear hr
    go_wp2
    go_ret
    exact ⟨by rw [E.out]; rfl, ((Ext.refl _ _).alloc _).alloc _⟩
  · have E := Lib.hid (show less x y = decide (x.f0 < y.f0) from if_neg hr)
    have d1 : (x.f0 != y.f0) = true := by simp [hr]
    have d2 : (x.f0 == y.f0) = false := by simp [hr]
    clear hr
    go_wp2
    go_ret
    exact ⟨by rw [E.out]; rfl, ((Ext.refl _ _).alloc _).alloc _⟩

set_option maxHeartbeats 2000000 in
set_option maxRecDepth 100000 in
/-- Push. -/
theorem push_any (W : World) (g : Nat) (p : Option Addr) (c : Nat) (xs : List El) (x : El) (hM : Mem W g p c xs) (hn : xs.length < 1000000000) :
    Calls Tryz.prog 154 #[.pointer (some ⟨g, 0, none⟩), .agg #[.int .i64 x.f0, .int .i64 x.f1, .int .i64 x.f2, .int .i64 x.f3, .int .i64 x.f4, .int .i64 x.f5]] W (PushEnd W g p xs x) := by
  obtain ⟨z1, f1⟩ := hM.cell1
  have g1 := blk_lt hM.blk
  go_enter Tryz.func154, Tryz.ntmps154
  go_upto_region 1 with fail
  have ha1 : Arr (W.alloc (.cells #[.int .i64 x.f0, .int .i64 x.f1, .int .i64 x.f2, .int .i64 x.f3, .int .i64 x.f4, .int .i64 x.f5] 197)) 197 6 p xs.length c (flat xs) := World.ownsRow.alloc hM.row _
  go_cut [] (fun wc => ∃ p1 c1, Mem wc g p1 c1 (xs ++ [x]) ∧ Ext (fun k => k = g ∨ blkOf p = some k) W wc ∧ Moved W p p1)
  case first =>
    go_region_law (first | (refine arr_append1_step (by rfl) (.tmp 10) (.tmp 12) 246 197 6 48 (.agg #[.int .i64 0, .int .i64 0, .int .i64 0, .int .i64 0, .int .i64 0, .int .i64 0]) rfl Tryz.underlying246 infoE rfl (by decide) (by decide) p xs.length c (flat xs) [.int .i64 x.f0, .int .i64 x.f1, .int .i64 x.f2, .int .i64 x.f3, .int .i64 x.f4, .int .i64 x.f5] rfl _ rfl (by simp) rfl (by simp [Value.oneCell']) ha1.drew (by omega) ?_; intro p1 c1 w1 hA1 hx1 hm1; have b1 := hx1.obj (blk_alloc hM.blk (.cells #[.int .i64 x.f0, .int .i64 x.f1, .int .i64 x.f2, .int .i64 x.f3, .int .i64 x.f4, .int .i64 x.f5] 197)) hM.pg; have b1c := blk_cell b1 1; have b1f := blk_frozen b1 1; simp at b1c))
    all_goals go_wp2_with fail
    all_goals go_meet
    all_goals exact ⟨p1, c1, push_first hM ((Ext.refl _ W).alloc _).drew hA1 hx1 hm1⟩
  case rest =>
    obtain ⟨p1, c1, hM1, hx1, hm1⟩ := hcut
    have q1 := hM1.cell1.1
    simp at q1
    have HS : UpSt W wc g p p1 c1 (xs ++ [x]) xs.length xs.length (xs ++ [x]) := ⟨hM1, hx1, hm1, by simp, rfl, rfl⟩
    have HS := Lib.hid HS
    have HN := Lib.hid hn
    clear hM1 hx1 hm1 ha1 g1 f1 z1 hM
    go_wp2_with fail
    go_loopw [4, 5] (fun i _ wr => ∃ k ys, i = .int .i64 (k : Nat) ∧ UpSt W wr g p p1 c1 (xs ++ [x]) xs.length k ys) (fun i _ _ => (intOf i).toNat)
    case atStart => exact ⟨xs.length, xs ++ [x], rfl, HS.out⟩
    case round =>
      obtain ⟨k, ys, rfl, hst⟩ := hrel
      have HST := Lib.hid hst
      obtain ⟨hM2, hx2, hm2, hk, hl, hu⟩ := hst
      obtain ⟨a, rfl⟩ := arr_some hM2.row (by omega)
      have r0 := hM2.cell0
      have r1 := hM2.cell1.1
      have HL := Lib.hid hl
      have kb : k ≤ 1000000000 := by have := HN.out; simp at hl; omega
      clear hu hx2 hl hm2 q1
      by_cases h0 : k = 0
      · subst h0
        go_wp2_with fail
        go_end0
        exact HST.out.stop (Ext.refl _ _) (up_zero _ _) _
      · obtain ⟨u, hu⟩ : ∃ u : Nat, (k - 1) / 2 = u := ⟨_, rfl⟩
        have hu2 : ((k : Int) - 1) / 2 = (u : Int) := by omega
        have hul : u < k := by omega
        have HUU := Lib.hid hu
        clear hu
        obtain ⟨X, hX⟩ : ∃ X, at_ ys k = X := ⟨_, rfl⟩
        obtain ⟨Y, hY⟩ : ∃ Y, at_ ys u = Y := ⟨_, rfl⟩
        obtain ⟨e0, e1, e2, e3, e4, e5, ef0, ef1, ef2, ef3, ef4, ef5⟩ := hM2.elem k hk X hX
        obtain ⟨d0, d1, d2, d3, d4, d5, df0, df1, df2, df3, df4, df5⟩ := hM2.elem u (by omega) Y hY
        have hk2 : k < xs.length + 1 := by have := HL.out; simp at this; omega
        have HXY := Lib.hid (And.intro hX hY)
        clear hX hY
        have i1 : ((k : Nat) : Int) < (ys.length : Int) := by omega
        have i2 : ((u : Nat) : Int) < (ys.length : Int) := by omega
        go_wp2_with fail
        go_still_tail 18, (by kernel_rfl)
        change wpList _ _ _ _ _ wr.drew
        go_wp2_with fail
        refine (less_any X Y _).mono ?_
        rintro e w2 ⟨rfl, hx2⟩
        replace hx2 := hx2.undrew
        have HX3 := Lib.hid hx2
        have hM3 := hM2.ext hx2 (fun h => h) (fun _ _ h => h)
        clear hx2 e0 e1 e2 e3 e4 e5 ef0 ef1 ef2 ef3 ef4 ef5 d0 d1 d2 d3 d4 d5 df0 df1 df2 df3 df4 df5 r0 r1
        have r0 := hM3.cell0
        have r1 := hM3.cell1.1
        cases hlt : less X Y with
        | false =>
          go_wp2_with fail
          go_end0
          exact HST.out.stop HX3.out (up_stop _ _ _ h0 (by rw [HUU.out, HXY.out.1, HXY.out.2]; exact hlt)) _
        | true =>
          obtain ⟨e0, e1, e2, e3, e4, e5, ef0, ef1, ef2, ef3, ef4, ef5⟩ := hM3.elem k hk X HXY.out.1
          obtain ⟨d0, d1, d2, d3, d4, d5, df0, df1, df2, df3, df4, df5⟩ := hM3.elem u (by omega) Y HXY.out.2
          have T := Lib.hid (HST.out.swap h0 HX3.out HUU.out HXY.out.1 HXY.out.2 hlt)
          go_wp2_with fail
          go_region
          go_wp2_with fail
          go_roundw
          case rel => exact ⟨u, _, by go_num, T.out⟩
          case measure => simp [intOf]; omega
end Go.Proofs.YtigpaaelggnffaaGreatDoor.HeapB
