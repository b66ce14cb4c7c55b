/- Merging, pure: the next step, the places that stand, the pairs that are kept. -/
import Derived.Test.YtbepmbihonnkaaaModelPairs
import Derived.Test.YtbepmbihonnkaaaChainPure
import Derived.Test.YtbepmbihonnkaaaElBpe
import Derived.Test.YtbepmbihonnkaaaHeapPure
namespace Go.Proofs.Ytbepmbihonnkaaa.Bpe
open Go.Proofs.Ytbepmbihonnkaaa.Lib Go.Proofs.Ytbepmbihonnkaaa.Sl Go.Proofs.Ytbepmbihonnkaaa.Chain
set_option linter.unusedVariables false
set_option linter.unusedSimpArgs false

/-! ### the merge of two ids -/
/-- The rank of two ids' merge, and what they become. -/
def mergeOf (ms : List Mrg) (l r : Int) : Option (Nat × Int) := (ms.findIdx? fun x => decide (x.l = l) && decide (x.r = r)).bind fun k => (ms[k]?).map fun x => (k, x.i)
theorem mergeOf_some {ms : List Mrg} {l r : Int} {k : Nat} {id : Int} (h : mergeOf ms l r = some (k, id)) : ∃ x : Mrg, ms[k]? = some x ∧ x.l = l ∧ x.r = r ∧ x.i = id ∧ ∀ (j : Nat) (y : Mrg), j < k → ms[j]? = some y → ¬ (y.l = l ∧ y.r = r) := by
  unfold mergeOf at h
  cases e : ms.findIdx? fun x => decide (x.l = l) && decide (x.r = r) with
  | none => rw [e] at h; cases h
  | some j =>
    rw [e, Option.bind_some] at h
    obtain ⟨hj, hp, hno⟩ := List.findIdx?_eq_some_iff_getElem.1 e
    rw [List.getElem?_eq_getElem hj] at h
    simp at h
    obtain ⟨rfl, rfl⟩ := h
    simp at hp
    refine ⟨ms[j], List.getElem?_eq_getElem hj, hp.1, hp.2, rfl, fun i y hi hy hc => ?_⟩
    have := hno i hi
    obtain ⟨hi2, rfl⟩ := List.getElem?_eq_some_iff.1 hy
    simp at this
    exact this hc.1 hc.2
theorem mergeOf_none {ms : List Mrg} {l r : Int} (h : mergeOf ms l r = none) : ∀ (j : Nat) (y : Mrg), ms[j]? = some y → ¬ (y.l = l ∧ y.r = r) := by
  unfold mergeOf at h
  cases e : ms.findIdx? fun x => decide (x.l = l) && decide (x.r = r) with
  | none =>
    intro j y hy hc
    have := List.findIdx?_eq_none_iff.1 e y (List.mem_of_getElem? hy)
    simp [hc] at this
  | some j =>
    rw [e, Option.bind_some] at h
    obtain ⟨hj, _⟩ := List.findIdx?_eq_some_iff_getElem.1 e
    rw [List.getElem?_eq_getElem hj] at h
    cases h
theorem mergeOf_at {ms : List Mrg} {k : Nat} {x : Mrg} (hx : ms[k]? = some x) (hno : ∀ (j : Nat) (y : Mrg), j < k → ms[j]? = some y → ¬ (y.l = x.l ∧ y.r = x.r)) : mergeOf ms x.l x.r = some (k, x.i) := by
  cases e : mergeOf ms x.l x.r with
  | none => exact absurd ⟨rfl, rfl⟩ (mergeOf_none e k x hx)
  | some t =>
    obtain ⟨j, id⟩ := t
    obtain ⟨y, hy, h1, h2, h3, h4⟩ := mergeOf_some e
    rcases Nat.lt_trichotomy j k with h | h | h
    · exact absurd ⟨h1, h2⟩ (hno j y h hy)
    · subst h
      rw [hx] at hy
      cases hy
      rw [h3]
    · exact absurd ⟨rfl, rfl⟩ (h4 k x h hx)

/-! ### the next step -/
def At (ms : List Mrg) (l : List Int) (i r : Nat) (id : Int) : Prop := ∃ a b, l[i]? = some a ∧ l[i + 1]? = some b ∧ mergeOf ms a b = some (r, id)
theorem At.uniq {ms : List Mrg} {l : List Int} {i r r' : Nat} {id id' : Int} (h : At ms l i r id) (h' : At ms l i r' id') : r = r' ∧ id = id' := by
  obtain ⟨a, b, h1, h2, h3⟩ := h
  obtain ⟨a', b', h1', h2', h3'⟩ := h'
  rw [h1] at h1'; rw [h2] at h2'
  cases h1'; cases h2'
  rw [h3] at h3'
  cases h3'
  exact ⟨rfl, rfl⟩
/-- The step that is done next. -/
def IsStep (ms : List Mrg) (l : List Int) (r i : Nat) (id : Int) : Prop := At ms l i r id ∧ ∀ j r' id', At ms l j r' id' → r < r' ∨ (r = r' ∧ i ≤ j)
theorem IsStep.uniq {ms : List Mrg} {l : List Int} {r i r' i' : Nat} {id id' : Int} (h : IsStep ms l r i id) (h' : IsStep ms l r' i' id') : r = r' ∧ i = i' ∧ id = id' := by
  have h1 := h.2 _ _ _ h'.1
  have h2 := h'.2 _ _ _ h.1
  have hr : r = r' := by omega
  have hi : i = i' := by omega
  subst hr hi
  exact ⟨rfl, rfl, (h.1.uniq h'.1).2⟩
/-- One place more is looked at: the best one so far. -/
def better (ms : List Mrg) (l : List Int) (i : Nat) (best : Option (Nat × Nat × Int)) : Option (Nat × Nat × Int) :=
  match l[i]?, l[i + 1]? with
  | some a, some b => match mergeOf ms a b with
    | some (r, id) => match best with
      | none => some (r, i, id)
      | some (r0, i0, id0) => if r < r0 then some (r, i, id) else some (r0, i0, id0)
    | none => best
  | _, _ => best
def nextGo (ms : List Mrg) (l : List Int) : Nat → Option (Nat × Nat × Int)
  | 0 => none
  | i + 1 => better ms l i (nextGo ms l i)
def nextT (ms : List Mrg) (l : List Int) : Option (Nat × Nat × Int) := nextGo ms l (l.length - 1)
theorem better_cases (ms : List Mrg) (l : List Int) (i : Nat) (best : Option (Nat × Nat × Int)) : (better ms l i best = best ∧ ∀ r id, ¬ At ms l i r id) ∨
    ∃ r id, At ms l i r id ∧ ((best = none ∧ better ms l i best = some (r, i, id)) ∨ ∃ r0 i0 id0, best = some (r0, i0, id0) ∧ ((r < r0 ∧ better ms l i best = some (r, i, id)) ∨ (¬ r < r0 ∧ better ms l i best = best))) := by
  unfold better
  cases e1 : l[i]? with
  | none => exact .inl ⟨rfl, fun r id ⟨a, b, h, _⟩ => by rw [e1] at h; cases h⟩
  | some a =>
    cases e2 : l[i + 1]? with
    | none => exact .inl ⟨rfl, fun r id ⟨a, b, _, h, _⟩ => by rw [e2] at h; cases h⟩
    | some b =>
      simp only
      cases e3 : mergeOf ms a b with
      | none => exact .inl ⟨rfl, fun r id ⟨a', b', h1, h2, h3⟩ => by rw [e1] at h1; rw [e2] at h2; cases h1; cases h2; rw [e3] at h3; cases h3⟩
      | some t =>
        obtain ⟨r, id⟩ := t
        refine .inr ⟨r, id, ⟨a, b, e1, e2, e3⟩, ?_⟩
        cases best with
        | none => exact .inl ⟨rfl, rfl⟩
        | some t =>
          obtain ⟨r0, i0, id0⟩ := t
          refine .inr ⟨r0, i0, id0, rfl, ?_⟩
          by_cases h : r < r0
          · exact .inl ⟨h, if_pos h⟩
          · exact .inr ⟨h, if_neg h⟩
theorem nextGo_spec (ms : List Mrg) (l : List Int) : ∀ n, match nextGo ms l n with
    | none => ∀ j r id, j < n → ¬ At ms l j r id
    | some (r, i, id) => i < n ∧ At ms l i r id ∧ ∀ j r' id', j < n → At ms l j r' id' → r < r' ∨ (r = r' ∧ i ≤ j) := by
  intro n
  induction n with
  | zero => intro j r id hj; omega
  | succ n ih =>
    rw [nextGo]
    rcases better_cases ms l n (nextGo ms l n) with ⟨h1, h2⟩ | ⟨r, id, hat, h⟩
    · rw [h1]
      cases e : nextGo ms l n with
      | none =>
        rw [e] at ih
        intro j r id hj hc
        rcases Nat.lt_or_ge j n with hh | hh
        · exact ih j r id hh hc
        · obtain rfl : j = n := by omega
          exact h2 r id hc
      | some t =>
        obtain ⟨r, i, id⟩ := t
        rw [e] at ih
        obtain ⟨a, b, c⟩ := ih
        refine ⟨by omega, b, fun j r' id' hj hc => ?_⟩
        rcases Nat.lt_or_ge j n with hh | hh
        · exact c j r' id' hh hc
        · obtain rfl : j = n := by omega
          exact absurd hc (h2 r' id')
    · rcases h with ⟨hn, hb⟩ | ⟨r0, i0, id0, hn, ⟨hlt, hb⟩ | ⟨hlt, hb⟩⟩
      · rw [hb]
        rw [hn] at ih
        refine ⟨by omega, hat, fun j r' id' hj hc => ?_⟩
        rcases Nat.lt_or_ge j n with hh | hh
        · exact absurd hc (ih j r' id' hh)
        · obtain rfl : j = n := by omega
          have := hat.uniq hc
          omega
      · rw [hb]
        rw [hn] at ih
        obtain ⟨a, b, c⟩ := ih
        refine ⟨by omega, hat, fun j r' id' hj hc => ?_⟩
        rcases Nat.lt_or_ge j n with hh | hh
        · have := c j r' id' hh hc
          omega
        · obtain rfl : j = n := by omega
          have := hat.uniq hc
          omega
      · rw [hb, hn]
        rw [hn] at ih
        obtain ⟨a, b, c⟩ := ih
        refine ⟨by omega, b, fun j r' id' hj hc => ?_⟩
        rcases Nat.lt_or_ge j n with hh | hh
        · exact c j r' id' hh hc
        · obtain rfl : j = n := by omega
          have := hat.uniq hc
          omega
theorem At.lt {ms : List Mrg} {l : List Int} {i r : Nat} {id : Int} (h : At ms l i r id) : i < l.length - 1 := by
  obtain ⟨a, b, _, h2, _⟩ := h
  have := (List.getElem?_eq_some_iff.1 h2).1
  omega
theorem nextT_none {ms : List Mrg} {l : List Int} (h : nextT ms l = none) : ∀ j r id, ¬ At ms l j r id := fun j r id hc => by
  have := nextGo_spec ms l (l.length - 1)
  unfold nextT at h
  rw [h] at this
  exact this j r id hc.lt hc
theorem nextT_some {ms : List Mrg} {l : List Int} {r i : Nat} {id : Int} (h : nextT ms l = some (r, i, id)) : IsStep ms l r i id := by
  have := nextGo_spec ms l (l.length - 1)
  unfold nextT at h
  rw [h] at this
  exact ⟨this.2.1, fun j r' id' hc => this.2.2 j r' id' hc.lt hc⟩
theorem nextT_is {ms : List Mrg} {l : List Int} {r i : Nat} {id : Int} (h : IsStep ms l r i id) : nextT ms l = some (r, i, id) := by
  cases e : nextT ms l with
  | none => exact absurd h.1 (nextT_none e _ _ _)
  | some t =>
    obtain ⟨r', i', id'⟩ := t
    obtain ⟨rfl, rfl, rfl⟩ := h.uniq (nextT_some e)
    rfl
theorem nextT_no {ms : List Mrg} {l : List Int} (h : ∀ j r id, ¬ At ms l j r id) : nextT ms l = none := by
  cases e : nextT ms l with
  | none => rfl
  | some t =>
    obtain ⟨r', i', id'⟩ := t
    exact absurd (nextT_some e).1 (h _ _ _)
/-- A step done. -/
def stepT (l : List Int) (i : Nat) (id : Int) : List Int := (l.set i id).eraseIdx (i + 1)
def joinG (ms : List Mrg) : Nat → List Int → List Int × List (Nat × Nat)
  | 0, l => (l, [])
  | f + 1, l => match nextT ms l with
    | none => (l, [])
    | some (r, i, id) => ((joinG ms f (stepT l i id)).1, (r, i) :: (joinG ms f (stepT l i id)).2)
def joinT (ms : List Mrg) (l : List Int) : List Int × List (Nat × Nat) := joinG ms l.length l
theorem stepT_length {l : List Int} {i : Nat} {id : Int} (h : i + 1 < l.length) : (stepT l i id).length + 1 = l.length := by
  unfold stepT
  rw [List.length_eraseIdx, if_pos (by rw [List.length_set]; exact h), List.length_set]
  omega
theorem joinG_more (ms : List Mrg) : ∀ f l, l.length ≤ f → joinG ms f l = joinT ms l := by
  have key : ∀ f g l, l.length ≤ f → l.length ≤ g → joinG ms f l = joinG ms g l := by
    intro f
    induction f with
    | zero =>
      intro g l hf hg
      have : l = [] := List.length_eq_zero_iff.1 (by omega)
      subst this
      cases g with
      | zero => rfl
      | succ g => rfl
    | succ f ih =>
      intro g l hf hg
      cases g with
      | zero =>
        have : l = [] := List.length_eq_zero_iff.1 (by omega)
        subst this
        rfl
      | succ g =>
        rw [joinG, joinG]
        cases e : nextT ms l with
        | none => rfl
        | some t =>
          obtain ⟨r, i, id⟩ := t
          have h1 := (nextT_some e).1.lt
          have h2 := stepT_length (l := l) (i := i) (id := id) (by omega)
          simp only
          rw [ih g _ (by omega) (by omega)]
  intro f l h
  exact key f _ l h (Nat.le_refl _)
theorem joinT_none {ms : List Mrg} {l : List Int} (h : nextT ms l = none) : joinT ms l = (l, []) := by
  unfold joinT
  cases e : l.length with
  | zero => rfl
  | succ n => rw [joinG, h]
theorem joinT_some {ms : List Mrg} {l : List Int} {r i : Nat} {id : Int} (h : nextT ms l = some (r, i, id)) : joinT ms l = ((joinT ms (stepT l i id)).1, (r, i) :: (joinT ms (stepT l i id)).2) := by
  have h1 := (nextT_some h).1.lt
  have h2 := stepT_length (l := l) (i := i) (id := id) (by omega)
  unfold joinT
  cases e : l.length with
  | zero => omega
  | succ n =>
    rw [joinG, h]
    simp only
    rw [joinG_more ms n _ (by omega)]
    rfl
end Go.Proofs.Ytbepmbihonnkaaa.Bpe
