/- Merged of ChainPure, Chain, ChainAll, ChainAllT, Items. -/
import Derived.KernelRfl
import Derived.Test.YtigpaaelggnffaaGreatDoorSpanPure
import Derived.Test.YtigpaaelggnffaaGreatDoorProg
import Derived.RangeFuncKeeps
import Derived.RangeFuncLeaves
import Derived.Shelf.Abstract
import Derived.WalkKit
import Derived.OwnWalkIn
import Derived.TacticsInMore
import Derived.LoopNIn
import Derived.LoopIn
import Derived.RangeFuncFrom
import Derived.RangeFuncBox
import Derived.Test.YtigpaaelggnffaaGreatDoorShelf
import Derived.Test.YtigpaaelggnffaaGreatDoorCutP
/- chain: plain laws on the rows of a chain (no program). -/
namespace Go.Proofs.YtigpaaelggnffaaGreatDoor.Chain
set_option linter.unusedVariables false
set_option linter.unusedSimpArgs false

/-- r is the least number above i that stands there, or -1. -/
def IsNext (n : Nat) (al : Nat → Bool) (i r : Int) : Prop :=
  (r = -1 ∧ ∀ j : Nat, i < j → j < n → al j = false) ∨ (∃ j : Nat, r = j ∧ i < j ∧ j < n ∧ al j = true ∧ ∀ k : Nat, i < k → k < j → al k = false)
/-- r is the greatest number below i that stands there, or -1. -/
def IsPrev (al : Nat → Bool) (i r : Int) : Prop :=
  (r = -1 ∧ ∀ j : Nat, (j : Int) < i → al j = false) ∨ (∃ j : Nat, r = j ∧ (j : Int) < i ∧ al j = true ∧ ∀ k : Nat, j < k → (k : Int) < i → al k = false)

theorem IsNext.uniq {n : Nat} {al : Nat → Bool} {i r s : Int} (h : IsNext n al i r) (k : IsNext n al i s) : r = s := by
  rcases h with ⟨rfl, h⟩ | ⟨j, rfl, h1, h2, h3, h4⟩ <;> rcases k with ⟨rfl, k⟩ | ⟨l, rfl, k1, k2, k3, k4⟩
  · rfl
  · rw [h l k1 k2] at k3; cases k3
  · rw [k j h1 h2] at h3; cases h3
  · rcases Nat.lt_trichotomy j l with x | x | x
    · rw [k4 j h1 x] at h3; cases h3
    · rw [x]
    · rw [h4 l k1 x] at k3; cases k3
theorem IsPrev.uniq {al : Nat → Bool} {i r s : Int} (h : IsPrev al i r) (k : IsPrev al i s) : r = s := by
  rcases h with ⟨rfl, h⟩ | ⟨j, rfl, h1, h2, h4⟩ <;> rcases k with ⟨rfl, k⟩ | ⟨l, rfl, k1, k2, k4⟩
  · rfl
  · rw [h l k1] at k2; cases k2
  · rw [k j h1] at h2; cases h2
  · rcases Nat.lt_trichotomy j l with x | x | x
    · rw [h4 l x k1] at k2; cases k2
    · rw [x]
    · rw [k4 j x h1] at h2; cases h2

def nextOf (n : Nat) (al : Nat → Bool) (i : Int) : Int :=
  match (List.range n).find? (fun (j : Nat) => decide (i < (j : Int)) && al j) with
  | some j => j
  | none => -1
def prevOf (al : Nat → Bool) (i : Int) : Int :=
  match (List.range i.toNat).reverse.find? al with
  | some j => j
  | none => -1

theorem find_range (n : Nat) (p : Nat → Bool) : ((List.range n).find? p = none ∧ ∀ j, j < n → p j = false) ∨ ∃ j, (List.range n).find? p = some j ∧ j < n ∧ p j = true ∧ ∀ k, k < j → p k = false := by
  induction n with
  | zero => exact .inl ⟨rfl, fun j h => absurd h (Nat.not_lt_zero _)⟩
  | succ n ih =>
    rw [List.range_succ, List.find?_append]
    rcases ih with ⟨h, h'⟩ | ⟨j, h, h1, h2, h3⟩
    · rw [h]
      cases hp : p n with
      | true => exact .inr ⟨n, by simp [hp], by omega, hp, h'⟩
      | false =>
        refine .inl ⟨by simp [hp], fun j hj => ?_⟩
        rcases Nat.lt_or_ge j n with x | x
        · exact h' j x
        · rw [show j = n from by omega]; exact hp
    · rw [h]
      exact .inr ⟨j, rfl, by omega, h2, h3⟩
theorem find_range_rev (n : Nat) (p : Nat → Bool) : ((List.range n).reverse.find? p = none ∧ ∀ j, j < n → p j = false) ∨ ∃ j, (List.range n).reverse.find? p = some j ∧ j < n ∧ p j = true ∧ ∀ k, j < k → k < n → p k = false := by
  induction n with
  | zero => exact .inl ⟨rfl, fun j h => absurd h (Nat.not_lt_zero _)⟩
  | succ n ih =>
    rw [List.range_succ, List.reverse_append, List.reverse_singleton, List.singleton_append, List.find?_cons]
    cases hp : p n with
    | true => exact .inr ⟨n, rfl, by omega, hp, fun k h1 h2 => by omega⟩
    | false =>
      rcases ih with ⟨h, h'⟩ | ⟨j, h, h1, h2, h3⟩
      · refine .inl ⟨h, fun j hj => ?_⟩
        rcases Nat.lt_or_ge j n with x | x
        · exact h' j x
        · rw [show j = n from by omega]; exact hp
      · refine .inr ⟨j, h, by omega, h2, fun k k1 k2 => ?_⟩
        rcases Nat.lt_or_ge k n with x | x
        · exact h3 k k1 x
        · rw [show k = n from by omega]; exact hp

theorem nextOf_is (n : Nat) (al : Nat → Bool) (i : Int) : IsNext n al i (nextOf n al i) := by
  unfold nextOf
  rcases find_range n (fun (j : Nat) => decide (i < (j : Int)) && al j) with ⟨h, h'⟩ | ⟨j, h, h1, h2, h3⟩
  · rw [h]
    refine .inl ⟨rfl, fun j hi hj => ?_⟩
    have := h' j hj
    simpa [hi] using this
  · rw [h]
    simp only [Bool.and_eq_true, decide_eq_true_eq] at h2
    refine .inr ⟨j, rfl, h2.1, h1, h2.2, fun k hk hk' => ?_⟩
    have := h3 k hk'
    simpa [hk] using this
theorem prevOf_is (al : Nat → Bool) (i : Int) : IsPrev al i (prevOf al i) := by
  unfold prevOf
  rcases find_range_rev i.toNat al with ⟨h, h'⟩ | ⟨j, h, h1, h2, h3⟩
  · rw [h]; exact .inl ⟨rfl, fun j hj => h' j (by omega)⟩
  · rw [h]; exact .inr ⟨j, rfl, by omega, h2, fun k hk hk' => h3 k hk (by omega)⟩

def inAl (al : Nat → Bool) (i : Int) : Bool := decide (0 ≤ i) && al i.toNat
def cnt (al : Nat → Bool) (n : Nat) : Nat := ((List.range n).filter al).length
def cutAl (al : Nat → Bool) (i : Nat) : Nat → Bool := fun j => al j && j != i

theorem cnt_succ (al : Nat → Bool) (n : Nat) : cnt al (n + 1) = cnt al n + (if al n then 1 else 0) := by
  unfold cnt
  rw [List.range_succ, List.filter_append, List.length_append]
  cases h : al n <;> simp [h]
theorem cnt_cut (al : Nat → Bool) (i : Nat) (ha : al i = true) (n : Nat) : cnt (cutAl al i) n + (if i < n then 1 else 0) = cnt al n := by
  induction n with
  | zero => simp [cnt]
  | succ n ih =>
    rw [cnt_succ, cnt_succ]
    rcases Nat.lt_trichotomy i n with x | x | x
    · rw [if_pos x] at ih
      rw [if_pos (show i < n + 1 by omega)]
      have : cutAl al i n = al n := by simp [cutAl]; omega
      rw [this]; omega
    · subst x
      rw [if_neg (Nat.lt_irrefl _)] at ih
      have : cutAl al i i = false := by simp [cutAl]
      rw [this, ha]; simp; omega
    · rw [if_neg (by omega)] at ih
      rw [if_neg (show ¬ i < n + 1 by omega)]
      have : cutAl al i n = al n := by simp [cutAl]; omega
      rw [this]; omega
theorem cnt_le (al : Nat → Bool) (n : Nat) : cnt al n ≤ n := by
  unfold cnt; have := List.length_filter_le al (List.range n); simpa using this
theorem cnt_pos (al : Nat → Bool) (n i : Nat) (h : i < n) (ha : al i = true) : 0 < cnt al n := by
  unfold cnt
  exact List.length_pos_of_mem (List.mem_filter.2 ⟨List.mem_range.2 h, ha⟩)

/-- The rows of a chain. -/
structure CInv (n : Nat) (al : Nat → Bool) (nx pv : List Int) (first len : Int) : Prop where
  nxl : nx.length = n
  pvl : pv.length = n
  out : ∀ i, n ≤ i → al i = false
  dead : ∀ i : Nat, i < n → al i = false → nx[i]? = some (i : Int) ∧ pv[i]? = some (i : Int)
  next : ∀ i : Nat, i < n → al i = true → nx[i]? = some (nextOf n al i)
  prev : ∀ i : Nat, i < n → al i = true → pv[i]? = some (prevOf al i)
  first : first = nextOf n al (-1)
  len : len = cnt al n

theorem IsNext.range {n : Nat} {al : Nat → Bool} {i r : Int} (h : IsNext n al i r) (hi : -1 ≤ i) : r = -1 ∨ (i < r ∧ r < n ∧ 0 ≤ r ∧ al r.toNat = true) := by
  rcases h with ⟨rfl, h⟩ | ⟨j, rfl, h1, h2, h3, h4⟩
  · exact .inl rfl
  · exact .inr ⟨h1, by omega, by omega, by simpa using h3⟩
theorem IsPrev.range {al : Nat → Bool} {i r : Int} (h : IsPrev al i r) : r = -1 ∨ (r < i ∧ 0 ≤ r ∧ al r.toNat = true) := by
  rcases h with ⟨rfl, h⟩ | ⟨j, rfl, h1, h2, h4⟩
  · exact .inl rfl
  · exact .inr ⟨h1, by omega, by simpa using h2⟩

theorem cutAl_ne {al : Nat → Bool} {i j : Nat} (h : j ≠ i) : cutAl al i j = al j := by simp [cutAl, h]
theorem cutAl_self {al : Nat → Bool} {i : Nat} : cutAl al i i = false := by simp [cutAl]
theorem cutAl_le {al : Nat → Bool} {i j : Nat} (h : al j = false) : cutAl al i j = false := by simp [cutAl, h]

/-- Cutting i out: the next of another number. -/
theorem next_cut {n : Nat} {al : Nat → Bool} {i : Nat} {j r q : Int} (hi : i < n) (ha : al i = true) (h : IsNext n al j r) (hq : IsNext n al i q) : IsNext n (cutAl al i) j (if r = i then q else r) := by
  split
  · rename_i e
    subst e
    rcases h with ⟨h0, _⟩ | ⟨k, hk, h1, h2, h3, h4⟩
    · omega
    · have : k = i := by omega
      subst this
      rcases hq with ⟨rfl, h⟩ | ⟨l, rfl, g1, g2, g3, g4⟩
      · refine .inl ⟨rfl, fun x hx hx' => ?_⟩
        rcases Nat.lt_trichotomy x k with y | y | y
        · exact cutAl_le (h4 x hx y)
        · rw [y]; exact cutAl_self
        · exact cutAl_le (h x (by omega) hx')
      · refine .inr ⟨l, rfl, by omega, g2, by rw [cutAl_ne (by omega)]; exact g3, fun x hx hx' => ?_⟩
        rcases Nat.lt_trichotomy x k with y | y | y
        · exact cutAl_le (h4 x hx y)
        · rw [y]; exact cutAl_self
        · exact cutAl_le (g4 x (by omega) hx')
  · rename_i e
    rcases h with ⟨rfl, h⟩ | ⟨k, rfl, h1, h2, h3, h4⟩
    · exact .inl ⟨rfl, fun x hx hx' => cutAl_le (h x hx hx')⟩
    · exact .inr ⟨k, rfl, h1, h2, by rw [cutAl_ne (by omega)]; exact h3, fun x hx hx' => cutAl_le (h4 x hx hx')⟩
theorem prev_cut {al : Nat → Bool} {i : Nat} {j r p : Int} (ha : al i = true) (h : IsPrev al j r) (hp : IsPrev al i p) : IsPrev (cutAl al i) j (if r = i then p else r) := by
  split
  · rename_i e
    subst e
    rcases h with ⟨h0, _⟩ | ⟨k, hk, h1, h3, h4⟩
    · omega
    · have : k = i := by omega
      subst this
      rcases hp with ⟨rfl, h⟩ | ⟨l, rfl, g1, g3, g4⟩
      · refine .inl ⟨rfl, fun x hx => ?_⟩
        rcases Nat.lt_trichotomy x k with y | y | y
        · exact cutAl_le (h x (by omega))
        · rw [y]; exact cutAl_self
        · exact cutAl_le (h4 x y hx)
      · refine .inr ⟨l, rfl, by omega, by rw [cutAl_ne (by omega)]; exact g3, fun x hx hx' => ?_⟩
        rcases Nat.lt_trichotomy x k with y | y | y
        · exact cutAl_le (g4 x hx (by omega))
        · rw [y]; exact cutAl_self
        · exact cutAl_le (h4 x y hx')
  · rename_i e
    rcases h with ⟨rfl, h⟩ | ⟨k, rfl, h1, h3, h4⟩
    · exact .inl ⟨rfl, fun x hx => cutAl_le (h x hx)⟩
    · exact .inr ⟨k, rfl, h1, by rw [cutAl_ne (by omega)]; exact h3, fun x hx hx' => cutAl_le (h4 x hx hx')⟩

/-- The number ahead of i is the one whose next is i. -/
theorem next_is_prev {n : Nat} {al : Nat → Bool} {i j : Nat} (ha : al i = true) (hi : i < n) (hj : al j = true) : nextOf n al j = i ↔ prevOf al i = j := by
  constructor
  · intro e
    have h := nextOf_is n al j
    rw [e] at h
    refine (prevOf_is al i).uniq (.inr ⟨j, rfl, ?_, hj, fun k hk hk' => ?_⟩)
    all_goals rcases h with ⟨h0, _⟩ | ⟨k', hk'', h1, h2, h3, h4⟩
    · omega
    · omega
    · omega
    · exact h4 k (by omega) (by omega)
  · intro e
    have h := prevOf_is al i
    rw [e] at h
    refine (nextOf_is n al j).uniq (.inr ⟨i, rfl, ?_, hi, ha, fun k hk hk' => ?_⟩)
    all_goals rcases h with ⟨h0, _⟩ | ⟨k', hk'', h1, h2, h4⟩
    · omega
    · omega
    · omega
    · exact h4 k (by omega) (by omega)

def cutNx (nx : List Int) (i : Nat) (p q : Int) : List Int := (if p = -1 then nx else nx.set p.toNat q).set i i
def cutPv (pv : List Int) (i : Nat) (p q : Int) : List Int := (if q = -1 then pv else pv.set q.toNat p).set i i

theorem CInv.cut {n : Nat} {al : Nat → Bool} {nx pv : List Int} {first len : Int} (h : CInv n al nx pv first len) {i : Nat} (hi : i < n) (ha : al i = true) :
    CInv n (cutAl al i) (cutNx nx i (prevOf al i) (nextOf n al i)) (cutPv pv i (prevOf al i) (nextOf n al i)) (if prevOf al i = -1 then nextOf n al i else first) (len - 1) := by
  have hN := nextOf_is n al i
  have hP := prevOf_is al i
  have rN := hN.range (by omega)
  have rP := hP.range
  have nl : (cutNx nx i (prevOf al i) (nextOf n al i)).length = n := by unfold cutNx; rw [List.length_set]; split <;> simp [h.nxl]
  have pl : (cutPv pv i (prevOf al i) (nextOf n al i)).length = n := by unfold cutPv; rw [List.length_set]; split <;> simp [h.pvl]
  -- what stands at another place j
  have nj : ∀ j : Nat, j ≠ i → (cutNx nx i (prevOf al i) (nextOf n al i))[j]? = if prevOf al i = j then (nx.set j (nextOf n al i))[j]? else nx[j]? := by
    intro j hj
    unfold cutNx
    rw [List.getElem?_set_ne (by omega)]
    split
    · rw [if_neg (by omega)]
    · by_cases e : prevOf al i = j
      · rw [if_pos e, e]; simp
      · rw [if_neg e, List.getElem?_set_ne (by omega)]
  have pj : ∀ j : Nat, j ≠ i → (cutPv pv i (prevOf al i) (nextOf n al i))[j]? = if nextOf n al i = j then (pv.set j (prevOf al i))[j]? else pv[j]? := by
    intro j hj
    unfold cutPv
    rw [List.getElem?_set_ne (by omega)]
    split
    · rw [if_neg (by omega)]
    · by_cases e : nextOf n al i = j
      · rw [if_pos e, e]; simp
      · rw [if_neg e, List.getElem?_set_ne (by omega)]
  refine ⟨nl, pl, fun j hj => cutAl_le (h.out j hj), fun j hj hd => ?_, fun j hj hd => ?_, fun j hj hd => ?_, ?_, ?_⟩
  · by_cases e : j = i
    · subst e
      have l1 : (if prevOf al j = -1 then nx else nx.set (prevOf al j).toNat (nextOf n al j)).length = n := by split <;> simp [h.nxl]
      have l2 : (if nextOf n al j = -1 then pv else pv.set (nextOf n al j).toNat (prevOf al j)).length = n := by split <;> simp [h.pvl]
      exact ⟨by unfold cutNx; rw [List.getElem?_set_self (by omega)], by unfold cutPv; rw [List.getElem?_set_self (by omega)]⟩
    · rw [cutAl_ne e] at hd
      have hdj := h.dead j hj hd
      rw [nj j e, pj j e]
      have e1 : ¬ prevOf al i = j := fun x => by
        rcases rP with y | ⟨_, _, y⟩
        · omega
        · rw [x] at y; simp [hd] at y
      have e2 : ¬ nextOf n al i = j := fun x => by
        rcases rN with y | ⟨_, _, _, y⟩
        · omega
        · rw [x] at y; simp [hd] at y
      rw [if_neg e1, if_neg e2]
      exact hdj
  · have e : j ≠ i := fun e => by rw [e, cutAl_self] at hd; cases hd
    rw [cutAl_ne e] at hd
    have hx := (nextOf_is n (cutAl al i) j).uniq (next_cut hi ha (nextOf_is n al j) hN)
    rw [nj j e, hx]
    by_cases e1 : prevOf al i = j
    · rw [if_pos e1, if_pos ((next_is_prev ha hi hd).2 e1), List.getElem?_set_self (by rw [h.nxl]; exact hj)]
    · rw [if_neg e1, if_neg (fun x => e1 ((next_is_prev ha hi hd).1 x))]
      exact h.next j hj hd
  · have e : j ≠ i := fun e => by rw [e, cutAl_self] at hd; cases hd
    rw [cutAl_ne e] at hd
    have hx := (prevOf_is (cutAl al i) j).uniq (prev_cut ha (prevOf_is al j) hP)
    rw [pj j e, hx]
    by_cases e1 : nextOf n al i = j
    · rw [if_pos e1, if_pos ((next_is_prev hd hj ha).1 e1), List.getElem?_set_self (by rw [h.pvl]; exact hj)]
    · rw [if_neg e1, if_neg (fun x => e1 ((next_is_prev hd hj ha).2 x))]
      exact h.prev j hj hd
  · have hx := (nextOf_is n (cutAl al i) (-1)).uniq (next_cut hi ha (nextOf_is n al (-1)) hN)
    rw [hx, ← h.first]
    have : prevOf al i = -1 ↔ first = i := by
      have hf := nextOf_is n al (-1)
      rw [← h.first] at hf
      constructor
      · intro e
        rw [e] at hP
        refine hf.uniq (.inr ⟨i, rfl, by omega, hi, ha, fun k _ hk => ?_⟩)
        rcases hP with ⟨_, y⟩ | ⟨j, y, _⟩
        · exact y k (by omega)
        · omega
      · intro e
        rw [e] at hf
        refine hP.uniq (.inl ⟨rfl, fun j hj => ?_⟩)
        rcases hf with ⟨y, _⟩ | ⟨k, y, _, _, _, z⟩
        · omega
        · exact z j (by omega) (by omega)
    by_cases e : prevOf al i = -1
    · rw [if_pos e, if_pos (this.1 e)]
    · rw [if_neg e, if_neg (fun x => e (this.2 x))]
  · rw [h.len]
    have := cnt_cut al i ha n
    rw [if_pos hi] at this
    omega

/-- All of them stand there. -/
def allAl (n : Nat) : Nat → Bool := fun i => decide (i < n)
def upFrom (k : Nat) (d : Int) : List Int := (List.range k).map fun (i : Nat) => (i : Int) + d
theorem upFrom_succ (k : Nat) (d : Int) : upFrom (k + 1) d = upFrom k d ++ [(k : Int) + d] := by simp [upFrom, List.range_succ]
theorem upFrom_length (k : Nat) (d : Int) : (upFrom k d).length = k := by simp [upFrom]
theorem upFrom_get (k : Nat) (d : Int) (i : Nat) (h : i < k) : (upFrom k d)[i]? = some ((i : Int) + d) := by simp [upFrom, h]
theorem next_all (n i : Nat) (h : i < n) : nextOf n (allAl n) i = if i + 1 = n then (-1 : Int) else (i : Int) + 1 := by
  refine (nextOf_is _ _ _).uniq ?_
  split
  · exact .inl ⟨rfl, fun j h1 h2 => by omega⟩
  · exact .inr ⟨i + 1, by omega, by omega, by omega, by simp [allAl]; omega, fun k h1 h2 => by omega⟩
theorem prev_all (n i : Nat) (h : i < n) : prevOf (allAl n) i = (i : Int) - 1 := by
  refine (prevOf_is _ _).uniq ?_
  by_cases e : i = 0
  · exact .inl ⟨by omega, fun j h1 => by omega⟩
  · exact .inr ⟨i - 1, by omega, by omega, by simp [allAl]; omega, fun k h1 h2 => by omega⟩
theorem cnt_all (n m : Nat) (h : m ≤ n) : cnt (allAl n) m = m := by
  induction m with
  | zero => rfl
  | succ m ih => rw [cnt_succ, ih (by omega)]; simp [allAl]; omega
theorem CInv.new (n : Nat) : CInv n (allAl n) (if n = 0 then [] else (upFrom n 1).set (n - 1) (-1)) (upFrom n (-1)) (if n = 0 then -1 else 0) n := by
  refine ⟨?_, upFrom_length _ _, fun i hi => by simp [allAl]; omega, fun i hi hd => by simp [allAl] at hd; omega, fun i hi _ => ?_, fun i hi _ => ?_, ?_, ?_⟩
  · split
    · subst_vars; rfl
    · simp [upFrom_length]
  · rw [if_neg (by omega), next_all n i hi]
    by_cases e : i + 1 = n
    · rw [if_pos e, show n - 1 = i from by omega, List.getElem?_set_self (by rw [upFrom_length]; exact hi)]
    · rw [if_neg e, List.getElem?_set_ne (by omega), upFrom_get n 1 i hi]
  · rw [upFrom_get n (-1) i hi, prev_all n i hi]; rfl
  · refine IsNext.uniq ?_ (nextOf_is n (allAl n) (-1))
    split
    · exact .inl ⟨rfl, fun j h1 h2 => by omega⟩
    · exact .inr ⟨0, rfl, by omega, by omega, by simp [allAl]; omega, fun k h1 h2 => by omega⟩
  · rw [cnt_all n n (Nat.le_refl _)]

/-- Behind a cut of k: the neighbours are side by side. -/
theorem cut_next {n : Nat} {al : Nat → Bool} {k : Nat} (hk : k < n) (ha : al k = true) (h0 : 0 ≤ prevOf al k) : (if inAl (cutAl al k) (prevOf al k) then nextOf n (cutAl al k) (prevOf al k) else -1) = nextOf n al k := by
  rcases (prevOf_is al k).range with h | ⟨h1, _, h2⟩
  · omega
  obtain ⟨a, hA⟩ := Int.eq_ofNat_of_zero_le h0
  rw [hA] at h1 h2 ⊢
  have h2' : al a = true := by simpa using h2
  have hn := (next_is_prev (n := n) ha hk h2').2 hA
  have hin : inAl (cutAl al k) a = true := by simp [inAl, cutAl, h2']; omega
  rw [if_pos hin]
  have := next_cut hk ha (nextOf_is n al a) (nextOf_is n al k)
  rw [if_pos hn] at this
  exact (nextOf_is _ _ _).uniq this
theorem cut_prev {n : Nat} {al : Nat → Bool} {k : Nat} (ha : al k = true) (h0 : 0 ≤ nextOf n al k) : (if inAl (cutAl al k) (nextOf n al k) then prevOf (cutAl al k) (nextOf n al k) else -1) = prevOf al k := by
  rcases (nextOf_is n al k).range (by omega) with h | ⟨h1, h3, _, h2⟩
  · omega
  obtain ⟨b, hB⟩ := Int.eq_ofNat_of_zero_le h0
  rw [hB] at h1 h2 h3 ⊢
  have h2' : al b = true := by simpa using h2
  have hp := (next_is_prev (n := n) h2' (by omega) ha).1 hB
  have hin : inAl (cutAl al k) b = true := by simp [inAl, cutAl, h2']; omega
  rw [if_pos hin]
  have := prev_cut ha (prevOf_is al b) (prevOf_is al k)
  rw [if_pos hp] at this
  exact (prevOf_is _ _).uniq this
end Go.Proofs.YtigpaaelggnffaaGreatDoor.Chain

/- chain: contracts of New, Has, Next, Prev, Len, Cut over the rows. -/
namespace Go.Proofs.YtigpaaelggnffaaGreatDoor.Chain
open Go.RowKit Go.Proofs.YtigpaaelggnffaaGreatDoor.Lib
set_option linter.unusedVariables false
set_option linter.unusedSimpArgs false

/-- The block of a Chain: p, q its rows' addresses. -/
def CB (w : World) (g : Nat) (n : Nat) (p : Option Addr) (c : Nat) (q : Option Addr) (d : Nat) (first len : Int) : Prop :=
  w.heap[g]? = some (.cells #[.slice p n c, .slice q n d, .int .i64 first, .int .i64 len] 245 (0, 0))

def ints (xs : List Int) : List Value := xs.map (Value.int .i64)

theorem info3 : (Tryz.prog.info? 3).map (fun i => (i.zero, i.size, i.bytes)) = some (some (.int .i64 0), 1, 8) := by kernel_rfl

theorem ints_append (xs ys : List Int) : ints (xs ++ ys) = ints xs ++ ints ys := by simp [ints]

/-- A chain's memory at g: the rows p, q; nx, pv what they hold. -/
structure Mem (w : World) (g : Nat) (n : Nat) (p : Option Addr) (c : Nat) (q : Option Addr) (d : Nat) (nx pv : List Int) (first len : Int) : Prop where
  blk : CB w g n p c q d first len
  nx : Arr w 3 1 p n c (ints nx)
  pv : Arr w 3 1 q n d (ints pv)
  pg : blkOf p ≠ some g
  qg : blkOf q ≠ some g
  pq : ∀ k, blkOf p = some k → blkOf q ≠ some k

/-- The loop's state. -/
def NewSt (W w : World) (N k : Nat) : Prop := ∃ p c q d, Mem w W.heap.size k p c q d (upFrom k 1) (upFrom k (-1)) (-1) N ∧ (∀ b, blkOf p = some b → W.heap.size ≤ b) ∧ (∀ b, blkOf q = some b → W.heap.size ≤ b) ∧ Ext (fun _ => False) W w


/-- Behind the first append and its store. -/
theorem new_first {W wr w1 : World} {N k : Nat} {p q p1 : Option Addr} {c d c1 : Nat} (hM : Mem wr W.heap.size k p c q d (upFrom k 1) (upFrom k (-1)) (-1) N)
    (hp : ∀ b, blkOf p = some b → W.heap.size ≤ b) (hq : ∀ b, blkOf q = some b → W.heap.size ≤ b) (hx : Ext (fun _ => False) W wr)
    (hA1 : Arr w1 3 1 p1 (k + 1) c1 (ints (upFrom k 1) ++ [Value.int IntKind.i64 (↑k + 1)])) (hx1 : Ext (fun k => blkOf p = some k) wr w1) (hm1 : Moved wr p p1) :
    w1.heap[W.heap.size]? = some (.cells #[.slice p k c, .slice q k d, .int .i64 (-1), .int .i64 N] 245 (0, 0)) ∧
    (w1.setCell ⟨W.heap.size, 0, none⟩ (.slice p1 (k + 1) c1)).heap[W.heap.size]? = some (.cells #[.slice p1 (k + 1) c1, .slice q k d, .int .i64 (-1), .int .i64 N] 245 (0, 0)) ∧
    Arr (w1.setCell ⟨W.heap.size, 0, none⟩ (.slice p1 (k + 1) c1)) 3 1 p1 (k + 1) c1 (ints (upFrom (k + 1) 1)) ∧ Arr (w1.setCell ⟨W.heap.size, 0, none⟩ (.slice p1 (k + 1) c1)) 3 1 q k d (ints (upFrom k (-1))) ∧
    blkOf p1 ≠ some W.heap.size ∧ (∀ b, blkOf p1 = some b → W.heap.size ≤ b) ∧ (∀ b, blkOf p1 = some b → blkOf q ≠ some b) ∧ Ext (fun _ => False) W (w1.setCell ⟨W.heap.size, 0, none⟩ (.slice p1 (k + 1) c1)) := by
  have hb1 := hx1.obj hM.blk hM.pg
  have hlt := blk_lt hM.blk
  have e1 : blkOf p1 ≠ some W.heap.size := fun e => (hm1 _ e).elim hM.pg (fun h => by omega)
  have hA2 : Arr w1 3 1 p1 (k + 1) c1 (ints (upFrom (k + 1) 1)) := by rw [upFrom_succ, ints_append]; exact hA1
  refine ⟨hb1, ?_, arr_far hA2 e1 _, arr_far (arr_ext hM.pv hx1 (fun b hb e => hM.pq b e hb)) hM.qg _, e1, fun b hb => ?_, fun b hb e => ?_, ?_⟩
  · have := blk_set hb1 0 (.slice p1 (k + 1) c1)
    simpa using this
  · rcases hm1 b hb with h | h
    · exact hp b h
    · have := hx.size; omega
  · rcases hm1 b hb with h | h
    · exact hM.pq b h e
    · have := arr_lt hM.pv e; omega
  · exact (hx.trans hx1 (fun i hi e => by have := hp i e; omega)).setCell (fun h => by simp at h) _

theorem new_second {W wr w2 : World} {N k : Nat} {p q q1 : Option Addr} {c d d1 : Nat}
    (hb : wr.heap[W.heap.size]? = some (.cells #[.slice p (k + 1) c, .slice q k d, .int .i64 (-1), .int .i64 N] 245 (0, 0)))
    (hP : Arr wr 3 1 p (k + 1) c (ints (upFrom (k + 1) 1))) (hQ : Arr wr 3 1 q k d (ints (upFrom k (-1)))) (hpg : blkOf p ≠ some W.heap.size) (hqg : blkOf q ≠ some W.heap.size)
    (hp : ∀ b, blkOf p = some b → W.heap.size ≤ b) (hpq : ∀ b, blkOf p = some b → blkOf q ≠ some b) (hq : ∀ b, blkOf q = some b → W.heap.size ≤ b) (hx : Ext (fun _ => False) W wr)
    (hA1 : Arr w2 3 1 q1 (k + 1) d1 (ints (upFrom k (-1)) ++ [Value.int IntKind.i64 (↑k - 1)])) (hx1 : Ext (fun k => blkOf q = some k) wr w2) (hm1 : Moved wr q q1) :
    w2.heap[W.heap.size]? = some (.cells #[.slice p (k + 1) c, .slice q k d, .int .i64 (-1), .int .i64 N] 245 (0, 0)) ∧
    NewSt W (w2.setCell ⟨W.heap.size, 1, none⟩ (.slice q1 (k + 1) d1)) N (k + 1) := by
  have hb1 := hx1.obj hb hqg
  have hlt := blk_lt hb
  have e1 : blkOf q1 ≠ some W.heap.size := fun e => (hm1 _ e).elim hqg (fun h => by omega)
  have hA2 : Arr w2 3 1 q1 (k + 1) d1 (ints (upFrom (k + 1) (-1))) := by rw [upFrom_succ, ints_append]; exact hA1
  refine ⟨hb1, p, c, q1, d1, ⟨?_, arr_far (arr_ext hP hx1 (fun b hb e => hpq b hb e)) hpg _, arr_far hA2 e1 _, hpg, e1, fun b hb e => ?_⟩, hp, fun b hb => ?_, ?_⟩
  · have := blk_set hb1 1 (.slice q1 (k + 1) d1)
    simpa [CB] using this
  · rcases hm1 b e with h | h
    · exact hpq b hb h
    · have := arr_lt hP hb; omega
  · rcases hm1 b hb with h | h
    · exact hq b h
    · have := hx.size; omega
  · exact (hx.trans hx1 (fun i hi e => by have := hq i e; omega)).setCell (fun h => by simp at h) _

theorem new_start (W : World) (N : Nat) : NewSt W (W.alloc (.cells #[.slice none 0 0, .slice none 0 0, .int .i64 (-1), .int .i64 N] 245)) N 0 :=
  ⟨none, 0, none, 0, ⟨heap_alloc_new W _, arr_nil _ _ _, arr_nil _ _ _, by simp, by simp, by simp⟩, by simp, by simp, (Ext.refl _ W).alloc _⟩


/-- A chain at g: its blocks are of S; the numbers of al stand there. -/
def IsChain (w : World) (g : Nat) (S : Nat → Prop) (n : Nat) (al : Nat → Bool) : Prop :=
  ∃ p c q d nx pv first len, Mem w g n p c q d nx pv first len ∧ CInv n al nx pv first len ∧ n ≤ 1048576 ∧ S g ∧ (∀ k, blkOf p = some k → S k) ∧ (∀ k, blkOf q = some k → S k)

theorem Mem.ext {w w' : World} {g n : Nat} {p q : Option Addr} {c d : Nat} {nx pv : List Int} {first len : Int} {S : Nat → Prop} (h : Mem w g n p c q d nx pv first len) (hx : Ext S w w')
    (hg : ¬ S g) (hp : ∀ k, blkOf p = some k → ¬ S k) (hq : ∀ k, blkOf q = some k → ¬ S k) : Mem w' g n p c q d nx pv first len :=
  ⟨hx.obj h.blk hg, arr_ext h.nx hx hp, arr_ext h.pv hx hq, h.pg, h.qg, h.pq⟩
theorem Mem.drewN {w : World} {g n : Nat} {p q : Option Addr} {c d : Nat} {nx pv : List Int} {first len : Int} (h : Mem w g n p c q d nx pv first len) (m : Nat) : Mem (w.drewN m) g n p c q d nx pv first len :=
  ⟨h.blk, h.nx, h.pv, h.pg, h.qg, h.pq⟩
theorem IsChain.ext {w w' : World} {g n : Nat} {S T : Nat → Prop} {al : Nat → Bool} (h : IsChain w g S n al) (hx : Ext T w w') (hd : ∀ k, S k → k < w.heap.size → ¬ T k) : IsChain w' g S n al := by
  obtain ⟨p, c, q, d, nx, pv, first, len, hM, hI, hn, h1, h2, h3⟩ := h
  exact ⟨p, c, q, d, nx, pv, first, len, hM.ext hx (hd g h1 (blk_lt hM.blk)) (fun k hk => hd k (h2 k hk) (arr_lt hM.nx hk)) (fun k hk => hd k (h3 k hk) (arr_lt hM.pv hk)), hI, hn, h1, h2, h3⟩
theorem IsChain.mono {w : World} {g n : Nat} {S T : Nat → Prop} {al : Nat → Bool} (h : IsChain w g S n al) (hs : ∀ k, k < w.heap.size → S k → T k) : IsChain w g T n al := by
  obtain ⟨p, c, q, d, nx, pv, first, len, hM, hI, hn, h1, h2, h3⟩ := h
  exact ⟨p, c, q, d, nx, pv, first, len, hM, hI, hn, hs _ (blk_lt hM.blk) h1, fun k hk => hs k (arr_lt hM.nx hk) (h2 k hk), fun k hk => hs k (arr_lt hM.pv hk) (h3 k hk)⟩

theorem new_end0 {W wr : World} (h : NewSt W wr 0 0) : IsChain wr W.heap.size (fun k => W.heap.size ≤ k ∧ k < wr.heap.size) 0 (allAl 0) ∧ Ext (fun _ => False) W wr := by
  obtain ⟨p, c, q, d, hM, hp, hq, hx⟩ := h
  exact ⟨⟨p, c, q, d, _, _, _, _, hM, CInv.new 0, by omega, ⟨Nat.le_refl _, blk_lt hM.blk⟩, fun k hk => ⟨hp k hk, arr_lt hM.nx hk⟩, fun k hk => ⟨hq k hk, arr_lt hM.pv hk⟩⟩, hx⟩
theorem new_end1 {W wr : World} {n a c d : Nat} {q : Option Addr} (hn : n ≠ 0) (hn2 : n ≤ 1048576) (hM : Mem wr W.heap.size n (some ⟨a, 0, none⟩) c q d (upFrom n 1) (upFrom n (-1)) (-1) n)
    (hp : ∀ b, blkOf (some ⟨a, 0, none⟩) = some b → W.heap.size ≤ b) (hq : ∀ b, blkOf q = some b → W.heap.size ≤ b) (hx : Ext (fun _ => False) W wr) :
    IsChain ((wr.setCell ⟨W.heap.size, 2, none⟩ (.int .i64 0)).setCell ⟨a, n - 1, none⟩ (.int .i64 (-1))) W.heap.size (fun k => W.heap.size ≤ k ∧ k < ((wr.setCell ⟨W.heap.size, 2, none⟩ (.int .i64 0)).setCell ⟨a, n - 1, none⟩ (.int .i64 (-1))).heap.size) n (allAl n) ∧
      Ext (fun _ => False) W ((wr.setCell ⟨W.heap.size, 2, none⟩ (.int .i64 0)).setCell ⟨a, n - 1, none⟩ (.int .i64 (-1))) := by
  have hga : W.heap.size ≠ a := fun e => hM.pg (by simp [e])
  have hI := CInv.new n
  rw [if_neg hn, if_neg hn] at hI
  refine ⟨⟨_, c, q, d, _, _, _, _, ⟨?_, ?_, ?_, hM.pg, hM.qg, hM.pq⟩, hI, hn2, ?_, fun k hk => ?_, fun k hk => ?_⟩, ?_⟩
  · refine blk_far ?_ hga _
    have := blk_set hM.blk 2 (.int .i64 0)
    simpa [CB] using this
  · have := arr_set (arr_far hM.nx (q := ⟨W.heap.size, 2, none⟩) hM.pg (.int .i64 0)) (n - 1) (.int .i64 (-1))
    simpa [ints, List.map_set] using this
  · exact arr_far (arr_far hM.pv (q := ⟨W.heap.size, 2, none⟩) hM.qg _) (hM.pq a rfl) _
  · simp; exact blk_lt hM.blk
  · simp; exact ⟨hp k hk, arr_lt hM.nx hk⟩
  · simp; exact ⟨hq k hk, arr_lt hM.pv hk⟩
  · exact (hx.setCell (fun h => by simp at h) _).setCell (fun h => by have := hp a rfl; simp at h; omega) _

/-- New. -/
theorem new_any (W : World) (m : Int) (N : Nat) (hN : mn (mx m 0) 1048576 = (N : Int)) :
    Calls Tryz.prog 129 #[.int .i64 m] W fun e w' => e = .returned (.pointer (some ⟨W.heap.size, 0, none⟩)) ∧ IsChain w' W.heap.size (fun k => W.heap.size ≤ k ∧ k < w'.heap.size) N (allAl N) ∧ Ext (fun _ => False) W w' := by
  have hN2 : N ≤ 1048576 := by rw [mn_eq, mx_eq] at hN; omega
  go_enter Tryz.func129, Tryz.ntmps129
  go_wp2
  go_loopw [12] (fun i wr => ∃ k : Nat, k ≤ N ∧ i = .int .i64 k ∧ NewSt W wr N k) (fun i _ => N - (intOf i).toNat)
  case atStart => exact ⟨0, Nat.zero_le _, rfl, new_start W N⟩
  case round =>
    obtain ⟨k, hk, rfl, hst⟩ := hrel
    have HST := Lib.hid hst
    obtain ⟨p, c, q, d, hM, hp, hq, hx⟩ := hst
    have c0 := blk_cell hM.blk 0
    have f0 := blk_frozen hM.blk 0
    simp at c0
    have HP := Lib.hid hp
    have HQ := Lib.hid hq
    clear hp hq
    by_cases hlt : k < N
    · go_wp2_with (first
        | (at_builtin; refine arr_append1 rfl (.tmp 19) (.tmp 22) 62 3 1 8 (.int .i64 0) rfl Tryz.underlying62 info3 rfl (by decide) (by decide) _ _ _ _ [.int .i64 ((k : Int) + 1)] rfl _ rfl (by simp) rfl (by simp [Value.oneCell']) hM.nx (by omega) ?_; intro p1 c1 w1 hA1 hx1 hm1; have R := new_first hM HP.out HQ.out hx hA1 hx1 hm1; obtain ⟨b1, b2, HA, HB, R⟩ := R; have R := Lib.hid R; have z0 := blk_cell b1 0; have zf := blk_frozen b1 0; have y1 := blk_cell b2 1; have yf := blk_frozen b2 1; simp at z0 y1)
        | (at_builtin; refine arr_append1 rfl (.tmp 30) (.tmp 33) 62 3 1 8 (.int .i64 0) rfl Tryz.underlying62 info3 rfl (by decide) (by decide) _ _ _ _ [.int .i64 ((k : Int) - 1)] rfl _ rfl (by simp) rfl (by simp [Value.oneCell']) HB (by omega) ?_; intro q1 d1 w2 hA2 hx2 hm2; have T := new_second b2 HA HB R.out.1 hM.qg R.out.2.1 R.out.2.2.1 HQ.out R.out.2.2.2 hA2 hx2 hm2; obtain ⟨b3, T⟩ := T; have T := Lib.hid T; have x1 := blk_cell b3 1; have xf := blk_frozen b3 1; simp at x1))
      go_roundw
      case rel => exact ⟨k + 1, by omega, by go_num, T.out⟩
      case measure => simp [intOf]; omega
    · obtain rfl : k = N := by omega
      have b0 := hM.blk
      have c2 := blk_cell hM.blk 2
      have f2 := blk_frozen hM.blk 2
      simp at c2
      by_cases h0 : k = 0
      · have h0' : decide (0 < k) = false := by simp; omega
        go_wp2_with fail
        go_ret
        refine ⟨rfl, ?_⟩
        subst h0
        exact new_end0 HST.out
      · obtain ⟨a, rfl⟩ := arr_some hM.nx (by omega)
        have hkk : (k : Int).toNat - 1 = k - 1 := by omega
        have hc := arr_cell hM.nx (k - 1) (by omega)
        rw [show (ints (upFrom k 1))[k - 1]? = some (.int .i64 k) from by rw [ints, List.getElem?_map, upFrom_get _ _ _ (by omega)]; simp; omega] at hc
        have fc := arr_frozen hM.nx (k - 1)
        have hga : W.heap.size ≠ a := fun e => hM.pg (by simp [e])
        have HE := Lib.hid (new_end1 h0 hN2 hM HP.out HQ.out hx)
        go_wp2_with fail
        go_ret
        exact ⟨rfl, HE.out⟩

section
variable {w : World} {g n : Nat} {S : Nat → Prop} {al : Nat → Bool}

theorem CInv.get_nx {nx pv : List Int} {first len : Int} (h : CInv n al nx pv first len) {i : Nat} (hi : i < n) : (ints nx)[i]? = some (.int .i64 (if al i then nextOf n al i else i)) := by
  rw [ints, List.getElem?_map]
  cases ha : al i with
  | true => rw [h.next i hi ha]; rfl
  | false => rw [(h.dead i hi ha).1]; rfl
theorem CInv.get_pv {nx pv : List Int} {first len : Int} (h : CInv n al nx pv first len) {i : Nat} (hi : i < n) : (ints pv)[i]? = some (.int .i64 (if al i then prevOf al i else i)) := by
  rw [ints, List.getElem?_map]
  cases ha : al i with
  | true => rw [h.prev i hi ha]; rfl
  | false => rw [(h.dead i hi ha).2]; rfl
theorem next_ne {n : Nat} {al : Nat → Bool} {i : Nat} : nextOf n al i ≠ i := fun e => by
  rcases (nextOf_is n al i).range (by omega) with h | ⟨h, _⟩ <;> omega
theorem prev_ne {al : Nat → Bool} {i : Nat} : prevOf al i ≠ i := fun e => by
  rcases (prevOf_is al i).range with h | ⟨h, _⟩ <;> omega

set_option maxHeartbeats 400000 in
theorem has_in {p : Option Addr} {a c d : Nat} {q : Option Addr} {first len i x : Int} (hb : CB w g n (some ⟨a, 0, none⟩) c q d first len) (h0 : 0 ≤ i) (h1 : i < n) (hx : w.cell? ⟨a, i.toNat, none⟩ = some (.int .i64 x)) :
    Calls Tryz.prog 156 #[.pointer (some ⟨g, 0, none⟩), .int .i64 i] w fun e w' => e = .returned (.bool (x != i)) ∧ w = w' := by
  have hc := blk_cell hb 0
  simp at hc
  clear hb
  have h0' : decide (0 ≤ i) = true := by simpa using h0
  have h1' : decide (i < n) = true := by simpa using h1
  go_enter Tryz.func156, Tryz.ntmps156
  go_wp2
  go_ret
  exact ⟨rfl, rfl⟩

set_option maxHeartbeats 400000 in
theorem has_out {p : Option Addr} {c d : Nat} {q : Option Addr} {first len i : Int} (hb : CB w g n p c q d first len) (h : i < 0 ∨ n ≤ i) :
    Calls Tryz.prog 156 #[.pointer (some ⟨g, 0, none⟩), .int .i64 i] w fun e w' => e = .returned (.bool false) ∧ w = w' := by
  have hc := blk_cell hb 0
  simp at hc
  clear hb
  by_cases h0 : 0 ≤ i
  · have h0' : decide (0 ≤ i) = true := by simpa using h0
    have h1' : decide (i < n) = false := by simp; omega
    go_enter Tryz.func156, Tryz.ntmps156
    go_wp2
    go_ret
    exact ⟨rfl, rfl⟩
  · have h0' : decide (0 ≤ i) = false := by simp; omega
    go_enter Tryz.func156, Tryz.ntmps156
    go_wp2
    go_ret
    exact ⟨rfl, rfl⟩

/-- Has. -/
theorem has_any (h : IsChain w g S n al) (i : Int) :
    Calls Tryz.prog 156 #[.pointer (some ⟨g, 0, none⟩), .int .i64 i] w fun e w' => e = .returned (.bool (inAl al i)) ∧ w = w' := by
  obtain ⟨p, c, q, d, nx, pv, first, len, hM, hI, hn, h1, h2, h3⟩ := h
  by_cases hi : 0 ≤ i ∧ i < n
  · obtain ⟨a, rfl⟩ := arr_some hM.nx (by omega)
    have hc := arr_cell hM.nx i.toNat (by omega)
    rw [hI.get_nx (by omega)] at hc
    refine (has_in (p := none) hM.blk hi.1 hi.2 hc).mono ?_
    rintro e w' ⟨rfl, rfl⟩
    refine ⟨?_, rfl⟩
    congr 2
    unfold inAl
    rw [decide_eq_true hi.1, Bool.true_and]
    have e0 : ((i.toNat : Nat) : Int) = i := by omega
    have hne := next_ne (n := n) (al := al) (i := i.toNat)
    rw [e0] at hne ⊢
    cases ha : al i.toNat with
    | true => exact bne_iff_ne.2 hne
    | false => simp
  · refine (has_out hM.blk (by omega)).mono ?_
    rintro e w' ⟨rfl, rfl⟩
    refine ⟨?_, rfl⟩
    congr 2
    unfold inAl
    by_cases h0 : 0 ≤ i
    · rw [hI.out i.toNat (by omega)]; simp
    · simp [h0]

/-- Next. -/
theorem next_any (h : IsChain w g S n al) (i : Int) :
    Calls Tryz.prog 134 #[.pointer (some ⟨g, 0, none⟩), .int .i64 i] w fun e w' => e = .returned (.int .i64 (if inAl al i then nextOf n al i else -1)) ∧ w = w' := by
  have HH := Lib.hid (has_any h i)
  obtain ⟨p, c, q, d, nx, pv, first, len, hM, hI, hn, h1, h2, h3⟩ := h
  cases hb : inAl al i with
  | false =>
    clear hM hI
    go_enter Tryz.func134, Tryz.ntmps134
    go_wp2_with (go_at_call 156; refine HH.out.mono ?_; rintro e w' ⟨rfl, rfl⟩)
    go_ret
    exact ⟨rfl, rfl⟩
  | true =>
    have hb' := hb
    simp only [inAl, Bool.and_eq_true, decide_eq_true_eq] at hb'
    have hin : i.toNat < n := by
      rcases Nat.lt_or_ge i.toNat n with x | x
      · exact x
      · rw [hI.out _ x] at hb'; simp at hb'
    obtain ⟨a, rfl⟩ := arr_some hM.nx (by omega)
    have hc := arr_cell hM.nx i.toNat (by omega)
    rw [hI.get_nx hin, if_pos hb'.2] at hc
    have c0 := blk_cell hM.blk 0
    simp at c0
    have hi0 : 0 ≤ i := hb'.1
    have hi1 : i < n := by omega
    have e0 : ((i.toNat : Nat) : Int) = i := by omega
    rw [e0] at hc
    clear hM hI hb' e0
    go_enter Tryz.func134, Tryz.ntmps134
    go_wp2_with (go_at_call 156; refine HH.out.mono ?_; rintro e w' ⟨rfl, rfl⟩)
    go_ret
    exact ⟨rfl, rfl⟩

/-- Prev. -/
theorem prev_any (h : IsChain w g S n al) (i : Int) :
    Calls Tryz.prog 136 #[.pointer (some ⟨g, 0, none⟩), .int .i64 i] w fun e w' => e = .returned (.int .i64 (if inAl al i then prevOf al i else -1)) ∧ w = w' := by
  have HH := Lib.hid (has_any h i)
  obtain ⟨p, c, q, d, nx, pv, first, len, hM, hI, hn, h1, h2, h3⟩ := h
  cases hb : inAl al i with
  | false =>
    clear hM hI
    go_enter Tryz.func136, Tryz.ntmps136
    go_wp2_with (go_at_call 156; refine HH.out.mono ?_; rintro e w' ⟨rfl, rfl⟩)
    go_ret
    exact ⟨rfl, rfl⟩
  | true =>
    have hb' := hb
    simp only [inAl, Bool.and_eq_true, decide_eq_true_eq] at hb'
    have hin : i.toNat < n := by
      rcases Nat.lt_or_ge i.toNat n with x | x
      · exact x
      · rw [hI.out _ x] at hb'; simp at hb'
    obtain ⟨a, rfl⟩ := arr_some hM.pv (by omega)
    have hc := arr_cell hM.pv i.toNat (by omega)
    rw [hI.get_pv hin, if_pos hb'.2] at hc
    have c0 := blk_cell hM.blk 1
    simp at c0
    have hi0 : 0 ≤ i := hb'.1
    have hi1 : i < n := by omega
    have e0 : ((i.toNat : Nat) : Int) = i := by omega
    rw [e0] at hc
    clear hM hI hb' e0
    go_enter Tryz.func136, Tryz.ntmps136
    go_wp2_with (go_at_call 156; refine HH.out.mono ?_; rintro e w' ⟨rfl, rfl⟩)
    go_ret
    exact ⟨rfl, rfl⟩

/-- The worlds of Cut. -/
def cutW1 (w : World) (g a : Nat) (p q : Int) : World := if p = -1 then w.setCell ⟨g, 2, none⟩ (.int .i64 q) else w.setCell ⟨a, p.toNat, none⟩ (.int .i64 q)
def cutW2 (w : World) (g a b : Nat) (p q : Int) : World := if q = -1 then cutW1 w g a p q else (cutW1 w g a p q).setCell ⟨b, q.toNat, none⟩ (.int .i64 p)
def cutW (w : World) (g a b : Nat) (i p q len : Int) : World := (((cutW2 w g a b p q).setCell ⟨a, i.toNat, none⟩ (.int .i64 i)).setCell ⟨b, i.toNat, none⟩ (.int .i64 i)).setCell ⟨g, 3, none⟩ (.int .i64 (len - 1))
def CutEnd (w : World) (g a b : Nat) (i p q len : Int) (e : Ending) (w' : World) : Prop := e = .returned (.bool true) ∧ ∃ m, w' = (cutW w g a b i p q len).drewN m

set_option maxHeartbeats 2000000 in
theorem cut_walk {a b c d : Nat} {first len i p q : Int} (hb : CB w g n (some ⟨a, 0, none⟩) c (some ⟨b, 0, none⟩) d first len)
    (hh : Calls Tryz.prog 156 #[.pointer (some ⟨g, 0, none⟩), .int .i64 i] w fun e w' => e = .returned (.bool true) ∧ w = w')
    (h0 : 0 ≤ i) (h1 : i < n)
    (hq : w.cell? ⟨a, i.toNat, none⟩ = some (.int .i64 q)) (hp : w.cell? ⟨b, i.toNat, none⟩ = some (.int .i64 p)) (hpr : p = -1 ∨ 0 ≤ p ∧ p < n) (hqr : q = -1 ∨ 0 ≤ q ∧ q < n)
    (hu : 0 ≤ p → ∃ u, w.cell? ⟨a, p.toNat, none⟩ = some u) (hv : 0 ≤ q → ∃ v, w.cell? ⟨b, q.toNat, none⟩ = some v) (hpi : p ≠ i) (hqi : q ≠ i) (hga : g ≠ a) (hgb : g ≠ b) (hab : a ≠ b)
    (fa : ∀ j, w.frozen? ⟨a, j, none⟩ = false) (fb : ∀ j, w.frozen? ⟨b, j, none⟩ = false) (hl : 0 < len) (hl2 : len ≤ 1048576) :
    Calls Tryz.prog 135 #[.pointer (some ⟨g, 0, none⟩), .int .i64 i] w (CutEnd w g a b i p q len) := by
  have c0 := blk_cell hb 0
  have c1 := blk_cell hb 1
  have c2 := blk_cell hb 2
  have c3 := blk_cell hb 3
  have fg := blk_frozen hb 3
  have fg2 := blk_frozen hb 2
  simp at c0 c1 c2 c3
  clear hb
  by_cases ep : p = -1 <;> by_cases eq : q = -1
  · subst ep eq
    clear hu hv hpr hqr
    go_enter Tryz.func135, Tryz.ntmps135
    go_wp2_with (go_at_call 156; refine hh.mono ?_; rintro e w' ⟨rfl, rfl⟩)
    go_region
    go_wp2
    go_ret
    exact ⟨rfl, 1, by rw [cutW, cutW2, cutW1, if_pos rfl, if_pos rfl]; rfl⟩
  · subst ep
    obtain ⟨q0, q1⟩ := hqr.resolve_left eq
    obtain ⟨v, hv⟩ := hv q0
    clear hu hpr
    have e3 : (q == -1) = false := by simpa using eq
    go_enter Tryz.func135, Tryz.ntmps135
    go_wp2_with (go_at_call 156; refine hh.mono ?_; rintro e w' ⟨rfl, rfl⟩)
    go_region
    go_wp2
    go_region
    go_wp2
    go_ret
    exact ⟨rfl, 2, by rw [cutW, cutW2, cutW1, if_neg eq, if_pos rfl]; rfl⟩
  · subst eq
    obtain ⟨p0, p1⟩ := hpr.resolve_left ep
    obtain ⟨u, hu⟩ := hu p0
    clear hv hqr
    have e2 : (p == -1) = false := by simpa using ep
    go_enter Tryz.func135, Tryz.ntmps135
    go_wp2_with (go_at_call 156; refine hh.mono ?_; rintro e w' ⟨rfl, rfl⟩)
    go_region
    go_wp2
    go_region
    go_wp2
    go_ret
    exact ⟨rfl, 2, by rw [cutW, cutW2, cutW1, if_pos rfl, if_neg ep]; rfl⟩
  · obtain ⟨p0, p1⟩ := hpr.resolve_left ep
    obtain ⟨u, hu⟩ := hu p0
    obtain ⟨q0, q1⟩ := hqr.resolve_left eq
    obtain ⟨v, hv⟩ := hv q0
    have e2 : (p == -1) = false := by simpa using ep
    have e3 : (q != -1) = true := by simpa using eq
    go_enter Tryz.func135, Tryz.ntmps135
    go_wp2_with (go_at_call 156; refine hh.mono ?_; rintro e w' ⟨rfl, rfl⟩)
    go_region
    go_wp2
    go_region
    go_wp2
    go_region
    go_wp2
    go_ret
    exact ⟨rfl, 3, by rw [cutW, cutW2, cutW1, if_neg eq, if_neg ep]; rfl⟩

theorem cutW_mem {a b c d : Nat} {nx pv : List Int} {first len : Int} {i : Nat} {p q : Int} (hM : Mem w g n (some ⟨a, 0, none⟩) c (some ⟨b, 0, none⟩) d nx pv first len) (hp : p = -1 ∨ 0 ≤ p) (hq : q = -1 ∨ 0 ≤ q) :
    Mem (cutW w g a b i p q len) g n (some ⟨a, 0, none⟩) c (some ⟨b, 0, none⟩) d (cutNx nx i p q) (cutPv pv i p q) (if p = -1 then q else first) (len - 1) ∧ Ext (fun k => k = g ∨ k = a ∨ k = b) w (cutW w g a b i p q len) := by
  have hga : g ≠ a := fun e => hM.pg (by simp [e])
  have hgb : g ≠ b := fun e => hM.qg (by simp [e])
  have hab : a ≠ b := fun e => hM.pq a rfl (by simp [e])
  -- the first step
  have s1 : Mem (cutW1 w g a p q) g n (some ⟨a, 0, none⟩) c (some ⟨b, 0, none⟩) d (if p = -1 then nx else nx.set p.toNat q) pv (if p = -1 then q else first) len ∧ Ext (fun k => k = g ∨ k = a ∨ k = b) w (cutW1 w g a p q) := by
    unfold cutW1
    by_cases e : p = -1
    · rw [if_pos e, if_pos e, if_pos e]
      refine ⟨⟨?_, arr_far hM.nx hM.pg _, arr_far hM.pv hM.qg _, hM.pg, hM.qg, hM.pq⟩, (Ext.refl _ w).setCell (fun _ => .inl rfl) _⟩
      have := blk_set hM.blk 2 (.int .i64 q)
      simpa [CB] using this
    · rw [if_neg e, if_neg e, if_neg e]
      refine ⟨⟨blk_far hM.blk hga _, ?_, arr_far hM.pv (by simpa using fun h : b = a => hab h.symm) _, hM.pg, hM.qg, hM.pq⟩, (Ext.refl _ w).setCell (fun _ => .inr (.inl rfl)) _⟩
      have := arr_set hM.nx p.toNat (.int .i64 q)
      simpa [ints, List.map_set] using this
  obtain ⟨m1, x1⟩ := s1
  have s2 : Mem (cutW2 w g a b p q) g n (some ⟨a, 0, none⟩) c (some ⟨b, 0, none⟩) d (if p = -1 then nx else nx.set p.toNat q) (if q = -1 then pv else pv.set q.toNat p) (if p = -1 then q else first) len ∧ Ext (fun k => k = g ∨ k = a ∨ k = b) w (cutW2 w g a b p q) := by
    unfold cutW2
    by_cases e : q = -1
    · rw [if_pos e, if_pos e]; exact ⟨m1, x1⟩
    · rw [if_neg e, if_neg e]
      refine ⟨⟨blk_far m1.blk hgb _, arr_far m1.nx (by simpa using hab) _, ?_, hM.pg, hM.qg, hM.pq⟩, x1.setCell (fun _ => .inr (.inr rfl)) _⟩
      have := arr_set m1.pv q.toNat (.int .i64 p)
      simpa [ints, List.map_set] using this
  obtain ⟨m2, x2⟩ := s2
  refine ⟨⟨?_, ?_, ?_, hM.pg, hM.qg, hM.pq⟩, ?_⟩
  · have := blk_set (blk_far (blk_far m2.blk (p := ⟨a, (i : Int).toNat, none⟩) hga (.int .i64 i)) (p := ⟨b, (i : Int).toNat, none⟩) hgb (.int .i64 i)) 3 (.int .i64 (len - 1))
    simpa [CB, cutW] using this
  · have := arr_far (arr_far (arr_set m2.nx i (.int .i64 i)) (q := ⟨b, i, none⟩) (by simpa using hab) (.int .i64 i)) (q := ⟨g, 3, none⟩) hM.pg (.int .i64 (len - 1))
    simpa [cutW, ints, List.map_set, cutNx] using this
  · have := arr_far (arr_set (arr_far m2.pv (q := ⟨a, i, none⟩) (by simpa using fun h : b = a => hab h.symm) (.int .i64 i)) i (.int .i64 i)) (q := ⟨g, 3, none⟩) hM.qg (.int .i64 (len - 1))
    simpa [cutW, ints, List.map_set, cutPv] using this
  · exact ((x2.setCell (fun _ => .inr (.inl rfl)) _).setCell (fun _ => .inr (.inr rfl)) _).setCell (fun _ => .inl rfl) _

/-- Cut of a number that stands there. -/
theorem cut_in (h : IsChain w g S n al) (i : Int) (hi : inAl al i = true) :
    Calls Tryz.prog 135 #[.pointer (some ⟨g, 0, none⟩), .int .i64 i] w fun e w' => e = .returned (.bool true) ∧ IsChain w' g S n (cutAl al i.toNat) ∧ Ext S w w' := by
  have HH := has_any h i
  rw [hi] at HH
  obtain ⟨P, c, Q, d, nx, pv, first, len, hM, hI, hn, h1, h2, h3⟩ := h
  simp only [inAl, Bool.and_eq_true, decide_eq_true_eq] at hi
  obtain ⟨j, rfl⟩ := Int.eq_ofNat_of_zero_le hi.1
  have ha : al j = true := by simpa using hi.2
  have hj : j < n := by
    rcases Nat.lt_or_ge j n with x | x
    · exact x
    · rw [hI.out _ x] at ha; cases ha
  obtain ⟨a, rfl⟩ := arr_some hM.nx (by omega)
  obtain ⟨b, rfl⟩ := arr_some hM.pv (by omega)
  have hga : g ≠ a := fun e => hM.pg (by simp [e])
  have hgb : g ≠ b := fun e => hM.qg (by simp [e])
  have hab : a ≠ b := fun e => hM.pq a rfl (by simp [e])
  have gn := arr_cell hM.nx j (by omega)
  rw [hI.get_nx hj, if_pos ha] at gn
  have gp := arr_cell hM.pv j (by omega)
  rw [hI.get_pv hj, if_pos ha] at gp
  have rN := (nextOf_is n al j).range (by omega)
  have rP := (prevOf_is al j).range
  have hp2 : prevOf al j = -1 ∨ 0 ≤ prevOf al j ∧ prevOf al j < n := by omega
  have hq2 : nextOf n al j = -1 ∨ 0 ≤ nextOf n al j ∧ nextOf n al j < n := by omega
  have hl := cnt_pos al n j hj ha
  have hl2 := cnt_le al n
  refine (cut_walk (i := (j : Int)) hM.blk HH hi.1 (by omega) (by simpa using gn) (by simpa using gp) hp2 hq2 (fun h0 => ?_) (fun h0 => ?_) prev_ne next_ne hga hgb hab
    (arr_frozen hM.nx) (arr_frozen hM.pv) (by rw [hI.len]; omega) (by rw [hI.len]; omega)).mono ?_
  · exact ⟨_, (arr_cell hM.nx _ (by omega)).trans (hI.get_nx (i := (prevOf al j).toNat) (by omega))⟩
  · exact ⟨_, (arr_cell hM.pv _ (by omega)).trans (hI.get_pv (i := (nextOf n al j).toNat) (by omega))⟩
  · rintro e w' ⟨rfl, m, rfl⟩
    obtain ⟨hM2, hx⟩ := cutW_mem (i := j) hM (p := prevOf al j) (q := nextOf n al j) (by omega) (by omega)
    refine ⟨rfl, ⟨_, c, _, d, _, _, _, _, hM2.drewN m, hI.cut hj ha, hn, h1, h2, h3⟩, (hx.mono ?_).drewN m⟩
    rintro k (rfl | rfl | rfl)
    · exact h1
    · exact h2 _ rfl
    · exact h3 _ rfl

/-- Cut of a number that does not stand there. -/
theorem cut_out (h : IsChain w g S n al) (i : Int) (hi : inAl al i = false) :
    Calls Tryz.prog 135 #[.pointer (some ⟨g, 0, none⟩), .int .i64 i] w fun e w' => e = .returned (.bool false) ∧ w = w' := by
  have HH := has_any h i
  rw [hi] at HH
  go_enter Tryz.func135, Tryz.ntmps135
  go_wp2_with (go_at_call 156; refine HH.mono ?_; rintro e w' ⟨rfl, rfl⟩)
  go_ret
  exact ⟨rfl, rfl⟩
end
end Go.Proofs.YtigpaaelggnffaaGreatDoor.Chain

/- chain: the iterator All. -/
namespace Go.Proofs.YtigpaaelggnffaaGreatDoor.Chain
open Go.RowKit Go.Shelf Go.Proofs.YtigpaaelggnffaaGreatDoor.Lib
set_option linter.unusedVariables false
set_option linter.unusedSimpArgs false
attribute [local go_sem] Oper.semAt_some

/-- The numbers that stand there, below k. -/
def upTo (al : Nat → Bool) (k : Nat) : List Int := ((List.range k).filter al).map Int.ofNat
theorem upTo_gap {al : Nat → Bool} {j k : Nat} (h : al j = true) (hjk : j < k) (hg : ∀ i, j < i → i < k → al i = false) : upTo al k = upTo al j ++ [(j : Int)] := by
  induction k with
  | zero => omega
  | succ k ih =>
    by_cases hk : j = k
    · subst hk
      simp [upTo, List.range_succ, List.filter_append, h]
    · have := ih (by omega) (fun i h1 h2 => hg i h1 (by omega))
      rw [← this]
      simp [upTo, List.range_succ, List.filter_append, hg k (by omega) (by omega)]
theorem upTo_none {al : Nat → Bool} {k : Nat} (hg : ∀ i, i < k → al i = false) : upTo al k = [] := by
  simp [upTo]
  intro i hi
  simp [hg i hi]
theorem upTo_length (al : Nat → Bool) (n : Nat) : (upTo al n).length = cnt al n := by simp [upTo, cnt]
theorem upTo_sorted (al : Nat → Bool) (n : Nat) : (upTo al n).Pairwise (· < ·) := by
  unfold upTo
  rw [List.pairwise_map]
  refine List.Pairwise.filter _ ?_
  refine (List.pairwise_lt_range (n := n)).imp ?_
  intro a b h
  exact Int.ofNat_lt.2 h
theorem upTo_mem {al : Nat → Bool} {n : Nat} {x : Int} (h : x ∈ upTo al n) : ∃ j : Nat, x = j ∧ j < n ∧ al j = true := by
  unfold upTo at h
  obtain ⟨j, hj, rfl⟩ := List.mem_map.1 h
  obtain ⟨h1, h2⟩ := List.mem_filter.1 hj
  exact ⟨j, rfl, List.mem_range.1 h1, h2⟩
theorem upTo_next {al : Nat → Bool} {n : Nat} {pre : List Int} {x : Int} (h : pre ++ [x] <+: upTo al n) : pre.getLastD (-1) < x ∧ ∃ j : Nat, x = j ∧ j < n ∧ al j = true := by
  obtain ⟨j, rfl, h1, h2⟩ := upTo_mem (h.subset (by simp : x ∈ pre ++ [x]))
  refine ⟨?_, j, rfl, h1, h2⟩
  have hs := (upTo_sorted al n).sublist h.sublist
  rcases List.eq_nil_or_concat pre with rfl | ⟨q, y, rfl⟩
  · simp; omega
  · rw [List.pairwise_append] at hs
    have := hs.2.2 y (by simp) (j : Int) (by simp)
    simpa using this
/-- A chain as its iterator reads it; n₀: what lies below stays. -/
structure ChAt (n₀ : Nat) (W : World) (g n : Nat) (p : Option Addr) (c : Nat) (al : Nat → Bool) : Prop where
  gl : g < n₀
  first : W.cell? ⟨g, 2, none⟩ = some (.int .i64 (nextOf n al (-1)))
  row : W.cell? ⟨g, 0, none⟩ = some (.slice p n c)
  nx : ∀ i : Nat, i < n → al i = true → ∃ a, p = some ⟨a, 0, none⟩ ∧ a < n₀ ∧ W.cell? ⟨a, i, none⟩ = some (.int .i64 (nextOf n al i))
theorem ChAt.below {n₀ : Nat} {A B : World} {g n c : Nat} {p : Option Addr} {al : Nat → Bool} (h : ChAt n₀ A g n p c al) (hb : Below n₀ A B) : ChAt n₀ B g n p c al :=
  ⟨h.gl, (hb.cell (p := ⟨g, 2, none⟩) h.gl).trans h.first, (hb.cell (p := ⟨g, 0, none⟩) h.gl).trans h.row, fun i hi ha => by
    obtain ⟨a, e, hl, hc⟩ := h.nx i hi ha
    exact ⟨a, e, hl, (hb.cell (p := ⟨a, i, none⟩) hl).trans hc⟩⟩
def ms (n : Nat) (v : Value) : Nat := if intOf v < 0 then 0 else n - (intOf v).toNat
theorem ms_neg (n : Nat) {z : Int} (h : z < 0) : ms n (.int .i64 z) = 0 := if_pos h
theorem ms_pos (n : Nat) {z : Int} (h : 0 ≤ z) : ms n (.int .i64 z) = n - z.toNat := if_neg (show ¬ (z < 0) by omega)
/-- Where the loop stands: what has come, and what comes next. -/
def At (n : Nat) (al : Nat → Bool) (i : Int) (pre : List Int) : Prop := (i = -1 ∧ pre = upTo al n) ∨ ∃ j : Nat, i = j ∧ j < n ∧ al j = true ∧ pre = upTo al j
theorem At.start (n : Nat) (al : Nat → Bool) : At n al (nextOf n al (-1)) [] := by
  rcases nextOf_is n al (-1) with ⟨e, h⟩ | ⟨j, e, h1, h2, h3, h4⟩
  · exact .inl ⟨e, (upTo_none fun i hi => h i (by omega) hi).symm⟩
  · exact .inr ⟨j, e, h2, h3, (upTo_none fun i hi => h4 i (by omega) hi).symm⟩
theorem At.next {n : Nat} {al : Nat → Bool} {j : Nat} (hj : j < n) (ha : al j = true) : At n al (nextOf n al j) (upTo al j ++ [(j : Int)]) := by
  rcases nextOf_is n al j with ⟨e, h⟩ | ⟨k, e, h1, h2, h3, h4⟩
  · exact .inl ⟨e, (upTo_gap ha hj fun i h1 h2 => h i (by omega) h2).symm⟩
  · exact .inr ⟨k, e, h2, h3, (upTo_gap ha (by omega) fun i h5 h6 => h4 i (by omega) h6).symm⟩
theorem upTo_pre {al : Nat → Bool} {j n : Nat} (h : j ≤ n) : upTo al j <+: upTo al n := by
  obtain ⟨d, rfl⟩ := Nat.exists_eq_add_of_le h
  unfold upTo
  rw [List.range_add, List.filter_append, List.map_append]
  exact List.prefix_append _ _
theorem upTo_len {al : Nat → Bool} {j n : Nat} (h : j < n) (ha : al j = true) : (upTo al j).length < (upTo al n).length := by
  have h1 : (upTo al j ++ [(j : Int)]).length ≤ (upTo al n).length := by
    rw [← upTo_gap (k := j + 1) ha (by omega) (fun i h1 h2 => by omega)]
    exact (upTo_pre h).length_le
  simp at h1
  omega

set_option maxRecDepth 100000 in
set_option maxHeartbeats 1000000 in
theorem all1_in (F : Fence) (N : Nat) (h6 : F.fn 157) (hro : F.round = none) (hn : 1 ≤ N) (l Bn n₀ g n c : Nat) (p : Option Addr) (al : Nat → Bool) (J Jx : List Int → World → Prop)
    (hY : ∀ pre x W, J pre W → pre.length < (upTo al n).length → YieldAt F (N - 1) Tryz.prog l #[.int .i64 x] W fun e W' =>
      (e = .returned (.bool true) ∧ J (pre ++ [x]) W' ∧ Below n₀ W W') ∨ (e = .returned (.bool false) ∧ Jx (pre ++ [x]) W'))
    (W : World) (hBl : Bn < n₀) (hBn : W.cell? ⟨Bn, 0, none⟩ = some (.pointer (some ⟨g, 0, none⟩))) (hL : ChAt n₀ W g n p c al) (h0 : J [] W) :
    CallsIn F N Tryz.prog 157 #[.func (.yield l) #[] #[], .pointer (some ⟨Bn, 0, none⟩)] W fun e W' => (∃ v, e = .returned v) ∧
      ((∃ ys, ys = upTo al n ∧ J ys W') ∨ (∃ pre, pre <+: upTo al n ∧ Jx pre W')) := by
  refine callsIn_of_wp Tryz.func157 rfl h6 ?_ hro
  simp only [Tryz.ntmps157, List.size_toArray, List.length_cons, List.length_nil, Nat.reduceAdd, Nat.reduceSub, Array.replicate_succ, Array.replicate_zero, List.push_toArray, List.append_toArray, List.nil_append, List.cons_append]
  have f1 := hL.first
  gi_wp2
  gi_loopw [3] (fun i wr => ∃ (z : Int) (pre : List Int), i = .int .i64 z ∧ At n al z pre ∧ ChAt n₀ wr g n p c al ∧ wr.cell? ⟨Bn, 0, none⟩ = some (.pointer (some ⟨g, 0, none⟩)) ∧ J pre wr)
    (fun i wr => ms n i)
  case atStart => exact ⟨_, [], rfl, At.start n al, hL, hBn, h0⟩
  case round =>
    obtain ⟨z, pre, rfl, hat, hC, hB, hJ⟩ := hrel
    rcases hat with ⟨rfl, rfl⟩ | ⟨j, rfl, hj, ha, rfl⟩
    · gi_wp2
      refine ⟨fun f h => (by cases h), ?_⟩
      gi_wp2
      go_end0
      exact ⟨⟨_, rfl⟩, .inl ⟨_, rfl, hJ⟩⟩
    · obtain ⟨fn, tmps, assign, body, hy, hR⟩ := hY _ (j : Int) wr hJ (upTo_len hj ha)
      have hne : ((j : Int) != -1) = true := by rw [bne_iff_ne]; omega
      gi_wp2
      refine hR.mono ?_
      rintro e W3 (⟨rfl, hJ3, hk3⟩ | ⟨rfl, hJx3⟩)
      · have C3 := hC.below hk3
        have B3 := (hk3.cell (p := ⟨Bn, 0, none⟩) hBl).trans hB
        have r3 := C3.row
        obtain ⟨a, rfl, hal, hc3⟩ := C3.nx j hj ha
        have i1 : (j : Int) < (n : Int) := by omega
        gi_wp2
        go_roundw
        case rel => exact ⟨_, _, rfl, At.next hj ha, C3, B3, hJ3⟩
        case measure =>
          have hr := (nextOf_is n al j).range (by omega)
          rw [ms_pos n (z := (j : Int)) (by omega)]
          rcases hr with e | ⟨e1, e2, e3, _⟩
          · rw [ms_neg n (show nextOf n al j < 0 by omega)]; omega
          · rw [ms_pos n e3]; omega
      · gi_wp2
        go_end0
        exact ⟨⟨_, rfl⟩, .inr ⟨_, by rw [← upTo_gap (k := j + 1) ha (by omega) (fun i h1 h2 => by omega)]; exact upTo_pre hj, hJx3⟩⟩

theorem all_stops (F : Fence) (N : Nat) (h6 : F.fn 157) (hro : F.round = none) (hn : 1 ≤ N) (Bn n₀ g n c : Nat) (p : Option Addr) (al : Nat → Bool) (w : World) (hBl : Bn < n₀) (hn₀ : n₀ ≤ w.heap.size)
    (hBn : w.cell? ⟨Bn, 0, none⟩ = some (.pointer (some ⟨g, 0, none⟩))) (hL : ChAt n₀ w g n p c al) :
    SeqStopsK F N Tryz.prog 157 #[.pointer (some ⟨Bn, 0, none⟩)] (fun x : Int => #[Value.int .i64 x]) (Below n₀) (fun ys => ys = upTo al n) (fun pre => pre <+: upTo al n) (upTo al n).length w := fun l J Jx W hW _ _ hY h0 =>
  all1_in F N h6 hro hn l Bn n₀ g n c p al J Jx hY W hBl ((hW.cell (p := ⟨Bn, 0, none⟩) (Nat.lt_of_lt_of_le hBl hn₀)).trans hBn) (hL.below (hW.mono hn₀)) h0

set_option maxHeartbeats 1000000 in
/-- All: the receiver is boxed; the function value captures the box. -/
theorem all_in (F : Fence) (N : Nat) (h5 : F.fn 137) (hro : F.round = none) (p0 : Option Addr) (w : World) :
    CallsIn F N Tryz.prog 137 #[.pointer p0] w fun e w' => e = .returned (.func (.func 157) #[] #[.pointer (some ⟨w.heap.size, 0, none⟩)]) ∧ w' = w.alloc (.cells #[.pointer p0] 223) := by
  refine callsIn_of_wp Tryz.func137 rfl h5 ?_ hro
  simp only [Tryz.ntmps137, List.size_toArray, List.length_cons, List.length_nil, Nat.reduceAdd, Nat.reduceSub, Array.replicate_succ, Array.replicate_zero, List.push_toArray, List.append_toArray, List.nil_append, List.cons_append]
  gi_wp2
  go_ret
  exact ⟨rfl, rfl⟩
end Go.Proofs.YtigpaaelggnffaaGreatDoor.Chain

/- chain: the iterator All, where the loop's body keeps no more than what the iterator reads. -/
namespace Go.Proofs.YtigpaaelggnffaaGreatDoor.Chain
open Go.RowKit Go.Shelf Go.Proofs.YtigpaaelggnffaaGreatDoor.Lib
set_option linter.unusedVariables false
set_option linter.unusedSimpArgs false
attribute [local go_sem] Oper.semAt_some

/-- The blocks of T stay. -/
structure Stay (T : Nat → Prop) (A B : World) : Prop where
  size : A.heap.size ≤ B.heap.size
  same : ∀ k, T k → k < A.heap.size → B.heap[k]? = A.heap[k]?
theorem Stay.refl (T : Nat → Prop) (A : World) : Stay T A A := ⟨Nat.le_refl _, fun _ _ _ => rfl⟩
theorem Stay.trans {T : Nat → Prop} {A B C : World} (h : Stay T A B) (k : Stay T B C) : Stay T A C := ⟨Nat.le_trans h.size k.size, fun i hi hl => (k.same i hi (Nat.lt_of_lt_of_le hl h.size)).trans (h.same i hi hl)⟩
theorem Stay.cell {T : Nat → Prop} {A B : World} (h : Stay T A B) {p : Addr} (hp : T p.block) (hl : p.block < A.heap.size) : B.cell? p = A.cell? p := World.cell?_of_block (h.same _ hp hl)
theorem Stay.ext {T S : Nat → Prop} {A B : World} (h : Ext S A B) (hT : ∀ k, T k → ¬ S k) : Stay T A B := ⟨h.size, fun k hk hl => h.block k hl (hT k hk)⟩
theorem stayK_b {T : Nat → Prop} {w : World} (hn : ∀ k, T k → k < w.heap.size) (W : World) (l : Nat) (o o' : Obj) (hl : w.heap.size ≤ l) (h : W.heap[l]? = some o) (_ : o.isCells = false) (_ : o.isWalk = false) : Stay T W (W.putObj l o') := by
  have hg := grownBy_putObj' W l o'
  exact ⟨hg.size, fun k hk hlk => hg.block k hlk (fun e => by cases e; have := hn _ hk; omega)⟩
/-- A chain as its iterator reads it. -/
structure ChT (T : Nat → Prop) (W : World) (g n : Nat) (p : Option Addr) (c : Nat) (al : Nat → Bool) : Prop where
  gl : T g ∧ g < W.heap.size
  first : W.cell? ⟨g, 2, none⟩ = some (.int .i64 (nextOf n al (-1)))
  row : W.cell? ⟨g, 0, none⟩ = some (.slice p n c)
  nx : ∀ i : Nat, i < n → al i = true → ∃ a, p = some ⟨a, 0, none⟩ ∧ T a ∧ a < W.heap.size ∧ W.cell? ⟨a, i, none⟩ = some (.int .i64 (nextOf n al i))
theorem ChT.stay {T : Nat → Prop} {A B : World} {g n c : Nat} {p : Option Addr} {al : Nat → Bool} (h : ChT T A g n p c al) (hb : Stay T A B) : ChT T B g n p c al :=
  ⟨⟨h.gl.1, Nat.lt_of_lt_of_le h.gl.2 hb.size⟩, (hb.cell (p := ⟨g, 2, none⟩) h.gl.1 h.gl.2).trans h.first, (hb.cell (p := ⟨g, 0, none⟩) h.gl.1 h.gl.2).trans h.row, fun i hi ha => by
    obtain ⟨a, e, ht, hl, hc⟩ := h.nx i hi ha
    exact ⟨a, e, ht, Nat.lt_of_lt_of_le hl hb.size, (hb.cell (p := ⟨a, i, none⟩) ht hl).trans hc⟩⟩
/-- The numbers that stand there. -/
abbrev In (n : Nat) (al : Nat → Bool) : Type := { x : Int // ∃ j : Nat, x = j ∧ j < n ∧ al j = true }
set_option maxRecDepth 100000 in
set_option maxHeartbeats 1000000 in
theorem all1_t (F : Fence) (N : Nat) (h6 : F.fn 157) (hro : F.round = none) (hn : 1 ≤ N) (l Bn g n c : Nat) (T : Nat → Prop) (p : Option Addr) (al : Nat → Bool) (J Jx : List (In n al) → World → Prop)
    (hY : ∀ (pre : List (In n al)) (x : In n al) W, J pre W → pre.length < (upTo al n).length → YieldAt F (N - 1) Tryz.prog l #[.int .i64 x.1] W fun e W' =>
      (e = .returned (.bool true) ∧ J (pre ++ [x]) W' ∧ Stay T W W') ∨ (e = .returned (.bool false) ∧ Jx (pre ++ [x]) W'))
    (W : World) (hBT : T Bn) (hBl : Bn < W.heap.size) (hBn : W.cell? ⟨Bn, 0, none⟩ = some (.pointer (some ⟨g, 0, none⟩))) (hL : ChT T W g n p c al) (h0 : J [] W) :
    CallsIn F N Tryz.prog 157 #[.func (.yield l) #[] #[], .pointer (some ⟨Bn, 0, none⟩)] W fun e W' => (∃ v, e = .returned v) ∧
      ((∃ ys : List (In n al), ys.map Subtype.val = upTo al n ∧ J ys W') ∨ (∃ pre : List (In n al), True ∧ Jx pre W')) := by
  refine callsIn_of_wp Tryz.func157 rfl h6 ?_ hro
  simp only [Tryz.ntmps157, List.size_toArray, List.length_cons, List.length_nil, Nat.reduceAdd, Nat.reduceSub, Array.replicate_succ, Array.replicate_zero, List.push_toArray, List.append_toArray, List.nil_append, List.cons_append]
  have f1 := hL.first
  gi_wp2
  gi_loopw [3] (fun i wr => ∃ (z : Int) (pre : List (In n al)), i = .int .i64 z ∧ At n al z (pre.map Subtype.val) ∧ ChT T wr g n p c al ∧ Bn < wr.heap.size ∧ wr.cell? ⟨Bn, 0, none⟩ = some (.pointer (some ⟨g, 0, none⟩)) ∧ J pre wr)
    (fun i wr => ms n i)
  case atStart => exact ⟨_, [], rfl, At.start n al, hL, hBl, hBn, h0⟩
  case round =>
    obtain ⟨z, pre, rfl, hat, hC, hbl, hB, hJ⟩ := hrel
    rcases hat with ⟨rfl, hp⟩ | ⟨j, rfl, hj, ha, hp⟩
    · have HP := Lib.hid hp
      clear hp
      gi_wp2
      refine ⟨fun f h => (by cases h), ?_⟩
      gi_wp2
      go_end0
      exact ⟨⟨_, rfl⟩, .inl ⟨_, HP.out, hJ⟩⟩
    · obtain ⟨fn, tmps, assign, body, hy, hR⟩ := hY pre ⟨(j : Int), j, rfl, hj, ha⟩ wr hJ (by have := upTo_len hj ha; rw [← hp, List.length_map] at this; exact this)
      have hne : ((j : Int) != -1) = true := by rw [bne_iff_ne]; omega
      have HP := Lib.hid hp
      clear hp
      gi_wp2
      refine hR.mono ?_
      rintro e W3 (⟨rfl, hJ3, hk3⟩ | ⟨rfl, hJx3⟩)
      · have C3 := hC.stay hk3
        have B3 := (hk3.cell (p := ⟨Bn, 0, none⟩) hBT hbl).trans hB
        have l3 := Nat.lt_of_lt_of_le hbl hk3.size
        have r3 := C3.row
        obtain ⟨a, rfl, _, hal, hc3⟩ := C3.nx j hj ha
        have i1 : (j : Int) < (n : Int) := by omega
        gi_wp2
        go_roundw
        case rel => exact ⟨_, _, rfl, (by rw [List.map_append, HP.out]; exact At.next hj ha), C3, l3, B3, hJ3⟩
        case measure =>
          have hr := (nextOf_is n al j).range (by omega)
          rw [ms_pos n (z := (j : Int)) (by omega)]
          rcases hr with e | ⟨e1, e2, e3, _⟩
          · rw [ms_neg n (show nextOf n al j < 0 by omega)]; omega
          · rw [ms_pos n e3]; omega
      · gi_wp2
        go_end0
        exact ⟨⟨_, rfl⟩, .inr ⟨_, trivial, hJx3⟩⟩
theorem all_stops_t (F : Fence) (N : Nat) (h6 : F.fn 157) (hro : F.round = none) (hn : 1 ≤ N) (Bn g n c : Nat) (T : Nat → Prop) (p : Option Addr) (al : Nat → Bool) (w : World) (hBT : T Bn) (hBl : Bn < w.heap.size)
    (hBn : w.cell? ⟨Bn, 0, none⟩ = some (.pointer (some ⟨g, 0, none⟩))) (hL : ChT T w g n p c al) :
    SeqStopsK F N Tryz.prog 157 #[.pointer (some ⟨Bn, 0, none⟩)] (fun x : In n al => #[Value.int .i64 x.1]) (Stay T) (fun ys => ys.map Subtype.val = upTo al n) (fun _ => True) (upTo al n).length w := fun l J Jx W hW _ _ hY h0 =>
  all1_t F N h6 hro hn l Bn g n c T p al J Jx hY W hBT (Nat.lt_of_lt_of_le hBl hW.size) ((hW.cell (p := ⟨Bn, 0, none⟩) hBl).trans hBn) (hL.stay ⟨hW.size, fun k _ hl => hW.block k hl⟩) h0
end Go.Proofs.YtigpaaelggnffaaGreatDoor.Chain

/- utf.first, utf.Items (an iterator), classes.Table.Kind. -/
namespace Go.Proofs.YtigpaaelggnffaaGreatDoor.Cut
open Go.RowKit Go.Shelf Go.Proofs.YtigpaaelggnffaaGreatDoor.Lib Go.Proofs.YtigpaaelggnffaaGreatDoor.Sl Go.Proofs.YtigpaaelggnffaaGreatDoor.Chain
set_option linter.unusedVariables false
set_option linter.unusedSimpArgs false
attribute [local go_sem] Oper.semAt_some

theorem _root_.Go.Proofs.YtigpaaelggnffaaGreatDoor.Tabs.on {A B : World} (h : Tabs A) (hx : Ext (fun _ => False) A B) : Tabs B := h.keep (fun k _ hl => hx.block k hl (fun h => h))
theorem _root_.Go.Proofs.YtigpaaelggnffaaGreatDoor.Tabs.ext {A B : World} {S : Nat → Prop} (h : Tabs A) (hx : Ext S A B) (hS : ∀ k, TabBlk k → ¬ S k) : Tabs B := h.keep (fun k hk hl => hx.block k hl (hS k hk))
def itV (x : Item) : Value := .agg #[.int .i64 x.at_, .int .i64 x.n, .int .i32 x.r, .bool x.bad]
set_option maxRecDepth 100000 in
set_option maxHeartbeats 2000000 in
theorem first_any (s : ByteArray) (k : Nat) (hk : k < s.size) (j : Nat) (w : World) (hT : Tabs w) :
    Calls Tryz.prog 151 #[.string (s.extract k s.size), .int .i64 j] w fun e w' => e = .returned (.agg #[.int .i64 j, .int .i64 (itemAt s k).n, .int .i32 (itemAt s k).r, .bool (itemAt s k).bad]) ∧ Ext (fun _ => False) w w' := by
  have hz : (s.extract k s.size).size ≠ 0 := by rw [ByteArray.size_extract]; omega
  have hd : Go.Lib.decodeGo (s.extract k s.size) = Utf8.decode (s.extract k s.size) 0 := if_neg hz
  have C := decode_any (s.extract k s.size) (w.alloc (.cells #[.int .i64 0, .int .i64 0, .int .i32 0, .bool false] 219)) (hT.on ((Ext.refl _ _).alloc _))
  rw [hd] at C
  have hb : (itemAt s k).bad = ((Utf8.decode (s.extract k s.size) 0).1 == 65533 && (Utf8.decode (s.extract k s.size) 0).2 == 1) := rfl
  rw [show (itemAt s k).n = (Utf8.decode (s.extract k s.size) 0).2 from rfl, show (itemAt s k).r = (Utf8.decode (s.extract k s.size) 0).1 from rfl, hb]
  obtain ⟨D, hD⟩ : ∃ D, Utf8.decode (s.extract k s.size) 0 = D := ⟨_, rfl⟩
  rw [hD] at C ⊢
  obtain ⟨r, n⟩ := D
  have C := Lib.hid C
  have B0 : (w.alloc (.cells #[.int .i64 0, .int .i64 0, .int .i32 0, .bool false] 219)).heap[w.heap.size]? = some (.cells #[.int .i64 0, .int .i64 0, .int .i32 0, .bool false] 219 (0, 0)) := heap_alloc_new w _
  have B0 := Lib.hid B0
  have HD := Lib.hid hd
  clear hd hD hb hz
  go_enter Tryz.func151, Tryz.ntmps151
  go_wp2_with fail
  refine C.out.mono ?_
  rintro e W ⟨rfl, hb⟩
  have X := Lib.hid (show Ext (fun _ => False) w W from ((Ext.refl (fun _ => False) w).alloc (.cells #[.int .i64 0, .int .i64 0, .int .i32 0, .bool false] 219)).trans (Ext.of_below hb) (fun _ _ h => h))
  have B1 := (hb.block w.heap.size (by simp)).trans B0.out
  have c0 := blk_cell B1 0
  have c1 := blk_cell B1 1
  have c2 := blk_cell B1 2
  have c3 := blk_cell B1 3
  have f0 := blk_frozen B1 0
  have f1 := blk_frozen B1 1
  have f2 := blk_frozen B1 2
  have f3 := blk_frozen B1 3
  simp at c0 c1 c2 c3
  have hsz : w.heap.size < W.heap.size := blk_lt B1
  have XE := Lib.hid (show ∀ a b c d, Ext (fun _ => False) w ((((W.setCell ⟨w.heap.size, 0, none⟩ a).setCell ⟨w.heap.size, 1, none⟩ b).setCell ⟨w.heap.size, 2, none⟩ c).setCell ⟨w.heap.size, 3, none⟩ d) from fun a b c d =>
    X.out.trans (((((Ext.refl (fun k => k = w.heap.size) W).setCell (fun _ => rfl) _).setCell (fun _ => rfl) _).setCell (fun _ => rfl) _).setCell (fun _ => rfl) _) (fun i hi h => by omega))
  clear hb B1
  by_cases hr : r = 65533
  · subst hr
    have d1 : (((65533 : Nat) : Int) == 65533) = true := rfl
    by_cases hn : n = 1
    · subst hn
      have BE := Lib.hid (show ((65533 : Nat) == 65533 && (1 : Nat) == 1) = true from rfl)
      go_wp2_with fail
      exact bodyPost_ret (v := .agg #[.int .i64 j, .int .i64 1, .int .i32 65533, .bool true]) (by simp [results, Tryz.results151, go_sem, c0, c1, c2, c3]) rfl ⟨by rw [BE.out] <;> rfl, XE.out _ _ _ _⟩
    · have BE := Lib.hid (show ((65533 : Nat) == 65533 && n == 1) = false from by simp [hn])
      have d2 : ((n : Int) == 1) = false := beq_eq_false_iff_ne.2 (by omega)
      go_wp2_with fail
      exact bodyPost_ret (v := .agg #[.int .i64 j, .int .i64 n, .int .i32 65533, .bool false]) (by simp [results, Tryz.results151, go_sem, c0, c1, c2, c3]) rfl ⟨by rw [BE.out] <;> rfl, XE.out _ _ _ _⟩
  · have BE := Lib.hid (show ((r == 65533) && n == 1) = false from by simp [hr])
    have d1 : ((r : Int) == 65533) = false := beq_eq_false_iff_ne.2 (by omega)
    go_wp2_with fail
    exact bodyPost_ret (v := .agg #[.int .i64 j, .int .i64 n, .int .i32 r, .bool false]) (by simp [results, Tryz.results151, go_sem, c0, c1, c2, c3]) rfl ⟨by rw [BE.out] <;> rfl, XE.out _ _ _ _⟩
/-- The items of a text, as the loops over them know them. -/
abbrev It (s : ByteArray) : Type := { x : Item // 1 ≤ x.n ∧ x.n ≤ 4 ∧ x.at_ + x.n ≤ s.size }
def itOf {s : ByteArray} {k : Nat} (h : k < s.size) : It s := ⟨itemAt s k, (itemAt_bd h).1, (itemAt_bd h).2.2.1, (itemAt_bd h).2.1⟩
theorem ext_grown {A B : World} (h : Ext (fun _ => False) A B) : A.grownBy B none := ⟨h.os, h.tape, h.output, h.size, fun k hk _ => h.block k hk (fun h => h)⟩
/-- What a round keeps: all rows that are there, but V's. -/
structure KeepC (V : Nat → Prop) (A B : World) : Prop where
  size : A.heap.size ≤ B.heap.size
  same : ∀ (k : Nat) (o : Obj), A.heap[k]? = some o → o.isCells = true → ¬ V k → B.heap[k]? = some o
theorem KeepC.refl (V : Nat → Prop) (A : World) : KeepC V A A := ⟨Nat.le_refl _, fun _ _ h _ _ => h⟩
theorem KeepC.trans {V : Nat → Prop} {A B C : World} (h : KeepC V A B) (k : KeepC V B C) : KeepC V A C := ⟨Nat.le_trans h.size k.size, fun i o hi hc hv => k.same i o (h.same i o hi hc hv) hc hv⟩
theorem KeepC.ext {V S : Nat → Prop} {A B : World} (h : Ext S A B) (hS : ∀ k, S k → k < A.heap.size → V k) : KeepC V A B :=
  ⟨h.size, fun k o hk _ hv => h.obj hk (fun s => hv (hS k s (blk_lt hk)))⟩
theorem cells_of {w : World} {p : Addr} {v : Value} (h : w.cell? p = some v) : ∃ o, w.heap[p.block]? = some o ∧ o.isCells = true := by
  unfold World.cell? at h
  cases ho : w.heap[p.block]? with
  | none => rw [ho] at h; simp at h
  | some o =>
    refine ⟨o, rfl, ?_⟩
    rw [ho] at h
    cases o <;> first | rfl | (simp at h)
theorem KeepC.cell {V : Nat → Prop} {A B : World} (h : KeepC V A B) {p : Addr} {v : Value} (hc : A.cell? p = some v) (hv : ¬ V p.block) : B.cell? p = some v := by
  obtain ⟨o, ho, hoc⟩ := cells_of hc
  exact (World.cell?_of_block ((h.same _ _ ho hoc hv).trans ho.symm)).trans hc
theorem keepC_b {V : Nat → Prop} (W : World) (l : Nat) (o o' : Obj) (h : W.heap[l]? = some o) (hc : o.isCells = false) : KeepC V W (W.putObj l o') := by
  have hg := grownBy_putObj' W l o'
  exact ⟨hg.size, fun k x hx hxc _ => (hg.block k (blk_lt hx) (fun e => by cases e; rw [h] at hx; cases hx; rw [hc] at hxc; cases hxc)).trans hx⟩
/-- What the iterator reads. -/
structure ItSt (V : Nat → Prop) (s : ByteArray) (Bs : Nat) (w : World) : Prop where
  box : w.cell? ⟨Bs, 0, none⟩ = some (.string s)
  bv : ¬ V Bs
  tabs : Tabs w
  tv : ∀ k, TabBlk k → ¬ V k
theorem ItSt.keep {V : Nat → Prop} {s : ByteArray} {Bs : Nat} {A B : World} (h : ItSt V s Bs A) (hs : KeepC V A B) : ItSt V s Bs B :=
  ⟨hs.cell h.box h.bv, h.bv, h.tabs.move (fun b o v hb hc => hs.cell hc (h.tv b hb)), h.tv⟩
theorem ItSt.on {V : Nat → Prop} {s : ByteArray} {Bs : Nat} {A B : World} (h : ItSt V s Bs A) (hx : Ext (fun _ => False) A B) : ItSt V s Bs B := h.keep (KeepC.ext hx (fun _ h _ => h.elim))
set_option maxRecDepth 100000 in
set_option maxHeartbeats 2000000 in
theorem items1_in (N : Nat) (hn : 1 ≤ N) (l Bs : Nat) (V : Nat → Prop) (s : ByteArray) (hs : s.size ≤ 140737488351232) (J Jx : List (It s) → World → Prop)
    (hY : ∀ (pre : List (It s)) (x : It s) W, J pre W → pre.length < (items s).length → YieldAt Fence.wide (N - 1) Tryz.prog l #[itV x.1] W fun e W' =>
      (e = .returned (.bool true) ∧ J (pre ++ [x]) W' ∧ KeepC V W W') ∨ (e = .returned (.bool false) ∧ Jx (pre ++ [x]) W'))
    (hJ : ∀ pre A B, J pre A → Ext (fun _ => False) A B → J pre B)
    (W : World) (hV : ∀ k, V k → k < W.heap.size) (hL : ItSt V s Bs W) (h0 : J [] W) :
    CallsIn Fence.wide N Tryz.prog 150 #[.func (.yield l) #[] #[], .pointer (some ⟨Bs, 0, none⟩)] W fun e W' => (∃ v, e = .returned v) ∧
      ((∃ ys : List (It s), ys.map Subtype.val = items s ∧ J ys W') ∨ (∃ pre : List (It s), pre.map Subtype.val <+: items s ∧ Jx pre W')) := by
  refine callsIn_of_wp Tryz.func150 rfl trivial ?_ rfl
  simp only [Tryz.ntmps150, List.size_toArray, List.length_cons, List.length_nil, Nat.reduceAdd, Nat.reduceSub, Array.replicate_succ, Array.replicate_zero, List.push_toArray, List.append_toArray, List.nil_append, List.cons_append]
  gi_wp2
  gi_loopw [3] (fun i wr => ∃ (k f : Nat) (pre : List (It s)), i = .int .i64 k ∧ items s = pre.map Subtype.val ++ itemsGo s f k ∧ s.size - k ≤ f ∧ k ≤ s.size ∧ ItSt V s Bs wr ∧ W.heap.size ≤ wr.heap.size ∧ J pre wr)
    (fun i wr => s.size - (intOf i).toNat)
  case atStart => exact ⟨0, s.size, [], rfl, rfl, Nat.le_refl _, Nat.zero_le _, hL, Nat.le_refl _, h0⟩
  case round =>
    obtain ⟨k, f, pre, rfl, hit, hf, hk, hst, hsz, hj⟩ := hrel
    have ST := Lib.hid hst
    have HJ := Lib.hid hj
    have c0 := hst.box
    by_cases hlt : k < s.size
    · have i1 : (k : Int) < (s.size : Int) := by omega
      obtain ⟨f', hf1, hf2⟩ := itemsGo_cons hlt hf
      have hbd := itemAt_bd hlt
      rw [hf1] at hit
      have HIT := Lib.hid hit
      have PL := Lib.hid (show pre.length < (items s).length from by rw [hit, List.length_append, List.length_map, List.length_cons]; omega)
      clear hst hj hit hf1
      gi_wp2
      refine ⟨trivial, (callsIn_wide.2 (first_any s k hlt k wr ST.out.tabs)).mono ?_⟩
      rintro e w1 ⟨rfl, hx1⟩
      have X1 := Lib.hid (hx1.alloc (.cells #[.int .i64 k, .int .i64 (itemAt s k).n, .int .i32 (itemAt s k).r, .bool (itemAt s k).bad] 219))
      obtain ⟨fn, tmps, assign, body, hy, hR⟩ := hY pre (itOf hlt) _ (hJ _ _ _ HJ.out X1.out) PL.out
      have hy2 : (Instr.yield l #[.agg #[.int .i64 (k : Int), .int .i64 ((itemAt s k).n : Int), .int .i32 ((itemAt s k).r : Int), .bool (itemAt s k).bad]]).run Tryz.prog (w1.alloc (.cells #[.int .i64 k, .int .i64 (itemAt s k).n, .int .i32 (itemAt s k).r, .bool (itemAt s k).bad] 219)) = .ok (.round l fn tmps assign body) (w1.alloc (.cells #[.int .i64 k, .int .i64 (itemAt s k).n, .int .i32 (itemAt s k).r, .bool (itemAt s k).bad] 219)) := hy
      clear hy
      have B1 := Lib.hid (show (w1.alloc (.cells #[.int .i64 k, .int .i64 (itemAt s k).n, .int .i32 (itemAt s k).r, .bool (itemAt s k).bad] 219)).heap[w1.heap.size]? = _ from heap_alloc_new w1 _)
      have hvn : ¬ V w1.heap.size := fun h => by have := hV _ h; have := hx1.size; omega
      have HVN := Lib.hid hvn
      clear hx1 hvn
      gi_wp2
      refine hR.mono ?_
      rintro e W3 (⟨rfl, hJ3, hk3⟩ | ⟨rfl, hJx3⟩)
      · have S3 := Lib.hid ((ST.out.on X1.out).keep hk3)
        have b1 := blk_cell (hk3.same _ _ B1.out rfl HVN.out) 1
        simp at b1
        have z3 := Lib.hid (Nat.le_trans X1.out.size hk3.size)
        have HJ3 := Lib.hid hJ3
        have i2 : ((itemAt s k).n : Int) ≤ 4 := by omega
        have i3 : (0 : Int) ≤ ((itemAt s k).n : Int) := by omega
        clear hk3 hJ3
        gi_wp2
        go_roundw
        case rel => exact ⟨k + (itemAt s k).n, f', pre ++ [itOf hlt], by go_num, by rw [HIT.out, List.map_append, List.append_assoc]; rfl, hf2, hbd.2.1, S3.out, Nat.le_trans hsz z3.out, HJ3.out⟩
        case measure => simp [intOf]; omega
      · have HX3 := Lib.hid hJx3
        clear hJx3
        gi_wp2
        refine bodyPost_ret (results_none rfl _ _ _) rfl ?_
        exact ⟨⟨_, rfl⟩, .inr ⟨pre ++ [itOf hlt], ⟨itemsGo s f' (k + (itemAt s k).n), by rw [HIT.out, List.map_append, List.append_assoc]; rfl⟩, HX3.out⟩⟩
    · have i1 : ¬ (k : Int) < (s.size : Int) := by omega
      rw [itemsGo_end (by omega)] at hit
      have HIT := Lib.hid hit
      clear hst hj hit
      gi_wp2
      go_end0
      exact ⟨⟨_, rfl⟩, .inl ⟨pre, by have := HIT.out; rw [List.append_nil] at this; exact this.symm, HJ.out⟩⟩
end Go.Proofs.YtigpaaelggnffaaGreatDoor.Cut
