/- chain: plain laws on the rows of a chain (no program). -/
import Derived.KernelRfl
namespace Go.Proofs.Ytbepmbihonnkaaa.Chain
set_option linter.unusedVariables false
set_option linter.unusedSimpArgs false

/-- r is the least number above i that stands there, or -1. -/
def IsNext (n : Nat) (al : Nat → Bool) (i r : Int) : Prop :=
  (r = -1 ∧ ∀ j : Nat, i < j → j < n → al j = false) ∨ (∃ j : Nat, r = j ∧ i < j ∧ j < n ∧ al j = true ∧ ∀ k : Nat, i < k → k < j → al k = false)
/-- r is the greatest number below i that stands there, or -1. -/
def IsPrev (al : Nat → Bool) (i r : Int) : Prop :=
  (r = -1 ∧ ∀ j : Nat, (j : Int) < i → al j = false) ∨ (∃ j : Nat, r = j ∧ (j : Int) < i ∧ al j = true ∧ ∀ k : Nat, j < k → (k : Int) < i → al k = false)

theorem IsNext.uniq {n : Nat} {al : Nat → Bool} {i r s : Int} (h : IsNext n al i r) (k : IsNext n al i s) : r = s := by
  rcases h with ⟨rfl, h⟩ | ⟨j, rfl, h1, h2, h3, h4⟩ <;> rcases k with ⟨rfl, k⟩ | ⟨l, rfl, k1, k2, k3, k4⟩
  · rfl
  · rw [h l k1 k2] at k3; cases k3
  · rw [k j h1 h2] at h3; cases h3
  · rcases Nat.lt_trichotomy j l with x | x | x
    · rw [k4 j h1 x] at h3; cases h3
    · rw [x]
    · rw [h4 l k1 x] at k3; cases k3
theorem IsPrev.uniq {al : Nat → Bool} {i r s : Int} (h : IsPrev al i r) (k : IsPrev al i s) : r = s := by
  rcases h with ⟨rfl, h⟩ | ⟨j, rfl, h1, h2, h4⟩ <;> rcases k with ⟨rfl, k⟩ | ⟨l, rfl, k1, k2, k4⟩
  · rfl
  · rw [h l k1] at k2; cases k2
  · rw [k j h1] at h2; cases h2
  · rcases Nat.lt_trichotomy j l with x | x | x
    · rw [h4 l x k1] at k2; cases k2
    · rw [x]
    · rw [k4 j x h1] at h2; cases h2

def nextOf (n : Nat) (al : Nat → Bool) (i : Int) : Int :=
  match (List.range n).find? (fun (j : Nat) => decide (i < (j : Int)) && al j) with
  | some j => j
  | none => -1
def prevOf (al : Nat → Bool) (i : Int) : Int :=
  match (List.range i.toNat).reverse.find? al with
  | some j => j
  | none => -1

theorem find_range (n : Nat) (p : Nat → Bool) : ((List.range n).find? p = none ∧ ∀ j, j < n → p j = false) ∨ ∃ j, (List.range n).find? p = some j ∧ j < n ∧ p j = true ∧ ∀ k, k < j → p k = false := by
  induction n with
  | zero => exact .inl ⟨rfl, fun j h => absurd h (Nat.not_lt_zero _)⟩
  | succ n ih =>
    rw [List.range_succ, List.find?_append]
    rcases ih with ⟨h, h'⟩ | ⟨j, h, h1, h2, h3⟩
    · rw [h]
      cases hp : p n with
      | true => exact .inr ⟨n, by simp [hp], by omega, hp, h'⟩
      | false =>
        refine .inl ⟨by simp [hp], fun j hj => ?_⟩
        rcases Nat.lt_or_ge j n with x | x
        · exact h' j x
        · rw [show j = n from by omega]; exact hp
    · rw [h]
      exact .inr ⟨j, rfl, by omega, h2, h3⟩
theorem find_range_rev (n : Nat) (p : Nat → Bool) : ((List.range n).reverse.find? p = none ∧ ∀ j, j < n → p j = false) ∨ ∃ j, (List.range n).reverse.find? p = some j ∧ j < n ∧ p j = true ∧ ∀ k, j < k → k < n → p k = false := by
  induction n with
  | zero => exact .inl ⟨rfl, fun j h => absurd h (Nat.not_lt_zero _)⟩
  | succ n ih =>
    rw [List.range_succ, List.reverse_append, List.reverse_singleton, List.singleton_append, List.find?_cons]
    cases hp : p n with
    | true => exact .inr ⟨n, rfl, by omega, hp, fun k h1 h2 => by omega⟩
    | false =>
      rcases ih with ⟨h, h'⟩ | ⟨j, h, h1, h2, h3⟩
      · refine .inl ⟨h, fun j hj => ?_⟩
        rcases Nat.lt_or_ge j n with x | x
        · exact h' j x
        · rw [show j = n from by omega]; exact hp
      · refine .inr ⟨j, h, by omega, h2, fun k k1 k2 => ?_⟩
        rcases Nat.lt_or_ge k n with x | x
        · exact h3 k k1 x
        · rw [show k = n from by omega]; exact hp

theorem nextOf_is (n : Nat) (al : Nat → Bool) (i : Int) : IsNext n al i (nextOf n al i) := by
  unfold nextOf
  rcases find_range n (fun (j : Nat) => decide (i < (j : Int)) && al j) with ⟨h, h'⟩ | ⟨j, h, h1, h2, h3⟩
  · rw [h]
    refine .inl ⟨rfl, fun j hi hj => ?_⟩
    have := h' j hj
    simpa [hi] using this
  · rw [h]
    simp only [Bool.and_eq_true, decide_eq_true_eq] at h2
    refine .inr ⟨j, rfl, h2.1, h1, h2.2, fun k hk hk' => ?_⟩
    have := h3 k hk'
    simpa [hk] using this
theorem prevOf_is (al : Nat → Bool) (i : Int) : IsPrev al i (prevOf al i) := by
  unfold prevOf
  rcases find_range_rev i.toNat al with ⟨h, h'⟩ | ⟨j, h, h1, h2, h3⟩
  · rw [h]; exact .inl ⟨rfl, fun j hj => h' j (by omega)⟩
  · rw [h]; exact .inr ⟨j, rfl, by omega, h2, fun k hk hk' => h3 k hk (by omega)⟩

def inAl (al : Nat → Bool) (i : Int) : Bool := decide (0 ≤ i) && al i.toNat
def cnt (al : Nat → Bool) (n : Nat) : Nat := ((List.range n).filter al).length
def cutAl (al : Nat → Bool) (i : Nat) : Nat → Bool := fun j => al j && j != i

theorem cnt_succ (al : Nat → Bool) (n : Nat) : cnt al (n + 1) = cnt al n + (if al n then 1 else 0) := by
  unfold cnt
  rw [List.range_succ, List.filter_append, List.length_append]
  cases h : al n <;> simp [h]
theorem cnt_cut (al : Nat → Bool) (i : Nat) (ha : al i = true) (n : Nat) : cnt (cutAl al i) n + (if i < n then 1 else 0) = cnt al n := by
  induction n with
  | zero => simp [cnt]
  | succ n ih =>
    rw [cnt_succ, cnt_succ]
    rcases Nat.lt_trichotomy i n with x | x | x
    · rw [if_pos x] at ih
      rw [if_pos (show i < n + 1 by omega)]
      have : cutAl al i n = al n := by simp [cutAl]; omega
      rw [this]; omega
    · subst x
      rw [if_neg (Nat.lt_irrefl _)] at ih
      have : cutAl al i i = false := by simp [cutAl]
      rw [this, ha]; simp; omega
    · rw [if_neg (by omega)] at ih
      rw [if_neg (show ¬ i < n + 1 by omega)]
      have : cutAl al i n = al n := by simp [cutAl]; omega
      rw [this]; omega
theorem cnt_le (al : Nat → Bool) (n : Nat) : cnt al n ≤ n := by
  unfold cnt; have := List.length_filter_le al (List.range n); simpa using this
theorem cnt_pos (al : Nat → Bool) (n i : Nat) (h : i < n) (ha : al i = true) : 0 < cnt al n := by
  unfold cnt
  exact List.length_pos_of_mem (List.mem_filter.2 ⟨List.mem_range.2 h, ha⟩)

/-- The rows of a chain. -/
structure CInv (n : Nat) (al : Nat → Bool) (nx pv : List Int) (first len : Int) : Prop where
  nxl : nx.length = n
  pvl : pv.length = n
  out : ∀ i, n ≤ i → al i = false
  dead : ∀ i : Nat, i < n → al i = false → nx[i]? = some (i : Int) ∧ pv[i]? = some (i : Int)
  next : ∀ i : Nat, i < n → al i = true → nx[i]? = some (nextOf n al i)
  prev : ∀ i : Nat, i < n → al i = true → pv[i]? = some (prevOf al i)
  first : first = nextOf n al (-1)
  len : len = cnt al n

theorem IsNext.range {n : Nat} {al : Nat → Bool} {i r : Int} (h : IsNext n al i r) (hi : -1 ≤ i) : r = -1 ∨ (i < r ∧ r < n ∧ 0 ≤ r ∧ al r.toNat = true) := by
  rcases h with ⟨rfl, h⟩ | ⟨j, rfl, h1, h2, h3, h4⟩
  · exact .inl rfl
  · exact .inr ⟨h1, by omega, by omega, by simpa using h3⟩
theorem IsPrev.range {al : Nat → Bool} {i r : Int} (h : IsPrev al i r) : r = -1 ∨ (r < i ∧ 0 ≤ r ∧ al r.toNat = true) := by
  rcases h with ⟨rfl, h⟩ | ⟨j, rfl, h1, h2, h4⟩
  · exact .inl rfl
  · exact .inr ⟨h1, by omega, by simpa using h2⟩

theorem cutAl_ne {al : Nat → Bool} {i j : Nat} (h : j ≠ i) : cutAl al i j = al j := by simp [cutAl, h]
theorem cutAl_self {al : Nat → Bool} {i : Nat} : cutAl al i i = false := by simp [cutAl]
theorem cutAl_le {al : Nat → Bool} {i j : Nat} (h : al j = false) : cutAl al i j = false := by simp [cutAl, h]

/-- Cutting i out: the next of another number. -/
theorem next_cut {n : Nat} {al : Nat → Bool} {i : Nat} {j r q : Int} (hi : i < n) (ha : al i = true) (h : IsNext n al j r) (hq : IsNext n al i q) : IsNext n (cutAl al i) j (if r = i then q else r) := by
  split
  · rename_i e
    subst e
    rcases h with ⟨h0, _⟩ | ⟨k, hk, h1, h2, h3, h4⟩
    · omega
    · have : k = i := by omega
      subst this
      rcases hq with ⟨rfl, h⟩ | ⟨l, rfl, g1, g2, g3, g4⟩
      · refine .inl ⟨rfl, fun x hx hx' => ?_⟩
        rcases Nat.lt_trichotomy x k with y | y | y
        · exact cutAl_le (h4 x hx y)
        · rw [y]; exact cutAl_self
        · exact cutAl_le (h x (by omega) hx')
      · refine .inr ⟨l, rfl, by omega, g2, by rw [cutAl_ne (by omega)]; exact g3, fun x hx hx' => ?_⟩
        rcases Nat.lt_trichotomy x k with y | y | y
        · exact cutAl_le (h4 x hx y)
        · rw [y]; exact cutAl_self
        · exact cutAl_le (g4 x (by omega) hx')
  · rename_i e
    rcases h with ⟨rfl, h⟩ | ⟨k, rfl, h1, h2, h3, h4⟩
    · exact .inl ⟨rfl, fun x hx hx' => cutAl_le (h x hx hx')⟩
    · exact .inr ⟨k, rfl, h1, h2, by rw [cutAl_ne (by omega)]; exact h3, fun x hx hx' => cutAl_le (h4 x hx hx')⟩
theorem prev_cut {al : Nat → Bool} {i : Nat} {j r p : Int} (ha : al i = true) (h : IsPrev al j r) (hp : IsPrev al i p) : IsPrev (cutAl al i) j (if r = i then p else r) := by
  split
  · rename_i e
    subst e
    rcases h with ⟨h0, _⟩ | ⟨k, hk, h1, h3, h4⟩
    · omega
    · have : k = i := by omega
      subst this
      rcases hp with ⟨rfl, h⟩ | ⟨l, rfl, g1, g3, g4⟩
      · refine .inl ⟨rfl, fun x hx => ?_⟩
        rcases Nat.lt_trichotomy x k with y | y | y
        · exact cutAl_le (h x (by omega))
        · rw [y]; exact cutAl_self
        · exact cutAl_le (h4 x y hx)
      · refine .inr ⟨l, rfl, by omega, by rw [cutAl_ne (by omega)]; exact g3, fun x hx hx' => ?_⟩
        rcases Nat.lt_trichotomy x k with y | y | y
        · exact cutAl_le (g4 x hx (by omega))
        · rw [y]; exact cutAl_self
        · exact cutAl_le (h4 x y hx')
  · rename_i e
    rcases h with ⟨rfl, h⟩ | ⟨k, rfl, h1, h3, h4⟩
    · exact .inl ⟨rfl, fun x hx => cutAl_le (h x hx)⟩
    · exact .inr ⟨k, rfl, h1, by rw [cutAl_ne (by omega)]; exact h3, fun x hx hx' => cutAl_le (h4 x hx hx')⟩

/-- The number ahead of i is the one whose next is i. -/
theorem next_is_prev {n : Nat} {al : Nat → Bool} {i j : Nat} (ha : al i = true) (hi : i < n) (hj : al j = true) : nextOf n al j = i ↔ prevOf al i = j := by
  constructor
  · intro e
    have h := nextOf_is n al j
    rw [e] at h
    refine (prevOf_is al i).uniq (.inr ⟨j, rfl, ?_, hj, fun k hk hk' => ?_⟩)
    all_goals rcases h with ⟨h0, _⟩ | ⟨k', hk'', h1, h2, h3, h4⟩
    · omega
    · omega
    · omega
    · exact h4 k (by omega) (by omega)
  · intro e
    have h := prevOf_is al i
    rw [e] at h
    refine (nextOf_is n al j).uniq (.inr ⟨i, rfl, ?_, hi, ha, fun k hk hk' => ?_⟩)
    all_goals rcases h with ⟨h0, _⟩ | ⟨k', hk'', h1, h2, h4⟩
    · omega
    · omega
    · omega
    · exact h4 k (by omega) (by omega)

def cutNx (nx : List Int) (i : Nat) (p q : Int) : List Int := (if p = -1 then nx else nx.set p.toNat q).set i i
def cutPv (pv : List Int) (i : Nat) (p q : Int) : List Int := (if q = -1 then pv else pv.set q.toNat p).set i i

theorem CInv.cut {n : Nat} {al : Nat → Bool} {nx pv : List Int} {first len : Int} (h : CInv n al nx pv first len) {i : Nat} (hi : i < n) (ha : al i = true) :
    CInv n (cutAl al i) (cutNx nx i (prevOf al i) (nextOf n al i)) (cutPv pv i (prevOf al i) (nextOf n al i)) (if prevOf al i = -1 then nextOf n al i else first) (len - 1) := by
  have hN := nextOf_is n al i
  have hP := prevOf_is al i
  have rN := hN.range (by omega)
  have rP := hP.range
  have nl : (cutNx nx i (prevOf al i) (nextOf n al i)).length = n := by unfold cutNx; rw [List.length_set]; split <;> simp [h.nxl]
  have pl : (cutPv pv i (prevOf al i) (nextOf n al i)).length = n := by unfold cutPv; rw [List.length_set]; split <;> simp [h.pvl]
  -- what stands at another place j
  have nj : ∀ j : Nat, j ≠ i → (cutNx nx i (prevOf al i) (nextOf n al i))[j]? = if prevOf al i = j then (nx.set j (nextOf n al i))[j]? else nx[j]? := by
    intro j hj
    unfold cutNx
    rw [List.getElem?_set_ne (by omega)]
    split
    · rw [if_neg (by omega)]
    · by_cases e : prevOf al i = j
      · rw [if_pos e, e]; simp
      · rw [if_neg e, List.getElem?_set_ne (by omega)]
  have pj : ∀ j : Nat, j ≠ i → (cutPv pv i (prevOf al i) (nextOf n al i))[j]? = if nextOf n al i = j then (pv.set j (prevOf al i))[j]? else pv[j]? := by
    intro j hj
    unfold cutPv
    rw [List.getElem?_set_ne (by omega)]
    split
    · rw [if_neg (by omega)]
    · by_cases e : nextOf n al i = j
      · rw [if_pos e, e]; simp
      · rw [if_neg e, List.getElem?_set_ne (by omega)]
  refine ⟨nl, pl, fun j hj => cutAl_le (h.out j hj), fun j hj hd => ?_, fun j hj hd => ?_, fun j hj hd => ?_, ?_, ?_⟩
  · by_cases e : j = i
    · subst e
      have l1 : (if prevOf al j = -1 then nx else nx.set (prevOf al j).toNat (nextOf n al j)).length = n := by split <;> simp [h.nxl]
      have l2 : (if nextOf n al j = -1 then pv else pv.set (nextOf n al j).toNat (prevOf al j)).length = n := by split <;> simp [h.pvl]
      exact ⟨by unfold cutNx; rw [List.getElem?_set_self (by omega)], by unfold cutPv; rw [List.getElem?_set_self (by omega)]⟩
    · rw [cutAl_ne e] at hd
      have hdj := h.dead j hj hd
      rw [nj j e, pj j e]
      have e1 : ¬ prevOf al i = j := fun x => by
        rcases rP with y | ⟨_, _, y⟩
        · omega
        · rw [x] at y; simp [hd] at y
      have e2 : ¬ nextOf n al i = j := fun x => by
        rcases rN with y | ⟨_, _, _, y⟩
        · omega
        · rw [x] at y; simp [hd] at y
      rw [if_neg e1, if_neg e2]
      exact hdj
  · have e : j ≠ i := fun e => by rw [e, cutAl_self] at hd; cases hd
    rw [cutAl_ne e] at hd
    have hx := (nextOf_is n (cutAl al i) j).uniq (next_cut hi ha (nextOf_is n al j) hN)
    rw [nj j e, hx]
    by_cases e1 : prevOf al i = j
    · rw [if_pos e1, if_pos ((next_is_prev ha hi hd).2 e1), List.getElem?_set_self (by rw [h.nxl]; exact hj)]
    · rw [if_neg e1, if_neg (fun x => e1 ((next_is_prev ha hi hd).1 x))]
      exact h.next j hj hd
  · have e : j ≠ i := fun e => by rw [e, cutAl_self] at hd; cases hd
    rw [cutAl_ne e] at hd
    have hx := (prevOf_is (cutAl al i) j).uniq (prev_cut ha (prevOf_is al j) hP)
    rw [pj j e, hx]
    by_cases e1 : nextOf n al i = j
    · rw [if_pos e1, if_pos ((next_is_prev hd hj ha).1 e1), List.getElem?_set_self (by rw [h.pvl]; exact hj)]
    · rw [if_neg e1, if_neg (fun x => e1 ((next_is_prev hd hj ha).2 x))]
      exact h.prev j hj hd
  · have hx := (nextOf_is n (cutAl al i) (-1)).uniq (next_cut hi ha (nextOf_is n al (-1)) hN)
    rw [hx, ← h.first]
    have : prevOf al i = -1 ↔ first = i := by
      have hf := nextOf_is n al (-1)
      rw [← h.first] at hf
      constructor
      · intro e
        rw [e] at hP
        refine hf.uniq (.inr ⟨i, rfl, by omega, hi, ha, fun k _ hk => ?_⟩)
        rcases hP with ⟨_, y⟩ | ⟨j, y, _⟩
        · exact y k (by omega)
        · omega
      · intro e
        rw [e] at hf
        refine hP.uniq (.inl ⟨rfl, fun j hj => ?_⟩)
        rcases hf with ⟨y, _⟩ | ⟨k, y, _, _, _, z⟩
        · omega
        · exact z j (by omega) (by omega)
    by_cases e : prevOf al i = -1
    · rw [if_pos e, if_pos (this.1 e)]
    · rw [if_neg e, if_neg (fun x => e (this.2 x))]
  · rw [h.len]
    have := cnt_cut al i ha n
    rw [if_pos hi] at this
    omega

/-- All of them stand there. -/
def allAl (n : Nat) : Nat → Bool := fun i => decide (i < n)
def upFrom (k : Nat) (d : Int) : List Int := (List.range k).map fun (i : Nat) => (i : Int) + d
theorem upFrom_succ (k : Nat) (d : Int) : upFrom (k + 1) d = upFrom k d ++ [(k : Int) + d] := by simp [upFrom, List.range_succ]
theorem upFrom_length (k : Nat) (d : Int) : (upFrom k d).length = k := by simp [upFrom]
theorem upFrom_get (k : Nat) (d : Int) (i : Nat) (h : i < k) : (upFrom k d)[i]? = some ((i : Int) + d) := by simp [upFrom, h]
theorem next_all (n i : Nat) (h : i < n) : nextOf n (allAl n) i = if i + 1 = n then (-1 : Int) else (i : Int) + 1 := by
  refine (nextOf_is _ _ _).uniq ?_
  split
  · exact .inl ⟨rfl, fun j h1 h2 => by omega⟩
  · exact .inr ⟨i + 1, by omega, by omega, by omega, by simp [allAl]; omega, fun k h1 h2 => by omega⟩
theorem prev_all (n i : Nat) (h : i < n) : prevOf (allAl n) i = (i : Int) - 1 := by
  refine (prevOf_is _ _).uniq ?_
  by_cases e : i = 0
  · exact .inl ⟨by omega, fun j h1 => by omega⟩
  · exact .inr ⟨i - 1, by omega, by omega, by simp [allAl]; omega, fun k h1 h2 => by omega⟩
theorem cnt_all (n m : Nat) (h : m ≤ n) : cnt (allAl n) m = m := by
  induction m with
  | zero => rfl
  | succ m ih => rw [cnt_succ, ih (by omega)]; simp [allAl]; omega
theorem CInv.new (n : Nat) : CInv n (allAl n) (if n = 0 then [] else (upFrom n 1).set (n - 1) (-1)) (upFrom n (-1)) (if n = 0 then -1 else 0) n := by
  refine ⟨?_, upFrom_length _ _, fun i hi => by simp [allAl]; omega, fun i hi hd => by simp [allAl] at hd; omega, fun i hi _ => ?_, fun i hi _ => ?_, ?_, ?_⟩
  · split
    · subst_vars; rfl
    · simp [upFrom_length]
  · rw [if_neg (by omega), next_all n i hi]
    by_cases e : i + 1 = n
    · rw [if_pos e, show n - 1 = i from by omega, List.getElem?_set_self (by rw [upFrom_length]; exact hi)]
    · rw [if_neg e, List.getElem?_set_ne (by omega), upFrom_get n 1 i hi]
  · rw [upFrom_get n (-1) i hi, prev_all n i hi]; rfl
  · refine IsNext.uniq ?_ (nextOf_is n (allAl n) (-1))
    split
    · exact .inl ⟨rfl, fun j h1 h2 => by omega⟩
    · exact .inr ⟨0, rfl, by omega, by omega, by simp [allAl]; omega, fun k h1 h2 => by omega⟩
  · rw [cnt_all n n (Nat.le_refl _)]

/-- Behind a cut of k: the neighbours are side by side. -/
theorem cut_next {n : Nat} {al : Nat → Bool} {k : Nat} (hk : k < n) (ha : al k = true) (h0 : 0 ≤ prevOf al k) : (if inAl (cutAl al k) (prevOf al k) then nextOf n (cutAl al k) (prevOf al k) else -1) = nextOf n al k := by
  rcases (prevOf_is al k).range with h | ⟨h1, _, h2⟩
  · omega
  obtain ⟨a, hA⟩ := Int.eq_ofNat_of_zero_le h0
  rw [hA] at h1 h2 ⊢
  have h2' : al a = true := by simpa using h2
  have hn := (next_is_prev (n := n) ha hk h2').2 hA
  have hin : inAl (cutAl al k) a = true := by simp [inAl, cutAl, h2']; omega
  rw [if_pos hin]
  have := next_cut hk ha (nextOf_is n al a) (nextOf_is n al k)
  rw [if_pos hn] at this
  exact (nextOf_is _ _ _).uniq this
theorem cut_prev {n : Nat} {al : Nat → Bool} {k : Nat} (ha : al k = true) (h0 : 0 ≤ nextOf n al k) : (if inAl (cutAl al k) (nextOf n al k) then prevOf (cutAl al k) (nextOf n al k) else -1) = prevOf al k := by
  rcases (nextOf_is n al k).range (by omega) with h | ⟨h1, h3, _, h2⟩
  · omega
  obtain ⟨b, hB⟩ := Int.eq_ofNat_of_zero_le h0
  rw [hB] at h1 h2 h3 ⊢
  have h2' : al b = true := by simpa using h2
  have hp := (next_is_prev (n := n) h2' (by omega) ha).1 hB
  have hin : inAl (cutAl al k) b = true := by simp [inAl, cutAl, h2']; omega
  rw [if_pos hin]
  have := prev_cut ha (prevOf_is al b) (prevOf_is al k)
  rw [if_pos hp] at this
  exact (prevOf_is _ _).uniq this
end Go.Proofs.Ytbepmbihonnkaaa.Chain
