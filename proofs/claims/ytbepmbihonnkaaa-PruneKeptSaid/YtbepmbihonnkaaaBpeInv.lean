/- Merging, pure: the places that stand, the pairs that are kept. -/
import Derived.Test.YtbepmbihonnkaaaBpePure
import Derived.Test.YtbepmbihonnkaaaHeapBa
namespace Go.Proofs.Ytbepmbihonnkaaa.Bpe
open Go.Proofs.Ytbepmbihonnkaaa.Lib Go.Proofs.Ytbepmbihonnkaaa.Sl Go.Proofs.Ytbepmbihonnkaaa.Chain Go.Proofs.Ytbepmbihonnkaaa.ElBpe Go.Proofs.Ytbepmbihonnkaaa.HeapPure
set_option linter.unusedVariables false
set_option linter.unusedSimpArgs false

def aliveL (al : Nat → Bool) (n : Nat) : List Nat := (List.range n).filter al
def val (I : List Int) (i : Nat) : Int := I[i]?.getD 0
def cur (I : List Int) (al : Nat → Bool) (n : Nat) : List Int := (aliveL al n).map (val I)
theorem aliveL_length (al : Nat → Bool) (n : Nat) : (aliveL al n).length = cnt al n := rfl
theorem cur_length (I : List Int) (al : Nat → Bool) (n : Nat) : (cur I al n).length = cnt al n := by unfold cur; rw [List.length_map]; rfl
theorem range_split {n p : Nat} (h : p < n) : List.range n = List.range p ++ p :: List.range' (p + 1) (n - p - 1) := by
  rw [List.range_eq_range', List.range_eq_range']
  have h1 : p :: List.range' (p + 1) (n - p - 1) = List.range' p (n - p) := by
    rw [show n - p = (n - p - 1) + 1 from by omega, List.range'_succ]; rfl
  rw [h1]
  have := List.range'_append_1 (s := 0) (m := p) (n := n - p)
  rw [Nat.zero_add, show p + (n - p) = n from by omega] at this
  exact this.symm
theorem filter_gap (al : Nat → Bool) (s m : Nat) (h : ∀ k, s ≤ k → k < s + m → al k = false) : (List.range' s m).filter al = [] := by
  rw [List.filter_eq_nil_iff]
  intro a ha
  rw [List.mem_range'_1] at ha
  rw [h a ha.1 ha.2]
  simp
/-- Two places that stand side by side. -/
structure Adj (n : Nat) (al : Nat → Bool) (p q : Nat) : Prop where
  lt : p < q
  hn : q < n
  left : al p = true
  right : al q = true
  gap : ∀ k, p < k → k < q → al k = false
theorem adj_of {n : Nat} {al : Nat → Bool} {p : Nat} {q : Int} (hp : al p = true) (h : nextOf n al p = q) (hq : 0 ≤ q) : Adj n al p q.toNat := by
  have := nextOf_is n al p
  rw [h] at this
  rcases this with ⟨h0, _⟩ | ⟨j, hj, h1, h2, h3, h4⟩
  · omega
  · have : q.toNat = j := by omega
    rw [this]
    exact ⟨by omega, h2, hp, h3, fun k hk hk' => h4 k (by omega) hk'⟩
theorem Adj.next {n : Nat} {al : Nat → Bool} {p q : Nat} (h : Adj n al p q) : nextOf n al p = q :=
  (nextOf_is n al p).uniq (.inr ⟨q, rfl, by have := h.lt; omega, h.hn, h.right, fun k hk hk' => h.gap k (by omega) hk'⟩)
theorem Adj.prev {n : Nat} {al : Nat → Bool} {p q : Nat} (h : Adj n al p q) : prevOf al q = p :=
  (prevOf_is al q).uniq (.inr ⟨p, rfl, by have := h.lt; omega, h.left, fun k hk hk' => h.gap k hk (by omega)⟩)
theorem split_one {n : Nat} {al : Nat → Bool} {p : Nat} (h : p < n) (hp : al p = true) : aliveL al n = aliveL al p ++ p :: (List.range' (p + 1) (n - p - 1)).filter al := by
  unfold aliveL
  rw [range_split h, List.filter_append, List.filter_cons_of_pos hp]
theorem split_two {n : Nat} {al : Nat → Bool} {p q : Nat} (h : Adj n al p q) : aliveL al n = aliveL al p ++ p :: q :: (List.range' (q + 1) (n - q - 1)).filter al := by
  have h1 := h.lt
  have h2 := h.hn
  rw [split_one (by omega) h.left]
  congr 2
  have e : List.range' (p + 1) (n - p - 1) = List.range' (p + 1) (q - p - 1) ++ List.range' q (n - q) := by
    have := List.range'_append_1 (s := p + 1) (m := q - p - 1) (n := n - q)
    rw [show p + 1 + (q - p - 1) = q from by omega, show q - p - 1 + (n - q) = n - p - 1 from by omega] at this
    exact this.symm
  rw [e, List.filter_append, filter_gap al _ _ (fun k hk hk' => h.gap k (by omega) (by omega)), List.nil_append, show n - q = (n - q - 1) + 1 from by omega, List.range'_succ, List.filter_cons_of_pos h.right]
  rfl
theorem alive_at {n : Nat} {al : Nat → Bool} {p : Nat} (h : p < n) (hp : al p = true) : (aliveL al n)[cnt al p]? = some p := by
  rw [split_one h hp, List.getElem?_append_right (by rw [aliveL_length]; exact Nat.le_refl _), aliveL_length, Nat.sub_self]
  rfl
theorem alive_nodup (al : Nat → Bool) (n : Nat) : (aliveL al n).Nodup := List.Nodup.sublist (List.filter_sublist) List.nodup_range
theorem alive_place {n : Nat} {al : Nat → Bool} {j p : Nat} (h : (aliveL al n)[j]? = some p) : p < n ∧ al p = true ∧ j = cnt al p := by
  have hm := List.mem_of_getElem? h
  unfold aliveL at hm
  rw [List.mem_filter, List.mem_range] at hm
  refine ⟨hm.1, hm.2, ?_⟩
  have h2 := alive_at hm.1 hm.2
  obtain ⟨a1, a2⟩ := List.getElem?_eq_some_iff.1 h
  obtain ⟨b1, b2⟩ := List.getElem?_eq_some_iff.1 h2
  rcases Nat.lt_trichotomy j (cnt al p) with hh | hh | hh
  · exact absurd (a2.trans b2.symm) (List.pairwise_iff_getElem.1 (alive_nodup al n) _ _ a1 b1 hh)
  · exact hh
  · exact absurd (b2.trans a2.symm) (List.pairwise_iff_getElem.1 (alive_nodup al n) _ _ b1 a1 hh)
theorem adj_place {n : Nat} {al : Nat → Bool} {j p q : Nat} (h : (aliveL al n)[j]? = some p) (h' : (aliveL al n)[j + 1]? = some q) : Adj n al p q ∧ j = cnt al p := by
  obtain ⟨h1, h2, h3⟩ := alive_place h
  refine ⟨?_, h3⟩
  obtain ⟨k1, k2, k3⟩ := alive_place h'
  have hx : nextOf n al p = q := by
    rcases nextOf_is n al p with ⟨h0, hg⟩ | ⟨m, hm, g1, g2, g3, g4⟩
    · exfalso
      rw [split_one h1 h2, filter_gap al _ _ (fun k hk hk' => hg k (by omega) (by omega))] at h'
      have := (List.getElem?_eq_some_iff.1 h').1
      rw [List.length_append, aliveL_length] at this
      simp at this
      omega
    · have ha : Adj n al p m := ⟨by omega, g2, h2, g3, fun k hk hk' => g4 k (by omega) hk'⟩
      rw [split_two ha, List.getElem?_append_right (by rw [aliveL_length]; omega), aliveL_length, h3, show cnt al p + 1 - cnt al p = 1 from by omega] at h'
      simp at h'
      rw [hm, h']
  have := adj_of h2 hx (Int.natCast_nonneg q)
  simpa using this
theorem cnt_mono (al : Nat → Bool) {i j : Nat} (h : i ≤ j) : cnt al i ≤ cnt al j := by
  induction h with
  | refl => exact Nat.le_refl _
  | step h ih => rw [cnt_succ]; omega
theorem at_of {ms : List Mrg} {I : List Int} {al : Nat → Bool} {n p q r : Nat} {id : Int} (h : Adj n al p q) (hm : mergeOf ms (val I p) (val I q) = some (r, id)) : At ms (cur I al n) (cnt al p) r id := by
  refine ⟨val I p, val I q, ?_, ?_, hm⟩
  · unfold cur
    rw [split_two h, List.map_append, List.getElem?_append_right (by rw [List.length_map, aliveL_length]; exact Nat.le_refl _), List.length_map, aliveL_length, Nat.sub_self]
    rfl
  · unfold cur
    rw [split_two h, List.map_append, List.getElem?_append_right (by rw [List.length_map, aliveL_length]; omega), List.length_map, aliveL_length, show cnt al p + 1 - cnt al p = 1 from by omega]
    rfl
theorem of_at {ms : List Mrg} {I : List Int} {al : Nat → Bool} {n j r : Nat} {id : Int} (h : At ms (cur I al n) j r id) : ∃ p q, Adj n al p q ∧ j = cnt al p ∧ mergeOf ms (val I p) (val I q) = some (r, id) := by
  obtain ⟨a, b, h1, h2, h3⟩ := h
  unfold cur at h1 h2
  rw [List.getElem?_map] at h1 h2
  obtain ⟨p, hp, rfl⟩ := Option.map_eq_some_iff.1 h1
  obtain ⟨q, hq, rfl⟩ := Option.map_eq_some_iff.1 h2
  obtain ⟨ha, hj⟩ := adj_place hp hq
  exact ⟨p, q, ha, hj, h3⟩
theorem val_set (I : List Int) (p i : Nat) (id : Int) (hp : p < I.length) : val (I.set p id) i = if i = p then id else val I i := by
  unfold val
  rw [List.getElem?_set]
  by_cases h : p = i
  · subst h
    rw [if_pos rfl, if_pos hp, if_pos rfl]
    rfl
  · rw [if_neg h, if_neg (fun e => h e.symm)]
theorem cur_cut {I : List Int} {al : Nat → Bool} {n p q : Nat} {id : Int} (h : Adj n al p q) (hI : I.length = n) : cur (I.set p id) (cutAl al q) n = stepT (cur I al n) (cnt al p) id := by
  have hlt := h.lt
  have hn := h.hn
  have hp' : cutAl al q p = true := by rw [cutAl_ne (by omega)]; exact h.left
  have hA : aliveL (cutAl al q) p = aliveL al p := by
    unfold aliveL
    apply List.filter_congr
    intro x hx
    rw [List.mem_range] at hx
    exact cutAl_ne (by omega)
  have hB : (List.range' (p + 1) (n - p - 1)).filter (cutAl al q) = (List.range' (q + 1) (n - q - 1)).filter al := by
    have e : List.range' (p + 1) (n - p - 1) = List.range' (p + 1) (q - p) ++ List.range' (q + 1) (n - q - 1) := by
      have := List.range'_append_1 (s := p + 1) (m := q - p) (n := n - q - 1)
      rw [show p + 1 + (q - p) = q + 1 from by omega, show q - p + (n - q - 1) = n - p - 1 from by omega] at this
      exact this.symm
    rw [e, List.filter_append, filter_gap _ _ _ (fun k hk hk' => ?_), List.nil_append]
    · apply List.filter_congr
      intro x hx
      rw [List.mem_range'_1] at hx
      exact cutAl_ne (by omega)
    · rcases Nat.lt_or_ge k q with hh | hh
      · exact cutAl_le (h.gap k (by omega) hh)
      · obtain rfl : k = q := by omega
        exact cutAl_self
  have hL : cur (I.set p id) (cutAl al q) n = (aliveL al p).map (val I) ++ id :: ((List.range' (q + 1) (n - q - 1)).filter al).map (val I) := by
    unfold cur
    rw [split_one (by omega) hp', hA, hB, List.map_append, List.map_cons, val_set I p p id (by omega), if_pos rfl]
    congr 1
    · apply List.map_congr_left
      intro x hx
      unfold aliveL at hx
      rw [List.mem_filter, List.mem_range] at hx
      rw [val_set I p x id (by omega), if_neg (by omega)]
    · congr 1
      apply List.map_congr_left
      intro x hx
      rw [List.mem_filter, List.mem_range'_1] at hx
      rw [val_set I p x id (by omega), if_neg (by omega)]
  have hR : cur I al n = (aliveL al p).map (val I) ++ val I p :: val I q :: ((List.range' (q + 1) (n - q - 1)).filter al).map (val I) := by
    unfold cur
    rw [split_two h]
    simp
  rw [hL, hR]
  have hlen : ((aliveL al p).map (val I)).length = cnt al p := by rw [List.length_map]; rfl
  unfold stepT
  rw [List.set_append_right _ _ (by rw [hlen]; exact Nat.le_refl _), List.eraseIdx_append_of_length_le (by rw [hlen]; omega), hlen, Nat.sub_self, show cnt al p + 1 - cnt al p = 1 from by omega]
  rfl

/-! ### the pairs that are kept -/
def pairOf (I : List Int) (p q r : Nat) (id : Int) : El := ⟨r, p, q, val I p, val I q, id⟩
structure BInv (ms : List Mrg) (n : Nat) (I : List Int) (al : Nat → Bool) (H : List El) : Prop where
  len : I.length = n
  pair : ∀ e ∈ H, 0 ≤ e.f1 ∧ e.f1 < e.f2 ∧ e.f2 < n ∧ ∃ r : Nat, e.f0 = r ∧ mergeOf ms e.f3 e.f4 = some (r, e.f5)
  all : ∀ p q r id, Adj n al p q → mergeOf ms (val I p) (val I q) = some (r, id) → pairOf I p q r id ∈ H
  size : H.length + 2 * cnt al n ≤ 3 * n
theorem BInv.perm {ms : List Mrg} {n : Nat} {I : List Int} {al : Nat → Bool} {H H' : List El} (h : BInv ms n I al H) (hp : H.Perm H') : BInv ms n I al H' :=
  ⟨h.len, fun e he => h.pair e (hp.mem_iff.2 he), fun p q r id ha hm => hp.mem_iff.1 (h.all p q r id ha hm), by rw [← hp.length_eq]; exact h.size⟩
/-- A pair that is not out of date. -/
def Valid (n : Nat) (I : List Int) (al : Nat → Bool) (x : El) : Prop := Adj n al x.f1.toNat x.f2.toNat ∧ val I x.f1.toNat = x.f3 ∧ val I x.f2.toNat = x.f4
theorem weak_less : Weak HeapB.less := by
  refine ⟨?_, ?_, ?_⟩
  all_goals intros
  all_goals simp only [HeapB.less] at *
  all_goals grind
theorem less_false {a b : El} (h : HeapB.less a b = false) : b.f0 < a.f0 ∨ (a.f0 = b.f0 ∧ b.f1 ≤ a.f1) := by
  unfold HeapB.less at h
  by_cases e : a.f0 = b.f0
  · rw [if_pos e] at h
    simp at h
    exact .inr ⟨e, h⟩
  · rw [if_neg e] at h
    simp at h
    exact .inl (by omega)
theorem BInv.none {ms : List Mrg} {n : Nat} {I : List Int} {al : Nat → Bool} (h : BInv ms n I al []) : nextT ms (cur I al n) = none := by
  refine nextT_no fun j r id hc => ?_
  obtain ⟨p, q, ha, _, hm⟩ := of_at hc
  exact absurd (h.all p q r id ha hm) List.not_mem_nil
theorem BInv.next {ms : List Mrg} {n : Nat} {I : List Int} {al : Nat → Bool} {H : List El} {x : El} (h : BInv ms n I al H) (hx : x ∈ H) (hv : Valid n I al x) (hl : ∀ e ∈ H, HeapB.less e x = false) :
    nextT ms (cur I al n) = some (x.f0.toNat, cnt al x.f1.toNat, x.f5) := by
  obtain ⟨hv1, hv2, hv3⟩ := hv
  obtain ⟨h1, h2, h3, r, h4, h5⟩ := h.pair x hx
  have hr : x.f0.toNat = r := by omega
  rw [hr]
  refine nextT_is ⟨at_of hv1 (by rw [hv2, hv3]; exact h5), fun j r' id' hc => ?_⟩
  obtain ⟨p, q, ha, hj, hm⟩ := of_at hc
  have := less_false (hl _ (h.all p q r' id' ha hm))
  have e0 : (pairOf I p q r' id').f0 = (r' : Int) := rfl
  have e1 : (pairOf I p q r' id').f1 = (p : Int) := rfl
  rw [e0, e1] at this
  rw [hj]
  rcases this with hh | ⟨hh, hh'⟩
  · exact .inl (by omega)
  · exact .inr ⟨by omega, cnt_mono al (by omega)⟩
theorem BInv.throw {ms : List Mrg} {n : Nat} {I : List Int} {al : Nat → Bool} {H : List El} {x : El} (h : BInv ms n I al (x :: H)) (hv : ¬ Valid n I al x) : BInv ms n I al H := by
  refine ⟨h.len, fun e he => h.pair e (List.mem_cons_of_mem _ he), fun p q r id ha hm => ?_, by have := h.size; rw [List.length_cons] at this; omega⟩
  rcases List.mem_cons.1 (h.all p q r id ha hm) with rfl | hc
  · exact absurd ⟨by simpa [pairOf] using ha, by simp [pairOf], by simp [pairOf]⟩ hv
  · exact hc
/-- What a look puts in. -/
def lookL (ms : List Mrg) (n : Nat) (I : List Int) (l r : Int) : List El :=
  if l < 0 ∨ r < 0 ∨ (n : Int) ≤ r then [] else match mergeOf ms (val I l.toNat) (val I r.toNat) with
    | none => []
    | some (k, id) => [⟨k, l, r, val I l.toNat, val I r.toNat, id⟩]
theorem lookL_length (ms : List Mrg) (n : Nat) (I : List Int) (l r : Int) : (lookL ms n I l r).length ≤ 1 := by
  unfold lookL
  split
  · exact Nat.zero_le _
  · split
    · exact Nat.zero_le _
    · exact Nat.le_refl _
theorem lookL_mem {ms : List Mrg} {n : Nat} {I : List Int} {l r : Int} {e : El} (h : e ∈ lookL ms n I l r) : e.f1 = l ∧ e.f2 = r ∧ 0 ≤ l ∧ 0 ≤ r ∧ r < n ∧ ∃ k : Nat, e.f0 = k ∧ mergeOf ms e.f3 e.f4 = some (k, e.f5) := by
  unfold lookL at h
  split at h
  · cases h
  · rename_i hh
    split at h
    · cases h
    · rename_i k id hm
      rw [List.mem_singleton] at h
      subst h
      exact ⟨rfl, rfl, by omega, by omega, by omega, k, rfl, hm⟩
theorem lookL_in {ms : List Mrg} {n : Nat} {I : List Int} {p q k : Nat} {id : Int} (hq : q < n) (hm : mergeOf ms (val I p) (val I q) = some (k, id)) : pairOf I p q k id ∈ lookL ms n I p q := by
  unfold lookL
  rw [if_neg (by omega), Int.toNat_natCast, Int.toNat_natCast, hm]
  exact List.mem_singleton.2 rfl
theorem BInv.merge {ms : List Mrg} {n : Nat} {I : List Int} {al : Nat → Bool} {H : List El} {x : El} (h : BInv ms n I al (x :: H)) (hv : Valid n I al x) :
    BInv ms n (I.set x.f1.toNat x.f5) (cutAl al x.f2.toNat)
      (H ++ lookL ms n (I.set x.f1.toNat x.f5) (prevOf (cutAl al x.f2.toNat) x.f1) x.f1 ++ lookL ms n (I.set x.f1.toNat x.f5) x.f1 (nextOf n (cutAl al x.f2.toNat) x.f1)) := by
  obtain ⟨hv1, hv2, hv3⟩ := hv
  obtain ⟨h1, h2, h3, r, h4, h5⟩ := h.pair x (List.mem_cons_self ..)
  obtain ⟨f0, f1, f2, f3, f4, f5⟩ := x
  simp only at hv1 hv2 hv3 h1 h2 h3 h4 h5 ⊢
  obtain ⟨p, rfl⟩ : ∃ p : Nat, f1 = p := ⟨f1.toNat, by omega⟩
  obtain ⟨q, rfl⟩ : ∃ q : Nat, f2 = q := ⟨f2.toNat, by omega⟩
  rw [Int.toNat_natCast] at *
  rw [Int.toNat_natCast] at *
  have hI := h.len
  have hlt := hv1.lt
  have hpc : cutAl al q p = true := by rw [cutAl_ne (by omega)]; exact hv1.left
  refine ⟨by rw [List.length_set]; exact hI, fun e he => ?_, fun p' q' r' id' ha hm => ?_, ?_⟩
  · rw [List.mem_append, List.mem_append] at he
    rcases he with (he | he) | he
    · exact h.pair e (List.mem_cons_of_mem _ he)
    · obtain ⟨a1, a2, a3, a4, a5, a6⟩ := lookL_mem he
      rw [a1, a2]
      refine ⟨a3, ?_, a5, a6⟩
      rcases (prevOf_is (cutAl al q) p).range with hh | hh
      · omega
      · exact hh.1
    · obtain ⟨a1, a2, a3, a4, a5, a6⟩ := lookL_mem he
      rw [a1, a2]
      refine ⟨a3, ?_, a5, a6⟩
      rcases (nextOf_is n (cutAl al q) p).range (by omega) with hh | hh
      · omega
      · exact hh.1
  · rw [List.mem_append, List.mem_append]
    have hqn := ha.hn
    by_cases hp' : p' = p
    · subst hp'
      refine .inr ?_
      rw [ha.next]
      exact lookL_in ha.hn hm
    · by_cases hq' : q' = p
      · subst hq'
        refine .inl (.inr ?_)
        rw [ha.prev]
        exact lookL_in ha.hn hm
      · refine .inl (.inl ?_)
        have hne : p' ≠ q := fun e => by
          have := ha.left
          rw [e, cutAl_self] at this
          cases this
        have hne' : q' ≠ q := fun e => by
          have := ha.right
          rw [e, cutAl_self] at this
          cases this
        have hl : al p' = true := by have := ha.left; rwa [cutAl_ne hne] at this
        have hr : al q' = true := by have := ha.right; rwa [cutAl_ne hne'] at this
        have hlt' := ha.lt
        have hadj : Adj n al p' q' := by
          refine ⟨ha.lt, ha.hn, hl, hr, fun k hk hk' => ?_⟩
          by_cases hkq : k = q
          · subst hkq
            -- p' < q < q', so p' ≤ p; p stands between, or p' = p
            exfalso
            rcases Nat.lt_trichotomy p' p with hh | hh | hh
            · have := ha.gap p hh (by omega)
              rw [hpc] at this
              cases this
            · exact hp' hh
            · have := hv1.gap p' hh hk
              rw [hl] at this
              cases this
          · have := ha.gap k hk hk'
            rwa [cutAl_ne hkq] at this
        rw [val_set I p p' _ (by omega), val_set I p q' _ (by omega), if_neg hp', if_neg hq'] at hm
        have e1 : pairOf (I.set p f5) p' q' r' id' = pairOf I p' q' r' id' := by
          unfold pairOf
          rw [val_set I p p' _ (by omega), val_set I p q' _ (by omega), if_neg hp', if_neg hq']
        rw [e1]
        rcases List.mem_cons.1 (h.all p' q' r' id' hadj hm) with hc | hc
        · exfalso
          have : (pairOf I p' q' r' id').f1 = (p : Int) := by rw [hc]
          simp [pairOf] at this
          exact hp' (by omega)
        · exact hc
  · have e1 := h.size
    rw [List.length_cons] at e1
    have e2 := cnt_cut al q hv1.right n
    rw [if_pos hv1.hn] at e2
    have e3 := lookL_length ms n (I.set p f5) (prevOf (cutAl al q) p) p
    have e4 := lookL_length ms n (I.set p f5) p (nextOf n (cutAl al q) p)
    rw [List.length_append, List.length_append]
    omega
/-! ### the beginning -/
def beginL (ms : List Mrg) (I : List Int) (n : Nat) : Nat → List El
  | 0 => []
  | k + 1 => beginL ms I n k ++ lookL ms n I k ((k : Int) + 1)
theorem beginL_length (ms : List Mrg) (I : List Int) (n : Nat) : ∀ k, (beginL ms I n k).length ≤ k := by
  intro k
  induction k with
  | zero => exact Nat.le_refl _
  | succ k ih =>
    have := lookL_length ms n I k ((k : Int) + 1)
    rw [beginL, List.length_append]
    omega
theorem beginL_mem {ms : List Mrg} {I : List Int} {n : Nat} {e : El} : ∀ k, e ∈ beginL ms I n k → ∃ j : Nat, j < k ∧ e ∈ lookL ms n I j ((j : Int) + 1) := by
  intro k
  induction k with
  | zero => intro h; cases h
  | succ k ih =>
    intro h
    rw [beginL, List.mem_append] at h
    rcases h with h | h
    · obtain ⟨j, h1, h2⟩ := ih h
      exact ⟨j, by omega, h2⟩
    · exact ⟨k, by omega, h⟩
theorem beginL_in {ms : List Mrg} {I : List Int} {n : Nat} {e : El} {j : Nat} (h : e ∈ lookL ms n I j ((j : Int) + 1)) : ∀ k, j < k → e ∈ beginL ms I n k := by
  intro k
  induction k with
  | zero => intro h; omega
  | succ k ih =>
    intro hk
    rw [beginL, List.mem_append]
    by_cases hh : j < k
    · exact .inl (ih hh)
    · obtain rfl : j = k := by omega
      exact .inr h
theorem BInv.begin (ms : List Mrg) (I : List Int) : BInv ms I.length I (allAl I.length) (beginL ms I I.length I.length) := by
  refine ⟨rfl, fun e he => ?_, fun p q r id ha hm => ?_, ?_⟩
  · obtain ⟨j, hj, hm⟩ := beginL_mem _ he
    obtain ⟨a1, a2, a3, a4, a5, a6⟩ := lookL_mem hm
    rw [a1, a2]
    exact ⟨a3, by omega, a5, a6⟩
  · have h1 := ha.next
    have h2 := ha.lt
    have h3 := ha.hn
    rw [next_all _ _ (by omega)] at h1
    have hq : q = p + 1 := by
      split at h1 <;> omega
    subst hq
    refine beginL_in (j := p) ?_ _ (by omega)
    have := lookL_in (p := p) (q := p + 1) h3 hm
    rwa [Int.natCast_add] at this
  · have := beginL_length ms I I.length I.length
    rw [cnt_all _ _ (Nat.le_refl _)]
    omega
theorem cur_all (I : List Int) : cur I (allAl I.length) I.length = I := by
  apply List.ext_getElem?
  intro i
  unfold cur aliveL
  have : (List.range I.length).filter (allAl I.length) = List.range I.length := by
    rw [List.filter_eq_self]
    intro a ha
    rw [List.mem_range] at ha
    simp [allAl, ha]
  rw [this, List.getElem?_map]
  by_cases h : i < I.length
  · rw [List.getElem?_range h, Option.map_some, val, List.getElem?_eq_getElem h]
    rfl
  · rw [List.getElem?_eq_none (by rw [List.length_range]; omega), List.getElem?_eq_none (by omega)]
    rfl
end Go.Proofs.Ytbepmbihonnkaaa.Bpe
