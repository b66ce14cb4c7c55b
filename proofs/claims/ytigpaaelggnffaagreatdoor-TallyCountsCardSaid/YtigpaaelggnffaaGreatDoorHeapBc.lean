/- Merged of BpeInv, BpeModel, HeapBb, BpeLook, Same, BpeBegin, HeapBc. -/
import Derived.Test.YtigpaaelggnffaaGreatDoorHeapBa
import Derived.Test.YtigpaaelggnffaaGreatDoorRight
import Derived.BigQuiet
import Derived.Test.YtigpaaelggnffaaGreatDoorItems
import Derived.StillTailTactics
import Derived.Deep.RegionHeld3
import Derived.Test.YtigpaaelggnffaaGreatDoorSpanPure
import Derived.Deep.DeepCutAuto
import Derived.Deep.QuietTactic
/- Merging, pure: the places that stand, the pairs that are kept. -/
namespace Go.Proofs.YtigpaaelggnffaaGreatDoor.Bpe
open Go.Proofs.YtigpaaelggnffaaGreatDoor.Lib Go.Proofs.YtigpaaelggnffaaGreatDoor.Sl Go.Proofs.YtigpaaelggnffaaGreatDoor.Chain Go.Proofs.YtigpaaelggnffaaGreatDoor.ElBpe Go.Proofs.YtigpaaelggnffaaGreatDoor.HeapPure
set_option linter.unusedVariables false
set_option linter.unusedSimpArgs false

def aliveL (al : Nat → Bool) (n : Nat) : List Nat := (List.range n).filter al
def val (I : List Int) (i : Nat) : Int := I[i]?.getD 0
def cur (I : List Int) (al : Nat → Bool) (n : Nat) : List Int := (aliveL al n).map (val I)
theorem aliveL_length (al : Nat → Bool) (n : Nat) : (aliveL al n).length = cnt al n := rfl
theorem cur_length (I : List Int) (al : Nat → Bool) (n : Nat) : (cur I al n).length = cnt al n := by unfold cur; rw [List.length_map]; rfl
theorem range_split {n p : Nat} (h : p < n) : List.range n = List.range p ++ p :: List.range' (p + 1) (n - p - 1) := by
  rw [List.range_eq_range', List.range_eq_range']
  have h1 : p :: List.range' (p + 1) (n - p - 1) = List.range' p (n - p) := by
    rw [show n - p = (n - p - 1) + 1 from by omega, List.range'_succ]; rfl
  rw [h1]
  have := List.range'_append_1 (s := 0) (m := p) (n := n - p)
  rw [Nat.zero_add, show p + (n - p) = n from by omega] at this
  exact this.symm
theorem filter_gap (al : Nat → Bool) (s m : Nat) (h : ∀ k, s ≤ k → k < s + m → al k = false) : (List.range' s m).filter al = [] := by
  rw [List.filter_eq_nil_iff]
  intro a ha
  rw [List.mem_range'_1] at ha
  rw [h a ha.1 ha.2]
  simp
/-- Two places that stand side by side. -/
structure Adj (n : Nat) (al : Nat → Bool) (p q : Nat) : Prop where
  lt : p < q
  hn : q < n
  left : al p = true
  right : al q = true
  gap : ∀ k, p < k → k < q → al k = false
theorem adj_of {n : Nat} {al : Nat → Bool} {p : Nat} {q : Int} (hp : al p = true) (h : nextOf n al p = q) (hq : 0 ≤ q) : Adj n al p q.toNat := by
  have := nextOf_is n al p
  rw [h] at this
  rcases this with ⟨h0, _⟩ | ⟨j, hj, h1, h2, h3, h4⟩
  · omega
  · have : q.toNat = j := by omega
    rw [this]
    exact ⟨by omega, h2, hp, h3, fun k hk hk' => h4 k (by omega) hk'⟩
theorem Adj.next {n : Nat} {al : Nat → Bool} {p q : Nat} (h : Adj n al p q) : nextOf n al p = q :=
  (nextOf_is n al p).uniq (.inr ⟨q, rfl, by have := h.lt; omega, h.hn, h.right, fun k hk hk' => h.gap k (by omega) hk'⟩)
theorem Adj.prev {n : Nat} {al : Nat → Bool} {p q : Nat} (h : Adj n al p q) : prevOf al q = p :=
  (prevOf_is al q).uniq (.inr ⟨p, rfl, by have := h.lt; omega, h.left, fun k hk hk' => h.gap k hk (by omega)⟩)
theorem split_one {n : Nat} {al : Nat → Bool} {p : Nat} (h : p < n) (hp : al p = true) : aliveL al n = aliveL al p ++ p :: (List.range' (p + 1) (n - p - 1)).filter al := by
  unfold aliveL
  rw [range_split h, List.filter_append, List.filter_cons_of_pos hp]
theorem split_two {n : Nat} {al : Nat → Bool} {p q : Nat} (h : Adj n al p q) : aliveL al n = aliveL al p ++ p :: q :: (List.range' (q + 1) (n - q - 1)).filter al := by
  have h1 := h.lt
  have h2 := h.hn
  rw [split_one (by omega) h.left]
  congr 2
  have e : List.range' (p + 1) (n - p - 1) = List.range' (p + 1) (q - p - 1) ++ List.range' q (n - q) := by
    have := List.range'_append_1 (s := p + 1) (m := q - p - 1) (n := n - q)
    rw [show p + 1 + (q - p - 1) = q from by omega, show q - p - 1 + (n - q) = n - p - 1 from by omega] at this
    exact this.symm
  rw [e, List.filter_append, filter_gap al _ _ (fun k hk hk' => h.gap k (by omega) (by omega)), List.nil_append, show n - q = (n - q - 1) + 1 from by omega, List.range'_succ, List.filter_cons_of_pos h.right]
  rfl
theorem alive_at {n : Nat} {al : Nat → Bool} {p : Nat} (h : p < n) (hp : al p = true) : (aliveL al n)[cnt al p]? = some p := by
  rw [split_one h hp, List.getElem?_append_right (by rw [aliveL_length]; exact Nat.le_refl _), aliveL_length, Nat.sub_self]
  rfl
theorem alive_nodup (al : Nat → Bool) (n : Nat) : (aliveL al n).Nodup := List.Nodup.sublist (List.filter_sublist) List.nodup_range
theorem alive_place {n : Nat} {al : Nat → Bool} {j p : Nat} (h : (aliveL al n)[j]? = some p) : p < n ∧ al p = true ∧ j = cnt al p := by
  have hm := List.mem_of_getElem? h
  unfold aliveL at hm
  rw [List.mem_filter, List.mem_range] at hm
  refine ⟨hm.1, hm.2, ?_⟩
  have h2 := alive_at hm.1 hm.2
  obtain ⟨a1, a2⟩ := List.getElem?_eq_some_iff.1 h
  obtain ⟨b1, b2⟩ := List.getElem?_eq_some_iff.1 h2
  rcases Nat.lt_trichotomy j (cnt al p) with hh | hh | hh
  · exact absurd (a2.trans b2.symm) (List.pairwise_iff_getElem.1 (alive_nodup al n) _ _ a1 b1 hh)
  · exact hh
  · exact absurd (b2.trans a2.symm) (List.pairwise_iff_getElem.1 (alive_nodup al n) _ _ b1 a1 hh)
theorem adj_place {n : Nat} {al : Nat → Bool} {j p q : Nat} (h : (aliveL al n)[j]? = some p) (h' : (aliveL al n)[j + 1]? = some q) : Adj n al p q ∧ j = cnt al p := by
  obtain ⟨h1, h2, h3⟩ := alive_place h
  refine ⟨?_, h3⟩
  obtain ⟨k1, k2, k3⟩ := alive_place h'
  have hx : nextOf n al p = q := by
    rcases nextOf_is n al p with ⟨h0, hg⟩ | ⟨m, hm, g1, g2, g3, g4⟩
    · exfalso
      rw [split_one h1 h2, filter_gap al _ _ (fun k hk hk' => hg k (by omega) (by omega))] at h'
      have := (List.getElem?_eq_some_iff.1 h').1
      rw [List.length_append, aliveL_length] at this
      simp at this
      omega
    · have ha : Adj n al p m := ⟨by omega, g2, h2, g3, fun k hk hk' => g4 k (by omega) hk'⟩
      rw [split_two ha, List.getElem?_append_right (by rw [aliveL_length]; omega), aliveL_length, h3, show cnt al p + 1 - cnt al p = 1 from by omega] at h'
      simp at h'
      rw [hm, h']
  have := adj_of h2 hx (Int.natCast_nonneg q)
  simpa using this
theorem cnt_mono (al : Nat → Bool) {i j : Nat} (h : i ≤ j) : cnt al i ≤ cnt al j := by
  induction h with
  | refl => exact Nat.le_refl _
  | step h ih => rw [cnt_succ]; omega
theorem at_of {ms : List Mrg} {I : List Int} {al : Nat → Bool} {n p q r : Nat} {id : Int} (h : Adj n al p q) (hm : mergeOf ms (val I p) (val I q) = some (r, id)) : At ms (cur I al n) (cnt al p) r id := by
  refine ⟨val I p, val I q, ?_, ?_, hm⟩
  · unfold cur
    rw [split_two h, List.map_append, List.getElem?_append_right (by rw [List.length_map, aliveL_length]; exact Nat.le_refl _), List.length_map, aliveL_length, Nat.sub_self]
    rfl
  · unfold cur
    rw [split_two h, List.map_append, List.getElem?_append_right (by rw [List.length_map, aliveL_length]; omega), List.length_map, aliveL_length, show cnt al p + 1 - cnt al p = 1 from by omega]
    rfl
theorem of_at {ms : List Mrg} {I : List Int} {al : Nat → Bool} {n j r : Nat} {id : Int} (h : At ms (cur I al n) j r id) : ∃ p q, Adj n al p q ∧ j = cnt al p ∧ mergeOf ms (val I p) (val I q) = some (r, id) := by
  obtain ⟨a, b, h1, h2, h3⟩ := h
  unfold cur at h1 h2
  rw [List.getElem?_map] at h1 h2
  obtain ⟨p, hp, rfl⟩ := Option.map_eq_some_iff.1 h1
  obtain ⟨q, hq, rfl⟩ := Option.map_eq_some_iff.1 h2
  obtain ⟨ha, hj⟩ := adj_place hp hq
  exact ⟨p, q, ha, hj, h3⟩
theorem val_set (I : List Int) (p i : Nat) (id : Int) (hp : p < I.length) : val (I.set p id) i = if i = p then id else val I i := by
  unfold val
  rw [List.getElem?_set]
  by_cases h : p = i
  · subst h
    rw [if_pos rfl, if_pos hp, if_pos rfl]
    rfl
  · rw [if_neg h, if_neg (fun e => h e.symm)]
theorem cur_cut {I : List Int} {al : Nat → Bool} {n p q : Nat} {id : Int} (h : Adj n al p q) (hI : I.length = n) : cur (I.set p id) (cutAl al q) n = stepT (cur I al n) (cnt al p) id := by
  have hlt := h.lt
  have hn := h.hn
  have hp' : cutAl al q p = true := by rw [cutAl_ne (by omega)]; exact h.left
  have hA : aliveL (cutAl al q) p = aliveL al p := by
    unfold aliveL
    apply List.filter_congr
    intro x hx
    rw [List.mem_range] at hx
    exact cutAl_ne (by omega)
  have hB : (List.range' (p + 1) (n - p - 1)).filter (cutAl al q) = (List.range' (q + 1) (n - q - 1)).filter al := by
    have e : List.range' (p + 1) (n - p - 1) = List.range' (p + 1) (q - p) ++ List.range' (q + 1) (n - q - 1) := by
      have := List.range'_append_1 (s := p + 1) (m := q - p) (n := n - q - 1)
      rw [show p + 1 + (q - p) = q + 1 from by omega, show q - p + (n - q - 1) = n - p - 1 from by omega] at this
      exact this.symm
    rw [e, List.filter_append, filter_gap _ _ _ (fun k hk hk' => ?_), List.nil_append]
    · apply List.filter_congr
      intro x hx
      rw [List.mem_range'_1] at hx
      exact cutAl_ne (by omega)
    · rcases Nat.lt_or_ge k q with hh | hh
      · exact cutAl_le (h.gap k (by omega) hh)
      · obtain rfl : k = q := by omega
        exact cutAl_self
  have hL : cur (I.set p id) (cutAl al q) n = (aliveL al p).map (val I) ++ id :: ((List.range' (q + 1) (n - q - 1)).filter al).map (val I) := by
    unfold cur
    rw [split_one (by omega) hp', hA, hB, List.map_append, List.map_cons, val_set I p p id (by omega), if_pos rfl]
    congr 1
    · apply List.map_congr_left
      intro x hx
      unfold aliveL at hx
      rw [List.mem_filter, List.mem_range] at hx
      rw [val_set I p x id (by omega), if_neg (by omega)]
    · congr 1
      apply List.map_congr_left
      intro x hx
      rw [List.mem_filter, List.mem_range'_1] at hx
      rw [val_set I p x id (by omega), if_neg (by omega)]
  have hR : cur I al n = (aliveL al p).map (val I) ++ val I p :: val I q :: ((List.range' (q + 1) (n - q - 1)).filter al).map (val I) := by
    unfold cur
    rw [split_two h]
    simp
  rw [hL, hR]
  have hlen : ((aliveL al p).map (val I)).length = cnt al p := by rw [List.length_map]; rfl
  unfold stepT
  rw [List.set_append_right _ _ (by rw [hlen]; exact Nat.le_refl _), List.eraseIdx_append_of_length_le (by rw [hlen]; omega), hlen, Nat.sub_self, show cnt al p + 1 - cnt al p = 1 from by omega]
  rfl

/-! ### the pairs that are kept -/
def pairOf (I : List Int) (p q r : Nat) (id : Int) : El := ⟨r, p, q, val I p, val I q, id⟩
structure BInv (ms : List Mrg) (n : Nat) (I : List Int) (al : Nat → Bool) (H : List El) : Prop where
  len : I.length = n
  pair : ∀ e ∈ H, 0 ≤ e.f1 ∧ e.f1 < e.f2 ∧ e.f2 < n ∧ ∃ r : Nat, e.f0 = r ∧ mergeOf ms e.f3 e.f4 = some (r, e.f5)
  all : ∀ p q r id, Adj n al p q → mergeOf ms (val I p) (val I q) = some (r, id) → pairOf I p q r id ∈ H
  size : H.length + 2 * cnt al n ≤ 3 * n
theorem BInv.perm {ms : List Mrg} {n : Nat} {I : List Int} {al : Nat → Bool} {H H' : List El} (h : BInv ms n I al H) (hp : H.Perm H') : BInv ms n I al H' :=
  ⟨h.len, fun e he => h.pair e (hp.mem_iff.2 he), fun p q r id ha hm => hp.mem_iff.1 (h.all p q r id ha hm), by rw [← hp.length_eq]; exact h.size⟩
/-- A pair that is not out of date. -/
def Valid (n : Nat) (I : List Int) (al : Nat → Bool) (x : El) : Prop := Adj n al x.f1.toNat x.f2.toNat ∧ val I x.f1.toNat = x.f3 ∧ val I x.f2.toNat = x.f4
theorem weak_less : Weak HeapB.less := by
  refine ⟨?_, ?_, ?_⟩
  all_goals intros
  all_goals simp only [HeapB.less] at *
  all_goals grind
theorem less_false {a b : El} (h : HeapB.less a b = false) : b.f0 < a.f0 ∨ (a.f0 = b.f0 ∧ b.f1 ≤ a.f1) := by
  unfold HeapB.less at h
  by_cases e : a.f0 = b.f0
  · rw [if_pos e] at h
    simp at h
    exact .inr ⟨e, h⟩
  · rw [if_neg e] at h
    simp at h
    exact .inl (by omega)
theorem BInv.none {ms : List Mrg} {n : Nat} {I : List Int} {al : Nat → Bool} (h : BInv ms n I al []) : nextT ms (cur I al n) = none := by
  refine nextT_no fun j r id hc => ?_
  obtain ⟨p, q, ha, _, hm⟩ := of_at hc
  exact absurd (h.all p q r id ha hm) List.not_mem_nil
theorem BInv.next {ms : List Mrg} {n : Nat} {I : List Int} {al : Nat → Bool} {H : List El} {x : El} (h : BInv ms n I al H) (hx : x ∈ H) (hv : Valid n I al x) (hl : ∀ e ∈ H, HeapB.less e x = false) :
    nextT ms (cur I al n) = some (x.f0.toNat, cnt al x.f1.toNat, x.f5) := by
  obtain ⟨hv1, hv2, hv3⟩ := hv
  obtain ⟨h1, h2, h3, r, h4, h5⟩ := h.pair x hx
  have hr : x.f0.toNat = r := by omega
  rw [hr]
  refine nextT_is ⟨at_of hv1 (by rw [hv2, hv3]; exact h5), fun j r' id' hc => ?_⟩
  obtain ⟨p, q, ha, hj, hm⟩ := of_at hc
  have := less_false (hl _ (h.all p q r' id' ha hm))
  have e0 : (pairOf I p q r' id').f0 = (r' : Int) := rfl
  have e1 : (pairOf I p q r' id').f1 = (p : Int) := rfl
  rw [e0, e1] at this
  rw [hj]
  rcases this with hh | ⟨hh, hh'⟩
  · exact .inl (by omega)
  · exact .inr ⟨by omega, cnt_mono al (by omega)⟩
theorem BInv.throw {ms : List Mrg} {n : Nat} {I : List Int} {al : Nat → Bool} {H : List El} {x : El} (h : BInv ms n I al (x :: H)) (hv : ¬ Valid n I al x) : BInv ms n I al H := by
  refine ⟨h.len, fun e he => h.pair e (List.mem_cons_of_mem _ he), fun p q r id ha hm => ?_, by have := h.size; rw [List.length_cons] at this; omega⟩
  rcases List.mem_cons.1 (h.all p q r id ha hm) with rfl | hc
  · exact absurd ⟨by simpa [pairOf] using ha, by simp [pairOf], by simp [pairOf]⟩ hv
  · exact hc
/-- What a look puts in. -/
def lookL (ms : List Mrg) (n : Nat) (I : List Int) (l r : Int) : List El :=
  if l < 0 ∨ r < 0 ∨ (n : Int) ≤ r then [] else match mergeOf ms (val I l.toNat) (val I r.toNat) with
    | none => []
    | some (k, id) => [⟨k, l, r, val I l.toNat, val I r.toNat, id⟩]
theorem lookL_length (ms : List Mrg) (n : Nat) (I : List Int) (l r : Int) : (lookL ms n I l r).length ≤ 1 := by
  unfold lookL
  split
  · exact Nat.zero_le _
  · split
    · exact Nat.zero_le _
    · exact Nat.le_refl _
theorem lookL_mem {ms : List Mrg} {n : Nat} {I : List Int} {l r : Int} {e : El} (h : e ∈ lookL ms n I l r) : e.f1 = l ∧ e.f2 = r ∧ 0 ≤ l ∧ 0 ≤ r ∧ r < n ∧ ∃ k : Nat, e.f0 = k ∧ mergeOf ms e.f3 e.f4 = some (k, e.f5) := by
  unfold lookL at h
  split at h
  · cases h
  · rename_i hh
    split at h
    · cases h
    · rename_i k id hm
      rw [List.mem_singleton] at h
      subst h
      exact ⟨rfl, rfl, by omega, by omega, by omega, k, rfl, hm⟩
theorem lookL_in {ms : List Mrg} {n : Nat} {I : List Int} {p q k : Nat} {id : Int} (hq : q < n) (hm : mergeOf ms (val I p) (val I q) = some (k, id)) : pairOf I p q k id ∈ lookL ms n I p q := by
  unfold lookL
  rw [if_neg (by omega), Int.toNat_natCast, Int.toNat_natCast, hm]
  exact List.mem_singleton.2 rfl
theorem BInv.merge {ms : List Mrg} {n : Nat} {I : List Int} {al : Nat → Bool} {H : List El} {x : El} (h : BInv ms n I al (x :: H)) (hv : Valid n I al x) :
    BInv ms n (I.set x.f1.toNat x.f5) (cutAl al x.f2.toNat)
      (H ++ lookL ms n (I.set x.f1.toNat x.f5) (prevOf (cutAl al x.f2.toNat) x.f1) x.f1 ++ lookL ms n (I.set x.f1.toNat x.f5) x.f1 (nextOf n (cutAl al x.f2.toNat) x.f1)) := by
  obtain ⟨hv1, hv2, hv3⟩ := hv
  obtain ⟨h1, h2, h3, r, h4, h5⟩ := h.pair x (List.mem_cons_self ..)
  obtain ⟨f0, f1, f2, f3, f4, f5⟩ := x
  simp only at hv1 hv2 hv3 h1 h2 h3 h4 h5 ⊢
  obtain ⟨p, rfl⟩ : ∃ p : Nat, f1 = p := ⟨f1.toNat, by omega⟩
  obtain ⟨q, rfl⟩ : ∃ q : Nat, f2 = q := ⟨f2.toNat, by omega⟩
  rw [Int.toNat_natCast] at *
  rw [Int.toNat_natCast] at *
  have hI := h.len
  have hlt := hv1.lt
  have hpc : cutAl al q p = true := by rw [cutAl_ne (by omega)]; exact hv1.left
  refine ⟨by rw [List.length_set]; exact hI, fun e he => ?_, fun p' q' r' id' ha hm => ?_, ?_⟩
  · rw [List.mem_append, List.mem_append] at he
    rcases he with (he | he) | he
    · exact h.pair e (List.mem_cons_of_mem _ he)
    · obtain ⟨a1, a2, a3, a4, a5, a6⟩ := lookL_mem he
      rw [a1, a2]
      refine ⟨a3, ?_, a5, a6⟩
      rcases (prevOf_is (cutAl al q) p).range with hh | hh
      · omega
      · exact hh.1
    · obtain ⟨a1, a2, a3, a4, a5, a6⟩ := lookL_mem he
      rw [a1, a2]
      refine ⟨a3, ?_, a5, a6⟩
      rcases (nextOf_is n (cutAl al q) p).range (by omega) with hh | hh
      · omega
      · exact hh.1
  · rw [List.mem_append, List.mem_append]
    have hqn := ha.hn
    by_cases hp' : p' = p
    · subst hp'
      refine .inr ?_
      rw [ha.next]
      exact lookL_in ha.hn hm
    · by_cases hq' : q' = p
      · subst hq'
        refine .inl (.inr ?_)
        rw [ha.prev]
        exact lookL_in ha.hn hm
      · refine .inl (.inl ?_)
        have hne : p' ≠ q := fun e => by
          have := ha.left
          rw [e, cutAl_self] at this
          cases this
        have hne' : q' ≠ q := fun e => by
          have := ha.right
          rw [e, cutAl_self] at this
          cases this
        have hl : al p' = true := by have := ha.left; rwa [cutAl_ne hne] at this
        have hr : al q' = true := by have := ha.right; rwa [cutAl_ne hne'] at this
        have hlt' := ha.lt
        have hadj : Adj n al p' q' := by
          refine ⟨ha.lt, ha.hn, hl, hr, fun k hk hk' => ?_⟩
          by_cases hkq : k = q
          · subst hkq
            -- p' < q < q', so p' ≤ p; p stands between, or p' = p
            exfalso
            rcases Nat.lt_trichotomy p' p with hh | hh | hh
            · have := ha.gap p hh (by omega)
              rw [hpc] at this
              cases this
            · exact hp' hh
            · have := hv1.gap p' hh hk
              rw [hl] at this
              cases this
          · have := ha.gap k hk hk'
            rwa [cutAl_ne hkq] at this
        rw [val_set I p p' _ (by omega), val_set I p q' _ (by omega), if_neg hp', if_neg hq'] at hm
        have e1 : pairOf (I.set p f5) p' q' r' id' = pairOf I p' q' r' id' := by
          unfold pairOf
          rw [val_set I p p' _ (by omega), val_set I p q' _ (by omega), if_neg hp', if_neg hq']
        rw [e1]
        rcases List.mem_cons.1 (h.all p' q' r' id' hadj hm) with hc | hc
        · exfalso
          have : (pairOf I p' q' r' id').f1 = (p : Int) := by rw [hc]
          simp [pairOf] at this
          exact hp' (by omega)
        · exact hc
  · have e1 := h.size
    rw [List.length_cons] at e1
    have e2 := cnt_cut al q hv1.right n
    rw [if_pos hv1.hn] at e2
    have e3 := lookL_length ms n (I.set p f5) (prevOf (cutAl al q) p) p
    have e4 := lookL_length ms n (I.set p f5) p (nextOf n (cutAl al q) p)
    rw [List.length_append, List.length_append]
    omega
/-! ### the beginning -/
def beginL (ms : List Mrg) (I : List Int) (n : Nat) : Nat → List El
  | 0 => []
  | k + 1 => beginL ms I n k ++ lookL ms n I k ((k : Int) + 1)
theorem beginL_length (ms : List Mrg) (I : List Int) (n : Nat) : ∀ k, (beginL ms I n k).length ≤ k := by
  intro k
  induction k with
  | zero => exact Nat.le_refl _
  | succ k ih =>
    have := lookL_length ms n I k ((k : Int) + 1)
    rw [beginL, List.length_append]
    omega
theorem beginL_mem {ms : List Mrg} {I : List Int} {n : Nat} {e : El} : ∀ k, e ∈ beginL ms I n k → ∃ j : Nat, j < k ∧ e ∈ lookL ms n I j ((j : Int) + 1) := by
  intro k
  induction k with
  | zero => intro h; cases h
  | succ k ih =>
    intro h
    rw [beginL, List.mem_append] at h
    rcases h with h | h
    · obtain ⟨j, h1, h2⟩ := ih h
      exact ⟨j, by omega, h2⟩
    · exact ⟨k, by omega, h⟩
theorem beginL_in {ms : List Mrg} {I : List Int} {n : Nat} {e : El} {j : Nat} (h : e ∈ lookL ms n I j ((j : Int) + 1)) : ∀ k, j < k → e ∈ beginL ms I n k := by
  intro k
  induction k with
  | zero => intro h; omega
  | succ k ih =>
    intro hk
    rw [beginL, List.mem_append]
    by_cases hh : j < k
    · exact .inl (ih hh)
    · obtain rfl : j = k := by omega
      exact .inr h
theorem BInv.begin (ms : List Mrg) (I : List Int) : BInv ms I.length I (allAl I.length) (beginL ms I I.length I.length) := by
  refine ⟨rfl, fun e he => ?_, fun p q r id ha hm => ?_, ?_⟩
  · obtain ⟨j, hj, hm⟩ := beginL_mem _ he
    obtain ⟨a1, a2, a3, a4, a5, a6⟩ := lookL_mem hm
    rw [a1, a2]
    exact ⟨a3, by omega, a5, a6⟩
  · have h1 := ha.next
    have h2 := ha.lt
    have h3 := ha.hn
    rw [next_all _ _ (by omega)] at h1
    have hq : q = p + 1 := by
      split at h1 <;> omega
    subst hq
    refine beginL_in (j := p) ?_ _ (by omega)
    have := lookL_in (p := p) (q := p + 1) h3 hm
    rwa [Int.natCast_add] at this
  · have := beginL_length ms I I.length I.length
    rw [cnt_all _ _ (Nat.le_refl _)]
    omega
theorem cur_all (I : List Int) : cur I (allAl I.length) I.length = I := by
  apply List.ext_getElem?
  intro i
  unfold cur aliveL
  have : (List.range I.length).filter (allAl I.length) = List.range I.length := by
    rw [List.filter_eq_self]
    intro a ha
    rw [List.mem_range] at ha
    simp [allAl, ha]
  rw [this, List.getElem?_map]
  by_cases h : i < I.length
  · rw [List.getElem?_range h, Option.map_some, val, List.getElem?_eq_getElem h]
    rfl
  · rw [List.getElem?_eq_none (by rw [List.length_range]; omega), List.getElem?_eq_none (by omega)]
    rfl
end Go.Proofs.YtigpaaelggnffaaGreatDoor.Bpe

/- (*model.Model).Merge: the rank of two ids' merge. -/
namespace Go.Proofs.YtigpaaelggnffaaGreatDoor.Bpe
open Go.RowKit Go.Proofs.YtigpaaelggnffaaGreatDoor.Lib Go.Proofs.YtigpaaelggnffaaGreatDoor.Sl
set_option linter.unusedVariables false
set_option linter.unusedSimpArgs false

/-- No pair has two merges. -/
def OnePair (ms : List Mrg) : Prop := ∀ (k : Nat) (x : Mrg), ms[k]? = some x → hasPair (ms.take k) x.l x.r = false
/-- What Merge tells. -/
def mergeV (ms : List Mrg) (l r : Int) : Value := match mergeOf ms l r with
  | some (k, id) => .tuple #[.int .i64 (k : Int), .int .i64 id, .bool true]
  | none => .tuple #[.int .i64 0, .int .i64 0, .bool false]
theorem ents_pair {ms : List Mrg} (hp : OnePair ms) {l r : Int} {v : Value} (h : ((.agg #[.int .i64 l, .int .i64 r] : Value), v) ∈ entsM 0 ms) : ∃ (k : Nat) (id : Int), mergeOf ms l r = some (k, id) ∧ v = .agg #[.int .i64 (k : Int), .int .i64 id] := by
  obtain ⟨j, y, hy, ev⟩ := entsM_mem h
  simp at ev
  obtain ⟨⟨rfl, rfl⟩, rfl⟩ := ev
  refine ⟨j, y.i, mergeOf_at hy fun i z hi hz hc => ?_, by simp⟩
  have := hp j y hy
  unfold hasPair at this
  rw [List.any_eq_false] at this
  have hm : z ∈ ms.take j := List.mem_of_getElem? (i := i) (by rw [List.getElem?_take, if_pos hi]; exact hz)
  have := this z hm
  simp [hc] at this
theorem ents_no {ms : List Mrg} {l r : Int} (h : ∀ p ∈ entsM 0 ms, p.1 ≠ .agg #[.int .i64 l, .int .i64 r]) : mergeOf ms l r = none := by
  cases e : mergeOf ms l r with
  | none => rfl
  | some t =>
    obtain ⟨k, id⟩ := t
    obtain ⟨x, hx, h1, h2, _⟩ := mergeOf_some e
    have : hasPair ms l r = true := by
      unfold hasPair
      rw [List.any_eq_true]
      exact ⟨x, List.mem_of_getElem? hx, by simp [h1, h2]⟩
    obtain ⟨p, hp, he⟩ := entsM_has (i := 0) this
    exact absurd he (h p hp)
set_option maxRecDepth 100000 in
set_option maxHeartbeats 1000000 in
theorem merge_any {w : World} {a : Nat} {d : Dat} (h : IsModel w a d) (hp : OnePair d.ms) (l r : Int) :
    Calls Tryz.prog 153 #[.pointer (some ⟨a, 0, none⟩), .int .i64 l, .int .i64 r] w fun e w' => e = .returned (mergeV d.ms l r) ∧ Ext (fun _ => False) w w' := by
  obtain ⟨L, tp, mp, q0, q1, q2, d0, d1, d2, hm⟩ := h
  have c6 := hm.blk.c6
  have ha := blk_lt hm.blk.blk
  have HM := hm.map
  have hmp := HM.lt
  have hok : ∀ p ∈ entsM 0 d.ms, ∃ a b : Int, p.1 = .agg #[.int .i64 a, .int .i64 b] := fun p hp => by
    obtain ⟨j, y, _, e⟩ := entsM_mem hp
    exact ⟨y.l, y.r, by rw [e]⟩
  have HP := Lib.hid hp
  go_enter Tryz.func153, Tryz.ntmps153
  rcases run_look_u (P := Tryz.prog) Tryz.underlying121 pairFit pairFind HM hok (.agg #[.int .i64 l, .int .i64 r]) (.agg #[.int .i64 0, .int .i64 0]) ⟨_, _, rfl⟩ (fun W => by kernel_rfl) with ⟨v, hv, hrun⟩ | ⟨hno, hrun⟩
  · obtain ⟨k, id, e1, rfl⟩ := ents_pair hp hv
    have E := Lib.hid (show mergeV d.ms l r = .tuple #[.int .i64 (k : Int), .int .i64 id, .bool true] from by unfold mergeV; rw [e1])
    have hr1 := hrun w rfl
    have hr2 := hrun (w.alloc (.cells #[.int .i64 0, .int .i64 0] 173)) (Below.heap_alloc _ _ _ hmp)
    clear hrun hok HM hv e1 hm hp
    go_wp2_with fail
    go_quiet (fail)
    go_wp2_with fail
    exact bodyPost_ret (v := .tuple #[.int .i64 (k : Int), .int .i64 id, .bool true]) (by simp [results, Tryz.results153, go_sem]) rfl ⟨by rw [E.out], by repeat (first | exact Ext.refl _ _ | refine Ext.drew ?_ | refine Ext.drewN ?_ _ | refine Ext.alloc ?_ _ | refine Ext.setCell ?_ (fun h => by simp at h) _)⟩
  · have E := Lib.hid (show mergeV d.ms l r = .tuple #[.int .i64 0, .int .i64 0, .bool false] from by unfold mergeV; rw [ents_no hno])
    have hr1 := hrun w rfl
    have hr2 := hrun (w.alloc (.cells #[.int .i64 0, .int .i64 0] 173)) (Below.heap_alloc _ _ _ hmp)
    clear hrun hok HM hno hm hp
    go_wp2_with fail
    go_quiet (fail)
    go_wp2_with fail
    exact bodyPost_ret (v := .tuple #[.int .i64 0, .int .i64 0, .bool false]) (by simp [results, Tryz.results153, go_sem]) rfl ⟨by rw [E.out], by repeat (first | exact Ext.refl _ _ | refine Ext.drew ?_ | refine Ext.drewN ?_ _ | refine Ext.alloc ?_ _ | refine Ext.setCell ?_ (fun h => by simp at h) _)⟩
end Go.Proofs.YtigpaaelggnffaaGreatDoor.Bpe

/- heap.Heap[tessera/bpe.pair]: New, Len, Least. -/
namespace Go.Proofs.YtigpaaelggnffaaGreatDoor.HeapB
open Go.RowKit Go.Proofs.YtigpaaelggnffaaGreatDoor.Lib Go.Proofs.YtigpaaelggnffaaGreatDoor.HeapPure Go.Proofs.YtigpaaelggnffaaGreatDoor.ElBpe
set_option linter.unusedVariables false
set_option linter.unusedSimpArgs false

theorem new_any (w : World) :
    Calls Tryz.prog 130 #[.func (.func 131) #[] #[]] w fun e w' => e = .returned (.pointer (some ⟨w.heap.size, 0, none⟩)) ∧ Mem w' w.heap.size none 0 [] ∧ Ext (fun _ => False) w w' := by
  have hq : ∀ W, (binOp .eql 227 (.func (.func 131) #[] #[]) Value.nilFunc).run Tryz.prog W = .ok (.bool false) W := fun W => by kernel_rfl
  go_enter Tryz.func130, Tryz.ntmps130
  go_wp2
  go_ret
  exact ⟨rfl, ⟨heap_alloc_new _ _, arr_nil _ _ _, by simp⟩, (Ext.refl _ _).alloc _⟩

theorem least_none {w : World} {g : Nat} {p : Option Addr} {c : Nat} (hM : Mem w g p c []) :
    Calls Tryz.prog 155 #[.pointer (some ⟨g, 0, none⟩)] w fun e w' => e = .returned (.tuple #[.agg #[.int .i64 0, .int .i64 0, .int .i64 0, .int .i64 0, .int .i64 0, .int .i64 0], .bool false]) ∧ Ext (fun _ => False) w w' := by
  have r1 := hM.cell1.1
  simp at r1
  have g1 := blk_lt hM.blk
  go_enter Tryz.func155, Tryz.ntmps155
  go_wp2
  exact bodyPost_ret (v := .tuple #[.agg #[.int .i64 0, .int .i64 0, .int .i64 0, .int .i64 0, .int .i64 0, .int .i64 0], .bool false]) (by simp [results, Tryz.results155, go_sem]) rfl ⟨rfl, by repeat (first | exact Ext.refl _ _ | refine Ext.drew ?_ | refine Ext.alloc ?_ _ | refine Ext.setCell ?_ (fun h => by simp at h) _)⟩

set_option maxHeartbeats 400000 in
theorem least_some {w : World} {g : Nat} {p : Option Addr} {c : Nat} {xs : List El} (hM : Mem w g p c xs) (hne : xs ≠ []) (X : El) (hX : at_ xs 0 = X) :
    Calls Tryz.prog 155 #[.pointer (some ⟨g, 0, none⟩)] w fun e w' => e = .returned (.tuple #[.agg #[.int .i64 X.f0, .int .i64 X.f1, .int .i64 X.f2, .int .i64 X.f3, .int .i64 X.f4, .int .i64 X.f5], .bool true]) ∧ Ext (fun _ => False) w w' := by
  have hl : 0 < xs.length := List.length_pos_iff.2 hne
  have r1 := hM.cell1.1
  have g1 := blk_lt hM.blk
  obtain ⟨a, rfl⟩ := arr_some hM.row hl
  have al := arr_lt hM.row (k := a) rfl
  have E := hM.elem 0 hl X hX
  (try simp at E)
  obtain ⟨e0, e1, e2, e3, e4, e5, ef0, ef1, ef2, ef3, ef4, ef5⟩ := E
  have i1 : (0 : Int) < (xs.length : Int) := by omega
  have hz : ((xs.length : Int) == 0) = false := by simp; exact hne
  clear hne hX
  go_enter Tryz.func155, Tryz.ntmps155
  go_wp2
  exact bodyPost_ret (v := .tuple #[.agg #[.int .i64 X.f0, .int .i64 X.f1, .int .i64 X.f2, .int .i64 X.f3, .int .i64 X.f4, .int .i64 X.f5], .bool true]) (by simp [results, Tryz.results155, go_sem]) rfl ⟨rfl, by repeat (first | exact Ext.refl _ _ | refine Ext.drew ?_ | refine Ext.alloc ?_ _ | refine Ext.setCell ?_ (fun h => by simp at h) _)⟩
end Go.Proofs.YtigpaaelggnffaaGreatDoor.HeapB

/- bpe.work: its memory; look. -/
namespace Go.Proofs.YtigpaaelggnffaaGreatDoor.Bpe
open Go.RowKit Go.Proofs.YtigpaaelggnffaaGreatDoor.Lib Go.Proofs.YtigpaaelggnffaaGreatDoor.Sl Go.Proofs.YtigpaaelggnffaaGreatDoor.Chain Go.Proofs.YtigpaaelggnffaaGreatDoor.ElBpe Go.Proofs.YtigpaaelggnffaaGreatDoor.HeapPure
set_option linter.unusedVariables false
set_option linter.unusedSimpArgs false

/-- Where a work lies: its model, its ids, its chain, its heap. -/
structure Pw where
  m : Nat
  p : Option Addr
  c : Nat
  g : Nat
  c0 : Nat
  c1 : Nat
  h : Nat
/-- A work at b: all of its own memory is at B or later. -/
structure St (B : Nat) (w : World) (b : Nat) (d : Dat) (n : Nat) (I : List Int) (al : Nat → Bool) (H : List El) (P : Pw) (p2 : Option Addr) (c2 : Nat) : Prop where
  lo : ∀ k, blkOf P.p = some k → B ≤ k ∧ k < P.c0
  lo0 : B ≤ P.c0
  l01 : P.c0 ≤ P.c1
  l1h : P.c1 ≤ P.h
  lhb : P.h < b
  lrow : ∀ k, blkOf p2 = some k → b < k
  blk : w.heap[b]? = some (.cells #[.pointer (some ⟨P.m, 0, none⟩), .slice P.p n P.c, .pointer (some ⟨P.g, 0, none⟩), .pointer (some ⟨P.h, 0, none⟩)] 229 (0, 0))
  row : Arr w 3 1 P.p n P.c (ints I)
  chain : IsChain w P.g (fun k => P.c0 ≤ k ∧ k < P.c1) n al
  heap : HeapB.Mem w P.h p2 c2 H
  model : ∃ w0, IsModel w0 P.m d ∧ w0.heap.size ≤ B ∧ Ext (fun _ => False) w0 w
  len : I.length = n
theorem St.on {B : Nat} {w w' : World} {b : Nat} {d : Dat} {n : Nat} {I : List Int} {al : Nat → Bool} {H : List El} {P : Pw} {p2 : Option Addr} {c2 : Nat} (h : St B w b d n I al H P p2 c2) (hx : Ext (fun _ => False) w w') : St B w' b d n I al H P p2 c2 :=
  ⟨h.lo, h.lo0, h.l01, h.l1h, h.lhb, h.lrow, hx.obj h.blk (fun h => h), arr_ext h.row hx (fun _ _ h => h), h.chain.ext hx (fun _ _ _ h => h), h.heap.ext hx (fun h => h) (fun _ _ h => h), (let ⟨w0, h1, h2, h3⟩ := h.model; ⟨w0, h1, h2, h3.trans hx (fun _ _ h => h)⟩), h.len⟩
theorem St.mod {B : Nat} {w : World} {b : Nat} {d : Dat} {n : Nat} {I : List Int} {al : Nat → Bool} {H : List El} {P : Pw} {p2 : Option Addr} {c2 : Nat} (h : St B w b d n I al H P p2 c2) : IsModel w P.m d :=
  let ⟨_, h1, _, h3⟩ := h.model; h1.on h3
theorem St.cells {B : Nat} {w : World} {b : Nat} {d : Dat} {n : Nat} {I : List Int} {al : Nat → Bool} {H : List El} {P : Pw} {p2 : Option Addr} {c2 : Nat} (h : St B w b d n I al H P p2 c2) :
    b < w.heap.size ∧ w.cell? ⟨b, 0, none⟩ = some (.pointer (some ⟨P.m, 0, none⟩)) ∧ w.cell? ⟨b, 1, none⟩ = some (.slice P.p n P.c) ∧ w.cell? ⟨b, 2, none⟩ = some (.pointer (some ⟨P.g, 0, none⟩)) ∧ w.cell? ⟨b, 3, none⟩ = some (.pointer (some ⟨P.h, 0, none⟩)) :=
  ⟨blk_lt h.blk, blk_cell h.blk 0, blk_cell h.blk 1, blk_cell h.blk 2, blk_cell h.blk 3⟩
theorem St.id {B : Nat} {w : World} {b : Nat} {d : Dat} {n : Nat} {I : List Int} {al : Nat → Bool} {H : List El} {P : Pw} {p2 : Option Addr} {c2 : Nat} (h : St B w b d n I al H P p2 c2) {a : Nat} (hp : P.p = some ⟨a, 0, none⟩) (i : Nat) (hi : i < n) :
    a < w.heap.size ∧ w.cell? ⟨a, i, none⟩ = some (.int .i64 (val I i)) := by
  have := h.row
  rw [hp] at this
  have hl := h.len
  refine ⟨arr_lt this (by rfl), (arr_cell this i (by omega)).trans ?_⟩
  unfold ints val
  rw [List.getElem?_map, List.getElem?_eq_getElem (by omega)]
  rfl
/-- What a look leaves. -/
def LookEnd (B : Nat) (w : World) (b : Nat) (d : Dat) (n : Nat) (I : List Int) (al : Nat → Bool) (H : List El) (P : Pw) (p2 : Option Addr) (l r : Int) (e : Ending) (w' : World) : Prop :=
  e = .returned (.tuple #[]) ∧ ∃ p2' c2' H', St B w' b d n I al H' P p2' c2' ∧ H'.Perm (H ++ lookL d.ms n I l r) ∧ (Heap HeapB.less H → Heap HeapB.less H') ∧ Ext (fun k => k = P.h ∨ blkOf p2 = some k) w w' ∧ Moved w p2 p2'
theorem LookEnd.no {B : Nat} {w w' : World} {b : Nat} {d : Dat} {n : Nat} {I : List Int} {al : Nat → Bool} {H : List El} {P : Pw} {p2 : Option Addr} {c2 : Nat} (h : St B w b d n I al H P p2 c2) {l r : Int} (hx : Ext (fun _ => False) w w') (hl : lookL d.ms n I l r = []) :
    LookEnd B w b d n I al H P p2 l r (.returned (.tuple #[])) w' :=
  ⟨rfl, p2, c2, H, h.on hx, by rw [hl, List.append_nil], fun h => h, hx.mono (fun _ h => h.elim), Moved.refl _ _⟩
theorem LookEnd.put {B : Nat} {w w1 w2 : World} {b : Nat} {d : Dat} {n : Nat} {I : List Int} {al : Nat → Bool} {H : List El} {P : Pw} {p2 : Option Addr} {c2 : Nat} (h : St B w b d n I al H P p2 c2) {l r : Int} (hx : Ext (fun _ => False) w w1) {x : El} (hl : lookL d.ms n I l r = [x]) {p' : Option Addr} {c' : Nat}
    (hM : HeapB.Mem w2 P.h p' c' (push HeapB.less H x)) (hx2 : Ext (fun k => k = P.h ∨ blkOf p2 = some k) w1 w2) (hm : Moved w1 p2 p') :
    LookEnd B w b d n I al H P p2 l r (.returned (.tuple #[])) w2 := by
  have h1 := h.on hx
  have e1 := h.lhb
  have e2 := h.l1h
  have e3 := h.l01
  have e4 := h.lo0
  have hb := blk_lt h.blk
  have hs := hx.size
  refine ⟨rfl, p', c', push HeapB.less H x, ⟨h.lo, h.lo0, h.l01, h.l1h, h.lhb, fun k hk => ?_, hx2.obj h1.blk (fun hk => ?_), arr_ext h1.row hx2 (fun k hk hS => ?_), h1.chain.ext hx2 (fun k hk _ hS => ?_), hM, ?_, h.len⟩, by rw [hl]; exact push_perm _ _ _, fun hh => push_heap weak_less x hh, (hx.mono (fun _ h => h.elim)).trans hx2 (fun i _ h => h), fun k hk => ?_⟩
  · rcases hm k hk with hh | hh
    · exact h.lrow k hh
    · omega
  · rcases hk with rfl | hk
    · omega
    · exact absurd (h.lrow b hk) (by omega)
  · have := h.lo k hk
    rcases hS with rfl | hS
    · omega
    · have := h.lrow k hS
      omega
  · rcases hS with rfl | hS
    · omega
    · have := h.lrow k hS
      omega
  · obtain ⟨w0, m1, m2, m3⟩ := h1.model
    refine ⟨w0, m1, m2, m3.trans hx2 (fun i hi hS => ?_)⟩
    rcases hS with rfl | hS
    · omega
    · have := h.lrow i hS
      omega
  · rcases hm k hk with hh | hh
    · exact .inl hh
    · exact .inr (by omega)

set_option maxRecDepth 100000 in
set_option maxHeartbeats 2000000 in
theorem look_any {B : Nat} {w : World} {b : Nat} {d : Dat} {n : Nat} {I : List Int} {al : Nat → Bool} {H : List El} {P : Pw} {p2 : Option Addr} {c2 : Nat} (h : St B w b d n I al H P p2 c2) (hp : OnePair d.ms) (l r : Int) (hl : l < n) (hH : H.length < 1000000000) (hn : n ≤ 1048576) :
    Calls Tryz.prog 132 #[.pointer (some ⟨b, 0, none⟩), .int .i64 l, .int .i64 r] w fun e w' => LookEnd B w b d n I al H P p2 l r e w' := by
  have HS := Lib.hid h
  have HP := Lib.hid hp
  have HH := Lib.hid hH
  obtain ⟨bl, q0, q1, q2, q3⟩ := h.cells
  have hid := fun a hp i hi => h.id (a := a) hp i hi
  have hrow := h.row
  clear h hp hH
  go_enter Tryz.func132, Tryz.ntmps132
  by_cases hout : l < 0 ∨ r < 0 ∨ (n : Int) ≤ r
  · have LL := Lib.hid (show lookL d.ms n I l r = [] from if_pos hout)
    by_cases h0 : l < 0
    · have d0 : decide (l < 0) = true := decide_eq_true h0
      clear hout hid hrow h0
      go_wp2_with fail
      refine bodyPost_ret (results_none rfl _ _ _) rfl ?_
      exact LookEnd.no HS.out (by repeat (first | exact Ext.refl _ _ | refine Ext.drew ?_ | refine Ext.drewN ?_ _ | refine Ext.alloc ?_ _)) LL.out
    · have d0 : decide (l < 0) = false := decide_eq_false h0
      by_cases h1 : r < 0
      · have d1 : decide (r < 0) = true := decide_eq_true h1
        clear hout hid hrow h0 h1
        go_wp2_with fail
        refine bodyPost_ret (results_none rfl _ _ _) rfl ?_
        exact LookEnd.no HS.out (by repeat (first | exact Ext.refl _ _ | refine Ext.drew ?_ | refine Ext.drewN ?_ _ | refine Ext.alloc ?_ _)) LL.out
      · have d1 : decide (r < 0) = false := decide_eq_false h1
        have d2 : decide (r ≥ (n : Int)) = true := decide_eq_true (by omega)
        clear hout hid hrow h0 h1
        go_wp2_with fail
        refine bodyPost_ret (results_none rfl _ _ _) rfl ?_
        exact LookEnd.no HS.out (by repeat (first | exact Ext.refl _ _ | refine Ext.drew ?_ | refine Ext.drewN ?_ _ | refine Ext.alloc ?_ _)) LL.out
  · obtain ⟨x, rfl⟩ : ∃ x : Nat, l = x := ⟨l.toNat, by omega⟩
    obtain ⟨y, rfl⟩ : ∃ y : Nat, r = y := ⟨r.toNat, by omega⟩
    have d0 : decide ((x : Int) < 0) = false := decide_eq_false (by omega)
    have d1 : decide ((y : Int) < 0) = false := decide_eq_false (by omega)
    have d2 : decide ((y : Int) ≥ (n : Int)) = false := decide_eq_false (by omega)
    have i1 : (x : Int) < (n : Int) := by omega
    have i2 : (y : Int) < (n : Int) := by omega
    obtain ⟨a, hpa⟩ := arr_some hrow (by omega)
    obtain ⟨ga, g1⟩ := hid a hpa x (by omega)
    obtain ⟨_, g2⟩ := hid a hpa y (by omega)
    rw [hpa] at q1
    have NO := Lib.hid hout
    clear hid hrow hout hpa
    go_wp2_with fail
    go_region
    go_wp2_with fail
    obtain ⟨W, hW⟩ : ∃ W, (w.alloc (.cells #[.int .i64 (val I x), .int .i64 (val I y)] 171)).drew = W := ⟨_, rfl⟩
    have HX := Lib.hid (show Ext (fun _ => False) w W from by rw [← hW]; exact ((Ext.refl _ w).alloc _).drew)
    have z0 : W.cell? ⟨w.heap.size, 0, none⟩ = some (.int .i64 (val I x)) := by rw [← hW]; exact blk_cell (heap_alloc_new w _) 0
    have z1 : W.cell? ⟨w.heap.size, 1, none⟩ = some (.int .i64 (val I y)) := by rw [← hW]; exact blk_cell (heap_alloc_new w _) 1
    have ZB := Lib.hid (show W.heap[w.heap.size]? = some (.cells #[.int .i64 (val I x), .int .i64 (val I y)] 171 (0, 0)) from by rw [← hW]; exact heap_alloc_new w _)
    rw [hW]
    clear hW q0 q1 q2 q3 g1 g2
    obtain ⟨bl, q0, q1, q2, q3⟩ := (HS.out.on HX.out).cells
    have MM := Lib.hid (merge_any (HS.out.on HX.out).mod HP.out (val I x) (val I y))
    clear q0 q1 q2 q3
    obtain ⟨bl, q0, q1, q2, q3⟩ := (HS.out.on HX.out).cells
    have lz := blk_lt ZB.out
    have MS := Lib.hid (show ∀ w', Ext (fun _ => False) W w' → (w'.cell? ⟨b, 0, none⟩ = some (.pointer (some ⟨P.m, 0, none⟩)) ∧ w'.cell? ⟨w.heap.size, 0, none⟩ = some (.int .i64 (val I x)) ∧ w'.cell? ⟨w.heap.size, 1, none⟩ = some (.int .i64 (val I y))) ∧ Ext (fun _ => False) W w' from fun w' e =>
      ⟨⟨(e.cell (p := ⟨b, 0, none⟩) bl (fun h => h)).trans q0, (e.cell (p := ⟨w.heap.size, 0, none⟩) lz (fun h => h)).trans z0, (e.cell (p := ⟨w.heap.size, 1, none⟩) lz (fun h => h)).trans z1⟩, e⟩)
    have B0 := Lib.hid (show Ext (fun _ => False) W W.drew from Ext.drew (Ext.refl _ _))
    have IM := Lib.hid (show ∀ w', Ext (fun _ => False) W w' → IsModel w' P.m d from fun w' e => ((HS.out.on HX.out).on e).mod)
    cases hm : mergeOf d.ms (val I x) (val I y) with
    | none =>
      have MV := Lib.hid (show mergeV d.ms (val I x) (val I y) = .tuple #[.int .i64 0, .int .i64 0, .bool false] from by unfold mergeV; rw [hm])
      have LL := Lib.hid (show lookL d.ms n I x y = [] from by unfold lookL; rw [if_neg NO.out, Int.toNat_natCast, Int.toNat_natCast, hm])
      clear hm q0 q1 q2 q3 z0 z1
      go_region_held3 (fun w' => (w'.cell? ⟨b, 0, none⟩ = some (.pointer (some ⟨P.m, 0, none⟩)) ∧ w'.cell? ⟨w.heap.size, 0, none⟩ = some (.int .i64 (val I x)) ∧ w'.cell? ⟨w.heap.size, 1, none⟩ = some (.int .i64 (val I y))) ∧ Ext (fun _ => False) W w')
        (first | exact MS.out _ (by assumption) | exact MS.out _ B0.out)
        ((go_at_call 153; (with_reducible refine (merge_any (d := d) ?_ HP.out (val I x) (val I y)).mono ?_); (exact IM.out _ B0.out); rw [MV.out]; rintro e w1 ⟨rfl, x1⟩; have E1 := B0.out.trans x1 (fun _ _ h => h)))
      go_wp2_with fail
      refine bodyPost_ret (results_none rfl _ _ _) rfl ?_
      exact LookEnd.no HS.out (HX.out.trans E1 (fun _ _ h => h)) LL.out
    | some t =>
      obtain ⟨k, id⟩ := t
      have MV := Lib.hid (show mergeV d.ms (val I x) (val I y) = .tuple #[.int .i64 (k : Int), .int .i64 id, .bool true] from by unfold mergeV; rw [hm])
      have LL := Lib.hid (show lookL d.ms n I x y = [⟨k, x, y, val I x, val I y, id⟩] from by unfold lookL; rw [if_neg NO.out, Int.toNat_natCast, Int.toNat_natCast, hm])
      clear hm q0 q1 q2 q3 z0 z1
      go_region_held3 (fun w' => (w'.cell? ⟨b, 0, none⟩ = some (.pointer (some ⟨P.m, 0, none⟩)) ∧ w'.cell? ⟨w.heap.size, 0, none⟩ = some (.int .i64 (val I x)) ∧ w'.cell? ⟨w.heap.size, 1, none⟩ = some (.int .i64 (val I y))) ∧ Ext (fun _ => False) W w')
        (first | exact MS.out _ (by assumption) | exact MS.out _ B0.out)
        ((go_at_call 153; (with_reducible refine (merge_any (d := d) ?_ HP.out (val I x) (val I y)).mono ?_); (exact IM.out _ B0.out); rw [MV.out]; rintro e w1 ⟨rfl, x1⟩; have E1 := B0.out.trans x1 (fun _ _ h => h)))
      go_wp2_with fail
      have HE := Lib.hid (HX.out.trans E1 (fun _ _ h => h))
      have SW := HS.out.on HE.out
      obtain ⟨bl, q0, q1, q2, q3⟩ := SW.cells
      have ZW := E1.obj ZB.out (fun h => h)
      have lz := blk_lt ZW
      have z0 := blk_cell ZW 0
      have z1 := blk_cell ZW 1
      simp at z0 z1
      have hM := Lib.hid (SW.heap.drew)
      clear SW ZW E1 x1
      go_still_tail 10, (by kernel_rfl)
      change wpList _ _ _ _ _ w1.drew
      go_wp2_with fail
      refine (HeapB.push_any _ P.h p2 c2 H ⟨k, x, y, val I x, val I y, id⟩ hM.out HH.out).mono ?_
      rintro e w2 ⟨v, p', c', rfl, hM2, hx2, hm2⟩
      have K := Lib.hid (LookEnd.put HS.out HE.out.drew LL.out hM2 hx2 hm2)
      clear hM2 hx2 hm2
      go_wp2_with fail
      go_end0
      exact K.out
end Go.Proofs.YtigpaaelggnffaaGreatDoor.Bpe

/- tesserabook.Same[int]. -/
namespace Go.Proofs.YtigpaaelggnffaaGreatDoor.Sl
open Go.Proofs.YtigpaaelggnffaaGreatDoor.Lib
open Go.RowKit
set_option linter.unusedVariables false
set_option linter.unusedSimpArgs false

def ints (l : List Int) : List Value := l.map (Value.int .i64)
theorem ints_flat (l : List Int) : flat eI l = ints l := by
  induction l with
  | nil => rfl
  | cons x l ih => rw [flat_cons, ih]; rfl
theorem ints_rd {w : World} {e c n : Nat} {p : Option Addr} {l : List Int} (h : Arr w e 1 p n c (ints l)) : Rd eI w p l := Rd.of_arr (by rw [ints_flat]; exact h)

set_option maxRecDepth 100000 in
set_option maxHeartbeats 2000000 in
theorem sameI_any (w : World) (p q : Option Addr) (c c2 : Nat) (xs ys : List Int) (hx : Rd eI w p xs) (hy : Rd eI w q ys) (hl : xs.length ≤ 1125899906842624) :
    Calls Tryz.prog 35 #[.slice p xs.length c, .slice q ys.length c2] w fun e w' => e = .returned (.bool (decide (xs = ys))) ∧ Ext (fun _ => False) w w' := by
  have HX := Lib.hid hx
  have HY := Lib.hid hy
  clear hx hy
  by_cases hlen : xs.length = ys.length
  · have LE := Lib.hid hlen
    rw [← hlen]
    clear hlen
    go_enter Tryz.func35, Tryz.ntmps35
    go_wp2_with fail
    go_loopw [5] (fun i wr => ∃ n : Nat, i = .int .i64 n ∧ n ≤ xs.length ∧ xs.take n = ys.take n ∧ Ext (fun _ => False) w wr) (fun i _ => xs.length - (intOf i).toNat)
    case atStart => exact ⟨0, rfl, Nat.zero_le _, rfl, Ext.refl _ _⟩
    case round =>
      obtain ⟨n, rfl, hn, hsame, hx⟩ := hrel
      have SM := Lib.hid hsame
      have EX := Lib.hid hx
      clear hsame hx
      by_cases hlt : n < xs.length
      · have i1 : (n : Int) < (xs.length : Int) := by omega
        obtain ⟨x, hx⟩ : ∃ x, xs[n]? = some x := ⟨_, List.getElem?_eq_getElem hlt⟩
        obtain ⟨y, hy⟩ : ∃ y, ys[n]? = some y := ⟨_, List.getElem?_eq_getElem (by have := LE.out; omega)⟩
        obtain ⟨b, o, hp, hb, cx⟩ := (HX.out.on EX.out).cellI hx
        obtain ⟨b', o', hq, hb', cy⟩ := (HY.out.on EX.out).cellI hy
        have XN := Lib.hid hx
        have YN := Lib.hid hy
        clear hx hy
        rw [hp, hq]
        by_cases he : x = y
        · subst he
          have NX := Lib.hid (show xs.take (n + 1) = ys.take (n + 1) from by rw [List.take_add_one, List.take_add_one, SM.out, XN.out, YN.out])
          go_wp2_with fail
          go_quiet (fail)
          go_wp2_with fail
          go_roundw
          case rel => exact ⟨n + 1, by go_num, by omega, NX.out, EX.out.drewN _⟩
          case measure => simp [intOf]; omega
        · have NE := Lib.hid (show decide (xs = ys) = false from decide_eq_false (fun h => by subst h; have := XN.out.symm.trans YN.out; injection this with h; exact he h))
          go_wp2_with fail
          go_quiet (fail)
          go_wp2_with fail
          go_ret
          exact ⟨by rw [NE.out]; rfl, EX.out.drewN _⟩
      · have i1 : ¬ ((n : Int) < (xs.length : Int)) := by omega
        have EQ := Lib.hid (show decide (xs = ys) = true from decide_eq_true (by
          have := SM.out
          rwa [List.take_of_length_le (by omega), List.take_of_length_le (by have := LE.out; omega)] at this))
        go_wp2_with fail
        go_ret
        exact ⟨by rw [EQ.out]; rfl, EX.out⟩
  · have NE := Lib.hid (show decide (xs = ys) = false from decide_eq_false (fun h => hlen (by rw [h])))
    have hne : (xs.length : Int) ≠ (ys.length : Int) := by omega
    go_enter Tryz.func35, Tryz.ntmps35
    go_wp2_with fail
    go_ret
    exact ⟨by rw [NE.out]; rfl, Ext.refl _ _⟩
end Go.Proofs.YtigpaaelggnffaaGreatDoor.Sl

/- bpe.begin. -/
namespace Go.Proofs.YtigpaaelggnffaaGreatDoor.Sl
open Go.RowKit Go.Proofs.YtigpaaelggnffaaGreatDoor.Lib

set_option maxHeartbeats 400000 in
theorem cloneI (w : World) (p : Option Addr) (c : Nat) (l : List Int) (h : Rd eI w p l) (hb : l.length * 8 ≤ 140737488351232) :
    Calls Tryz.prog 128 #[.slice p l.length c] w fun e w' => Cloned eI 3 w p l e w' := by
  have hnil := fun W : World => Lib.run_eql_slice_nil (P := Tryz.prog) W 62 3 p l.length c 0 0 Tryz.underlying62
  have H := Lib.hid h
  cases p with
  | none =>
    have hl : l = [] := H.out.none_
    clear h H hb
    subst hl
    simp only [List.length_nil] at hnil ⊢
    go_enter Tryz.func128, Tryz.ntmps128
    go_wp2_with fail
    go_ret
    exact Cloned.nil_
  | some ad =>
    clear h
    go_enter Tryz.func128, Tryz.ntmps128
    go_wp2_with ((refine arr_append rfl (.tmp 5) (.tmp 6) 62 3 1 8 (.int .i64 0) rfl Tryz.underlying62 infoI rfl (by decide) (by decide) (some ⟨w.heap.size, 0, none⟩) 0 0 [] rfl (some ad) l.length c rfl (flat eI l) (flat_length eI l) (H.out.on ((Ext.refl _ w).alloc _)).src (fun h => by cases h) (flat_cells eI l) (arr_empty w 3 1) (by omega) ?_); intro p1 c1 w1 hA hx hm)
    exact bodyPost_ret (v := .slice p1 l.length c1) (by simp [results, Tryz.f128, go_sem]) rfl (Cloned.some_ hA hx hm)

end Go.Proofs.YtigpaaelggnffaaGreatDoor.Sl
namespace Go.Proofs.YtigpaaelggnffaaGreatDoor.Bpe
open Go.RowKit Go.Proofs.YtigpaaelggnffaaGreatDoor.Lib Go.Proofs.YtigpaaelggnffaaGreatDoor.Sl Go.Proofs.YtigpaaelggnffaaGreatDoor.Chain Go.Proofs.YtigpaaelggnffaaGreatDoor.ElBpe Go.Proofs.YtigpaaelggnffaaGreatDoor.HeapPure
set_option linter.unusedVariables false
set_option linter.unusedSimpArgs false

/-- What a look changes is not old. -/
theorem St.far {B : Nat} {w0 w w' : World} {b : Nat} {d : Dat} {n : Nat} {I : List Int} {al : Nat → Bool} {H : List El} {P : Pw} {p2 : Option Addr} {c2 : Nat} (h : St B w b d n I al H P p2 c2) (hB : w0.heap.size ≤ B) (hx : Ext (fun _ => False) w0 w) (hx2 : Ext (fun k => k = P.h ∨ blkOf p2 = some k) w w') : Ext (fun _ => False) w0 w' := by
  have e1 := h.lhb
  have e2 := h.l1h
  have e3 := h.l01
  have e4 := h.lo0
  refine hx.trans hx2 (fun i hi hS => ?_)
  rcases hS with rfl | hS
  · omega
  · have := h.lrow i hS
    omega
/-- begin, at place k. -/
def BegSt (w wr : World) (m b : Nat) (d : Dat) (ids : List Int) (P : Pw) (k : Nat) : Prop :=
  k ≤ ids.length ∧ P.m = m ∧ ∃ p2 c2 H, St w.heap.size wr b d ids.length ids (allAl ids.length) H P p2 c2 ∧ Heap HeapB.less H ∧ H.Perm (beginL d.ms ids ids.length k) ∧ Ext (fun _ => False) w wr
theorem BegSt.step {w wr w' : World} {m b k : Nat} {d : Dat} {ids : List Int} {P : Pw} {p2 : Option Addr} {c2 : Nat} {H : List El} {e : Ending} (hk : k < ids.length) (hm : P.m = m) (hS : St w.heap.size wr b d ids.length ids (allAl ids.length) H P p2 c2) (hH : Heap HeapB.less H) (hp : H.Perm (beginL d.ms ids ids.length k)) (hx : Ext (fun _ => False) w wr)
    (h : LookEnd w.heap.size wr b d ids.length ids (allAl ids.length) H P p2 k ((k : Int) + 1) e w') : BegSt w w' m b d ids P (k + 1) := by
  obtain ⟨_, p2', c2', H', h1, h2, h3, h4, h5⟩ := h
  exact ⟨hk, hm, p2', c2', H', h1, h3 hH, h2.trans (hp.append_right _), hS.far (Nat.le_refl _) hx h4⟩
def BegEnd (w : World) (m : Nat) (d : Dat) (ids : List Int) (e : Ending) (w' : World) : Prop :=
  ∃ b P p2 c2 H, e = .returned (.pointer (some ⟨b, 0, none⟩)) ∧ P.m = m ∧ St w.heap.size w' b d ids.length ids (allAl ids.length) H P p2 c2 ∧ Heap HeapB.less H ∧ BInv d.ms ids.length ids (allAl ids.length) H ∧ Ext (fun _ => False) w w'
set_option maxRecDepth 100000 in
set_option maxHeartbeats 2000000 in
theorem begin_any {w : World} {m : Nat} {d : Dat} (hm : IsModel w m d) (hp : OnePair d.ms) {p : Option Addr} {c : Nat} {ids : List Int} (hr : Rd eI w p ids) (hn : ids.length ≤ 1048576) :
    Calls Tryz.prog 112 #[.pointer (some ⟨m, 0, none⟩), .slice p ids.length c] w fun e w' => BegEnd w m d ids e w' := by
  have HM := Lib.hid hm
  have HP := Lib.hid hp
  have HR := Lib.hid hr
  have hb8 : ids.length * 8 ≤ 140737488351232 := by omega
  clear hm hp hr
  go_enter Tryz.func112, Tryz.ntmps112
  go_wp2_with fail
  refine (cloneI w p c ids HR.out hb8).mono ?_
  rintro e w1 ⟨p1, c1, rfl, A1, x1, f1⟩
  have A1 := Lib.hid A1
  have X1 := Lib.hid x1
  have F1 := Lib.hid f1
  clear x1 f1
  go_wp2_with fail
  refine (Chain.new_any w1 ids.length ids.length (by rw [mn_eq, mx_eq]; omega)).mono ?_
  rintro e w2 ⟨rfl, C2, x2⟩
  have C2 := Lib.hid C2
  have X2 := Lib.hid x2
  clear x2
  go_wp2_with fail
  refine (HeapB.new_any w2).mono ?_
  rintro e w3 ⟨rfl, M3, x3⟩
  have M3 := Lib.hid M3
  have X3 := Lib.hid x3
  clear x3
  go_wp2_with fail
  obtain ⟨W, hW⟩ : ∃ W, w3.alloc (.cells #[.pointer (some ⟨m, 0, none⟩), .slice p1 ids.length c1, .pointer (some ⟨w1.heap.size, 0, none⟩), .pointer (some ⟨w2.heap.size, 0, none⟩)] 229) = W := ⟨_, rfl⟩
  obtain ⟨b, hb⟩ : ∃ b, w3.heap.size = b := ⟨_, rfl⟩
  have ST := Lib.hid (show BegSt w W m b d ids ⟨m, p1, c1, w1.heap.size, w1.heap.size, w2.heap.size, w2.heap.size⟩ 0 from by
    have s1 := X1.out.size
    have s2 := X2.out.size
    have s3 := blk_lt M3.out.blk
    have xW : Ext (fun _ => False) w3 W := by rw [← hW]; exact (Ext.refl _ _).alloc _
    have x23 := X3.out.trans xW (fun _ _ h => h)
    have x13 := X2.out.trans x23 (fun _ _ h => h)
    have A := A1.out
    rw [ints_flat] at A
    refine ⟨Nat.zero_le _, rfl, none, 0, [], ⟨fun k hk => ⟨F1.out k hk, arr_lt A hk⟩, s1, s2, Nat.le_refl _, (show w2.heap.size < b by omega), (fun k hk => by cases hk), ?_, arr_ext A x13 (fun _ _ h => h), C2.out.ext x23 (fun _ _ _ h => h), M3.out.ext xW (fun h => h) (fun _ _ h => h), ⟨w, HM.out, Nat.le_refl _, X1.out.trans x13 (fun _ _ h => h)⟩, rfl⟩, heap_nil _, List.Perm.refl _, X1.out.trans x13 (fun _ _ h => h)⟩
    rw [← hW, ← hb]
    exact heap_alloc_new w3 _)
  rw [hW, hb]
  clear hW hb A1 X1 F1 C2 X2 M3 X3
  obtain ⟨P, hP⟩ : ∃ P : Pw, (⟨m, p1, c1, w1.heap.size, w1.heap.size, w2.heap.size, w2.heap.size⟩ : Pw) = P := ⟨_, rfl⟩
  rw [hP] at ST
  clear hP
  go_loopw [18] (fun i wr => ∃ k : Nat, i = .int .i64 k ∧ BegSt w wr m b d ids P k) (fun i _ => ids.length - (intOf i).toNat)
  case atStart => exact ⟨0, rfl, ST.out⟩
  case round =>
    obtain ⟨k, rfl, hst⟩ := hrel
    have HST := Lib.hid hst
    obtain ⟨hk, hmm, p2, c2, H, hS, hH, hpm, hx⟩ := hst
    have G := Lib.hid (And.intro hmm (And.intro hS (And.intro hH (And.intro hpm hx))))
    clear hmm hS hH hpm hx ST
    by_cases hlt : k < ids.length
    · have i1 : (k : Int) < (ids.length : Int) := by omega
      have LA := Lib.hid (fun w' (e : w' = wr) => e ▸ look_any G.out.2.1 HP.out (k : Int) ((k : Int) + 1) i1 (by have := G.out.2.2.2.1.length_eq; have := beginL_length d.ms ids ids.length k; omega) hn)
      go_wp2_with fail
      refine (LA.out _ rfl).mono ?_
      rintro e w' hE
      obtain ⟨rfl, _⟩ := (id hE : LookEnd _ _ _ _ _ _ _ _ _ _ _ _ _ _)
      have HE := Lib.hid hE
      clear hE
      go_wp2_with fail
      go_roundw
      case rel => exact ⟨k + 1, by go_num, BegSt.step hlt G.out.1 G.out.2.1 G.out.2.2.1 G.out.2.2.2.1 G.out.2.2.2.2 HE.out⟩
      case measure => simp [intOf]; omega
    · have i1 : ¬ (k : Int) < (ids.length : Int) := by omega
      have hkn : k = ids.length := by omega
      subst hkn
      go_wp2_with fail
      go_ret
      exact ⟨b, P, p2, c2, H, rfl, G.out.1, G.out.2.1, G.out.2.2.1, (BInv.begin d.ms ids).perm G.out.2.2.2.1.symm, G.out.2.2.2.2⟩
end Go.Proofs.YtigpaaelggnffaaGreatDoor.Bpe

/- heap.Heap[tessera/bpe.pair]: Pop. -/
namespace Go.Proofs.YtigpaaelggnffaaGreatDoor.HeapB
open Go.RowKit Go.Proofs.YtigpaaelggnffaaGreatDoor.Lib Go.Proofs.YtigpaaelggnffaaGreatDoor.HeapPure Go.Proofs.YtigpaaelggnffaaGreatDoor.ElBpe
set_option linter.unusedVariables false
set_option linter.unusedSimpArgs false

set_option maxHeartbeats 1000000 in
/-- Pop of an empty one. -/
theorem pop_none {w : World} {g : Nat} {p : Option Addr} {c : Nat} (hM : Mem w g p c []) :
    Calls Tryz.prog 133 #[.pointer (some ⟨g, 0, none⟩)] w fun e w' => e = .returned (.tuple #[.agg #[.int .i64 0, .int .i64 0, .int .i64 0, .int .i64 0, .int .i64 0, .int .i64 0], .bool false]) ∧ Ext (fun _ => False) w w' := by
  have HL := Lib.hid (least_none (hM.ext ((Ext.refl _ _).alloc (.cells #[.int .i64 0, .int .i64 0, .int .i64 0, .int .i64 0, .int .i64 0, .int .i64 0] 197)) (fun h => h) (fun _ _ h => h)))
  clear hM
  go_enter Tryz.func133, Tryz.ntmps133
  go_wp2_with fail
  refine HL.out.mono ?_
  rintro e w1 ⟨rfl, hx1⟩
  have HX := Lib.hid (((Ext.refl (fun _ => False) w).alloc _).trans hx1 (fun _ _ h => h))
  have s1 := hx1.size
  simp at s1
  replace s1 := Nat.lt_of_succ_le s1
  have b1 := hx1.obj (heap_alloc_new w (.cells #[.int .i64 0, .int .i64 0, .int .i64 0, .int .i64 0, .int .i64 0, .int .i64 0] 197)) (fun h => h)
  have q0 := blk_cell b1 0
  have f0 := blk_frozen b1 0
  simp at q0
  have q1 := blk_cell b1 1
  have f1 := blk_frozen b1 1
  simp at q1
  have q2 := blk_cell b1 2
  have f2 := blk_frozen b1 2
  simp at q2
  have q3 := blk_cell b1 3
  have f3 := blk_frozen b1 3
  simp at q3
  have q4 := blk_cell b1 4
  have f4 := blk_frozen b1 4
  simp at q4
  have q5 := blk_cell b1 5
  have f5 := blk_frozen b1 5
  simp at q5
  clear hx1 b1
  go_wp2_with fail
  exact bodyPost_ret (v := .tuple #[.agg #[.int .i64 0, .int .i64 0, .int .i64 0, .int .i64 0, .int .i64 0, .int .i64 0], .bool false]) (by simp [results, Tryz.results133, go_sem, s1, q0, q1, q2, q3, q4, q5]) rfl ⟨rfl, by with_reducible repeat (first | exact HX.out | refine Ext.drew ?_ | refine Ext.alloc ?_ _ | refine Ext.setCell ?_ (fun h => by simp at h) _)⟩

/-- The state of Pop behind the call of Least. -/
structure PopSt (W w : World) (g a c b1 : Nat) (X : El) (ys : List El) : Prop where
  mem : Mem w g (some ⟨a, 0, none⟩) c ys
  ext : Ext (fun k => k = g ∨ k = a) W w
  res : w.heap[W.heap.size]? = some (.cells #[.int .i64 0, .int .i64 0, .int .i64 0, .int .i64 0, .int .i64 0, .int .i64 0] 197 (0, 0))
  box : w.heap[b1]? = some (.cells #[.int .i64 X.f0, .int .i64 X.f1, .int .i64 X.f2, .int .i64 X.f3, .int .i64 X.f4, .int .i64 X.f5] 197 (0, 0))
  lt : W.heap.size < b1
  gl : g < W.heap.size
  al : a < W.heap.size
theorem PopSt.step {W w w' : World} {g a c b1 : Nat} {X : El} {ys : List El} (h : PopSt W w g a c b1 X ys) (hx : Ext (fun _ => False) w w') : PopSt W w' g a c b1 X ys :=
  ⟨h.mem.ext hx (fun h => h) (fun _ _ h => h), h.ext.trans hx (fun _ _ h => h.elim), hx.obj h.res (fun h => h), hx.obj h.box (fun h => h), h.lt, h.gl, h.al⟩
theorem PopSt.set {W w : World} {g a c b1 : Nat} {X : El} {ys : List El} (h : PopSt W w g a c b1 X ys) (k : Nat) (Y : El) :
    PopSt W ((((((w.setCell ⟨a, k * 6, none⟩ (.int .i64 Y.f0)).setCell ⟨a, k * 6 + 1, none⟩ (.int .i64 Y.f1)).setCell ⟨a, k * 6 + 2, none⟩ (.int .i64 Y.f2)).setCell ⟨a, k * 6 + 3, none⟩ (.int .i64 Y.f3)).setCell ⟨a, k * 6 + 4, none⟩ (.int .i64 Y.f4)).setCell ⟨a, k * 6 + 5, none⟩ (.int .i64 Y.f5)) g a c b1 X (ys.set k Y) := by
  have h1 := h.al
  have h2 := h.lt
  exact ⟨h.mem.set k Y, ext_set h.ext (fun _ => .inr rfl) k Y, blk_far (blk_far (blk_far (blk_far (blk_far (blk_far (h.res) (p := ⟨a, _, none⟩) (by simp; omega) _) (p := ⟨a, _, none⟩) (by simp; omega) _) (p := ⟨a, _, none⟩) (by simp; omega) _) (p := ⟨a, _, none⟩) (by simp; omega) _) (p := ⟨a, _, none⟩) (by simp; omega) _) (p := ⟨a, _, none⟩) (by simp; omega) _, blk_far (blk_far (blk_far (blk_far (blk_far (blk_far (h.box) (p := ⟨a, _, none⟩) (by simp; omega) _) (p := ⟨a, _, none⟩) (by simp; omega) _) (p := ⟨a, _, none⟩) (by simp; omega) _) (p := ⟨a, _, none⟩) (by simp; omega) _) (p := ⟨a, _, none⟩) (by simp; omega) _) (p := ⟨a, _, none⟩) (by simp; omega) _, h.lt, h.gl, h.al⟩
theorem PopSt.take {W w : World} {g a c b1 : Nat} {X : El} {ys : List El} (h : PopSt W w g a c b1 X ys) (m : Nat) (hm : m ≤ ys.length) :
    PopSt W (w.setCell ⟨g, 1, none⟩ (.slice (some ⟨a, 0, none⟩) m c)) g a c b1 X (ys.take m) := by
  have h1 := h.gl
  have h2 := h.lt
  have hl : (ys.take m).length = m := by simp; omega
  have hf : flat (ys.take m) = (flat ys).take (m * 6) := by
    have e := flat_append (ys.take m) (ys.drop m)
    rw [List.take_append_drop] at e
    rw [e, List.take_left' (by rw [flat_length, hl])]
  refine ⟨⟨?_, ?_, h.mem.pg⟩, h.ext.setCell (fun _ => .inl rfl) _, blk_far h.res (by simp; omega) _, blk_far h.box (by simp; omega) _, h.lt, h.gl, h.al⟩
  · have := blk_set h.mem.blk 1 (.slice (some ⟨a, 0, none⟩) m c)
    rw [hl]
    simpa [HB] using this
  · rw [hl, hf]
    exact arr_far (arr_take h.mem.row hm) h.mem.pg _

/-- The outer loop's state: at place k. -/
def LoopSt (W w : World) (g a c b1 m : Nat) (X : El) (xs : List El) (gk k : Nat) : Prop :=
  ∃ ys, PopSt W w g a c b1 X ys ∧ ys.length = m ∧ (k < m ∨ m = 0 ∧ k = 0) ∧ down less ys k = popRest less xs ∧ m - k ≤ gk
/-- What Pop leaves. -/
def PopEnd (W : World) (g : Nat) (p : Option Addr) (c : Nat) (xs : List El) (X : El) (e : Ending) (w' : World) : Prop :=
  e = .returned (.tuple #[.agg #[.int .i64 X.f0, .int .i64 X.f1, .int .i64 X.f2, .int .i64 X.f3, .int .i64 X.f4, .int .i64 X.f5], .bool true]) ∧ Mem w' g p c (popRest less xs) ∧ Ext (fun k => k = g ∨ blkOf p = some k) W w'
theorem pop_end {W w : World} {g a c b1 k : Nat} {X : El} {xs ys : List El} (h : PopSt W w g a c b1 X ys) (hd : down less ys k = popRest less xs) (hs : low less ys k = k) :
    PopEnd W g (some ⟨a, 0, none⟩) c xs X (.returned (.tuple #[.agg #[.int .i64 X.f0, .int .i64 X.f1, .int .i64 X.f2, .int .i64 X.f3, .int .i64 X.f4, .int .i64 X.f5], .bool true])) ((((((w.setCell ⟨W.heap.size, 0, none⟩ (.int .i64 X.f0)).setCell ⟨W.heap.size, 1, none⟩ (.int .i64 X.f1)).setCell ⟨W.heap.size, 2, none⟩ (.int .i64 X.f2)).setCell ⟨W.heap.size, 3, none⟩ (.int .i64 X.f3)).setCell ⟨W.heap.size, 4, none⟩ (.int .i64 X.f4)).setCell ⟨W.heap.size, 5, none⟩ (.int .i64 X.f5)) := by
  have hx : Ext (fun k => W.heap.size ≤ k) w ((((((w.setCell ⟨W.heap.size, 0, none⟩ (.int .i64 X.f0)).setCell ⟨W.heap.size, 1, none⟩ (.int .i64 X.f1)).setCell ⟨W.heap.size, 2, none⟩ (.int .i64 X.f2)).setCell ⟨W.heap.size, 3, none⟩ (.int .i64 X.f3)).setCell ⟨W.heap.size, 4, none⟩ (.int .i64 X.f4)).setCell ⟨W.heap.size, 5, none⟩ (.int .i64 X.f5)) := (((((((Ext.refl _ _).setCell (p := ⟨W.heap.size, 0, none⟩) (fun _ => Nat.le_refl W.heap.size) _).setCell (p := ⟨W.heap.size, 1, none⟩) (fun _ => Nat.le_refl W.heap.size) _).setCell (p := ⟨W.heap.size, 2, none⟩) (fun _ => Nat.le_refl W.heap.size) _).setCell (p := ⟨W.heap.size, 3, none⟩) (fun _ => Nat.le_refl W.heap.size) _).setCell (p := ⟨W.heap.size, 4, none⟩) (fun _ => Nat.le_refl W.heap.size) _).setCell (p := ⟨W.heap.size, 5, none⟩) (fun _ => Nat.le_refl W.heap.size) _)
  refine ⟨rfl, ?_, (h.ext.mono ?_).trans hx (fun i hi h2 => by omega)⟩
  · rw [← hd, down_stop less ys k hs]
    have h1 := h.gl
    have h2 := h.al
    exact h.mem.ext hx (fun x => by omega) (fun i hi x => by simp at hi; omega)
  · rintro i (rfl | rfl)
    · exact .inl rfl
    · exact .inr rfl
theorem loop_step {W w : World} {g a c b1 m k gk lo : Nat} {X A B : El} {xs ys : List El} (h : PopSt W w g a c b1 X ys) (hlen : ys.length = m) (hk : k < m) (hd : down less ys k = popRest less xs)
    (hlo : low less ys k = lo) (hgt : k < lo) (hlm : lo < m) (hgk : m - k ≤ gk) (hA : at_ ys k = A) (hB : at_ ys lo = B) :
    LoopSt W ((((((((((((w.setCell ⟨a, k * 6, none⟩ (.int .i64 B.f0)).setCell ⟨a, k * 6 + 1, none⟩ (.int .i64 B.f1)).setCell ⟨a, k * 6 + 2, none⟩ (.int .i64 B.f2)).setCell ⟨a, k * 6 + 3, none⟩ (.int .i64 B.f3)).setCell ⟨a, k * 6 + 4, none⟩ (.int .i64 B.f4)).setCell ⟨a, k * 6 + 5, none⟩ (.int .i64 B.f5)).setCell ⟨a, lo * 6, none⟩ (.int .i64 A.f0)).setCell ⟨a, lo * 6 + 1, none⟩ (.int .i64 A.f1)).setCell ⟨a, lo * 6 + 2, none⟩ (.int .i64 A.f2)).setCell ⟨a, lo * 6 + 3, none⟩ (.int .i64 A.f3)).setCell ⟨a, lo * 6 + 4, none⟩ (.int .i64 A.f4)).setCell ⟨a, lo * 6 + 5, none⟩ (.int .i64 A.f5)).drew g a c b1 m X xs (m - lo) lo := by
  refine ⟨swap ys k lo, ?_, by rw [swap_length]; exact hlen, .inl hlm, ?_, Nat.le_refl _⟩
  · unfold swap
    rw [hA, hB]
    exact ((h.set k B).set lo A).step (Ext.refl _ _).drew
  · rw [← hd, down_step less ys k (by omega) (by omega), hlo]

set_option maxHeartbeats 2000000 in
set_option maxRecDepth 100000 in
/-- Pop. -/
theorem pop_some (W : World) (g : Nat) (p : Option Addr) (c : Nat) (xs : List El) (hM : Mem W g p c xs) (hne : xs ≠ []) (X : El) (hX : at_ xs 0 = X) (hn : xs.length < 1000000000) :
    Calls Tryz.prog 133 #[.pointer (some ⟨g, 0, none⟩)] W (PopEnd W g p c xs X) := by
  have hM0 := hM.ext ((Ext.refl (fun _ => False) W).alloc (.cells #[.int .i64 0, .int .i64 0, .int .i64 0, .int .i64 0, .int .i64 0, .int .i64 0] 197)) (fun h => h) (fun _ _ h => h)
  have HL := Lib.hid (least_some hM0 hne X hX)
  have HM0 := Lib.hid hM0
  obtain ⟨m, hm⟩ : ∃ m, xs.length = m + 1 := ⟨xs.length - 1, by have := List.length_pos_iff.2 hne; omega⟩
  obtain ⟨a, rfl⟩ := arr_some hM.row (by omega)
  have hga : g ≠ a := fun e => hM.pg (by simp [e])
  have kb : m < 1000000000 := by omega
  have gl := blk_lt hM.blk
  have al := arr_lt hM.row (k := a) rfl
  have HMM := Lib.hid hm
  clear hM0 hne hX hM hn hm
  go_enter Tryz.func133, Tryz.ntmps133
  go_wp2_with fail
  refine HL.out.mono ?_
  rintro e w1 ⟨rfl, hx1⟩
  have hX := ((Ext.refl (fun _ => False) W).alloc (.cells #[.int .i64 0, .int .i64 0, .int .i64 0, .int .i64 0, .int .i64 0, .int .i64 0] 197)).trans hx1 (fun _ _ h => h)
  have s1 := hx1.size
  simp at s1
  replace s1 := Nat.lt_of_succ_le s1
  have ST : PopSt W (w1.alloc (.cells #[.int .i64 X.f0, .int .i64 X.f1, .int .i64 X.f2, .int .i64 X.f3, .int .i64 X.f4, .int .i64 X.f5] 197)) g a c w1.heap.size X xs :=
    ⟨(HM0.out.ext hx1 (fun h => h) (fun _ _ h => h)).ext ((Ext.refl (fun _ => False) _).alloc _) (fun h => h) (fun _ _ h => h), (hX.mono (fun _ h => h.elim)).alloc _, blk_alloc (hx1.obj (heap_alloc_new W _) (fun h => h)) _, heap_alloc_new _ _, s1, gl, al⟩
  have HST := Lib.hid ST
  generalize hb1 : w1.heap.size = b1 at ST HST
  clear hx1 hX ST
  go_upto_region 4 with fail
  generalize w1.alloc (.cells #[.int .i64 X.f0, .int .i64 X.f1, .int .i64 X.f2, .int .i64 X.f3, .int .i64 X.f4, .int .i64 X.f5] 197) = wa at HST
  clear hb1 s1 HL HM0 w1
  have r1 := HST.out.mem.cell1
  rw [HMM.out] at r1
  obtain ⟨r1, rf⟩ := r1
  obtain ⟨Y, hY⟩ : ∃ Y, at_ xs m = Y := ⟨_, rfl⟩
  obtain ⟨e0, e1, e2, e3, e4, e5, ef0, ef1, ef2, ef3, ef4, ef5⟩ := HST.out.mem.elem m (by have := HMM.out; omega) Y hY
  have E0 := HST.out.mem.elem 0 (by have := HMM.out; omega) _ rfl
  (try simp at E0)
  obtain ⟨d0, d1, d2, d3, d4, d5, df0, df1, df2, df3, df4, df5⟩ := E0
  have HY := Lib.hid hY
  clear hY
  have i1 : (m : Int) < (m : Int) + 1 := by omega
  have i2 : (0 : Int) < (m : Int) + 1 := by omega
  go_upto_region 5 with fail
  go_cut [] (fun wc => PopSt W wc g a c b1 X (xs.set 0 Y))
  case first =>
    go_region
    go_wp2_with fail
    go_meet
    case rel => have := (HST.out.set 0 Y).step ((Ext.refl _ _).drew); simpa using this
  case rest =>
    have HC := Lib.hid hcut
    have hl2 : (xs.set 0 Y).length = m + 1 := by rw [List.length_set]; exact HMM.out
    have q1 := hcut.mem.cell1
    rw [hl2] at q1
    obtain ⟨q1, qf⟩ := q1
    clear e0 e1 e2 e3 e4 e5 ef0 ef1 ef2 ef3 ef4 ef5 d0 d1 d2 d3 d4 d5 df0 df1 df2 df3 df4 df5 r1 rf
    obtain ⟨e0, e1, e2, e3, e4, e5, ef0, ef1, ef2, ef3, ef4, ef5⟩ := hcut.mem.elem m (by omega) _ rfl
    have sz := blk_lt hcut.mem.blk
    have sa := arr_lt hcut.mem.row (k := a) rfl
    clear hcut hl2
    go_upto_region 7 with fail
    go_cut [] (fun wc => PopSt W wc g a c b1 X ((xs.set 0 Y).set m ⟨0, 0, 0, 0, 0, 0⟩))
    case first =>
      go_region
      go_wp2_with fail
      go_meet
      case rel => exact ((HC.out.set m ⟨0, 0, 0, 0, 0, 0⟩).step (((Ext.refl _ _).alloc _).drew))
    case rest =>
      have HD := Lib.hid hcut
      have hl2 : ((xs.set 0 Y).set m ⟨0, 0, 0, 0, 0, 0⟩).length = m + 1 := by rw [List.length_set, List.length_set]; exact HMM.out
      have q1 := hcut.mem.cell1
      rw [hl2] at q1
      obtain ⟨q1, qf⟩ := q1
      have hmc : m ≤ c := by have := (arr_cap hcut.mem.row).1; omega
      have hmc2 : (m : Int) ≤ (c : Int) := by omega
      clear hl2 e0 e1 e2 e3 e4 e5 ef0 ef1 ef2 ef3 ef4 ef5 hcut
      have HS : LoopSt W (wc.setCell ⟨g, 1, none⟩ (.slice (some ⟨a, 0, none⟩) m c)) g a c b1 m X xs m 0 := by
        have e : ((xs.set 0 Y).set m ⟨0, 0, 0, 0, 0, 0⟩).take m = (xs.set 0 Y).take m := by rw [List.take_set_of_le (Nat.le_refl m)]
        have hlen : ((xs.set 0 Y).take m).length = m := by rw [List.length_take, List.length_set, HMM.out]; omega
        refine ⟨(xs.set 0 Y).take m, ?_, hlen, by omega, ?_, by omega⟩
        · rw [← e]; exact HD.out.take m (by rw [List.length_set, List.length_set, HMM.out]; omega)
        · rw [popRest_down, HMM.out, Nat.add_sub_cancel, HY.out]
      have HS := Lib.hid HS
      clear hmc
      go_wp2_with fail
      go_loopg [8] m (fun gk i wr => ∃ k, i = .int .i64 (k : Nat) ∧ LoopSt W wr g a c b1 m X xs gk k)
      case atStart => exact ⟨0, rfl, HS.out⟩
      case round =>
        obtain ⟨k, rfl, hst⟩ := hrel
        have HST := Lib.hid hst
        obtain ⟨ys, hP, hlen, hk, hd, hgk⟩ := hst
        have kb2 : k < 1000000001 := by omega
        have HP := Lib.hid hP
        have HLEN := Lib.hid hlen
        have HK := Lib.hid hk
        have HD2 := Lib.hid hd
        clear hP hlen hd hk q1 qf
        go_upto_block 2 with fail
        go_cut [9, 10] (fun l _ wc => l = .int .i64 (low less ys k) ∧ PopSt W wc g a c b1 X ys)
        case first =>
          go_wp2_with fail
          go_loopw [9, 10] (fun l kk wr => ∃ j : Nat, kk = .int .i64 j ∧ 2 * k + 1 ≤ j ∧ j ≤ 2 * k + 3 ∧ l = .int .i64 (lowTo less ys k j) ∧ PopSt W wr g a c b1 X ys) (fun _ kk _ => 2 * k + 3 - (intOf kk).toNat)
          case atStart => exact ⟨2 * k + 1, by go_num, by omega, by omega, by rw [lowTo_start], HP.out⟩
          case round =>
            obtain ⟨j, rfl, hj1, hj2, rfl, hP⟩ := hrel
            have z1 := hP.mem.cell1
            rw [HLEN.out] at z1
            obtain ⟨z1, zf⟩ := z1
            have HPJ := Lib.hid hP
            have hg0 := hP.mem.cell0
            by_cases c1 : j ≤ 2 * k + 2
            · have d1 : decide ((j : Int) ≤ 2 * (k : Int) + 2) = true := by simp; omega
              by_cases c2 : j < m
              · have d2 : decide ((j : Int) < (m : Int)) = true := by simp; omega
                have hkm : k < m := by have := HK.out; omega
                have hlt := lowTo_lt less ys k j (by rw [HLEN.out]; exact hkm)
                rw [HLEN.out] at hlt
                have HSTEP := Lib.hid (lowTo_step less ys k j hj1 c1)
                generalize lowTo less ys k j = lo at hlt HSTEP
                obtain ⟨hlt, hlo⟩ := hlt
                obtain ⟨A, hA⟩ : ∃ A, at_ ys j = A := ⟨_, rfl⟩
                obtain ⟨B, hB⟩ : ∃ B, at_ ys lo = B := ⟨_, rfl⟩
                obtain ⟨e0, e1, e2, e3, e4, e5, ef0, ef1, ef2, ef3, ef4, ef5⟩ := hP.mem.elem j (by rw [HLEN.out]; exact c2) A hA
                obtain ⟨d0, d1, d2, d3, d4, d5, df0, df1, df2, df3, df4, df5⟩ := hP.mem.elem lo (by rw [HLEN.out]; exact hlt) B hB
                have HAB := Lib.hid (And.intro hA hB)
                have i1 : (j : Int) < (m : Int) := by omega
                have i2 : (lo : Int) < (m : Int) := by omega
                clear hA hB hP
                go_wp2_with fail
                go_still_tail 18, (by kernel_rfl)
                change wpList _ _ _ _ _ wr.drew
                go_wp2_with fail
                refine (less_any A B _).mono ?_
                rintro e w2 ⟨rfl, hx2⟩
                replace hx2 := hx2.undrew
                have HP2 := Lib.hid (HPJ.out.step hx2)
                clear hx2
                cases hl : less A B with
                | false =>
                  have HE : lowTo less ys k (j + 1) = lo := by rw [HSTEP.out]; unfold low1; rw [HAB.out.1, HAB.out.2, hl]; simp
                  have HE := Lib.hid HE
                  go_wp2_with fail
                  go_roundw
                  case rel => exact ⟨j + 1, by go_num, by omega, by omega, by rw [HE.out], HP2.out⟩
                  case measure => simp [intOf]; omega
                | true =>
                  have HE : lowTo less ys k (j + 1) = j := by rw [HSTEP.out]; unfold low1; rw [HAB.out.1, HAB.out.2, hl, HLEN.out, if_pos ⟨c2, rfl⟩]
                  have HE := Lib.hid HE
                  go_wp2_with fail
                  go_roundw
                  case rel => exact ⟨j + 1, by go_num, by omega, by omega, by rw [HE.out], HP2.out⟩
                  case measure => simp [intOf]; omega
              · have d2 : decide ((j : Int) < (m : Int)) = false := by simp; omega
                have HE := Lib.hid (lowTo_end less ys k j hj1 (.inr (by rw [HLEN.out]; omega)))
                go_wp2_with fail
                go_meet
                exact ⟨by rw [HE.out], HPJ.out⟩
            · have d1 : decide ((j : Int) ≤ 2 * (k : Int) + 2) = false := by simp; omega
              have HE := Lib.hid (lowTo_end less ys k j hj1 (.inl (by omega)))
              go_wp2_with fail
              go_meet
              exact ⟨by rw [HE.out], HPJ.out⟩
        case rest =>
          obtain ⟨rfl, hP2⟩ := hcut
          have HP2 := Lib.hid hP2
          by_cases hs : low less ys k = k
          · have HS2 := Lib.hid hs
            have RB0 := blk_cell hP2.box 0
            have RR0 := blk_cell hP2.res 0
            have FR0 := blk_frozen hP2.res 0
            simp at RB0 RR0
            have RB1 := blk_cell hP2.box 1
            have RR1 := blk_cell hP2.res 1
            have FR1 := blk_frozen hP2.res 1
            simp at RB1 RR1
            have RB2 := blk_cell hP2.box 2
            have RR2 := blk_cell hP2.res 2
            have FR2 := blk_frozen hP2.res 2
            simp at RB2 RR2
            have RB3 := blk_cell hP2.box 3
            have RR3 := blk_cell hP2.res 3
            have FR3 := blk_frozen hP2.res 3
            simp at RB3 RR3
            have RB4 := blk_cell hP2.box 4
            have RR4 := blk_cell hP2.res 4
            have FR4 := blk_frozen hP2.res 4
            simp at RB4 RR4
            have RB5 := blk_cell hP2.box 5
            have RR5 := blk_cell hP2.res 5
            have FR5 := blk_frozen hP2.res 5
            simp at RB5 RR5
            have e : ((low less ys k : Nat) : Int) = (k : Int) := by omega
            rw [e]
            clear hs e hP2
            go_wp2_with fail
            exact bodyPost_ret (v := .tuple #[.agg #[.int .i64 X.f0, .int .i64 X.f1, .int .i64 X.f2, .int .i64 X.f3, .int .i64 X.f4, .int .i64 X.f5], .bool true]) (by simp [results, Tryz.results133, go_sem, RR0, RR1, RR2, RR3, RR4, RR5]) rfl (pop_end HP2.out HD2.out HS2.out)
          · have HS2 := Lib.hid hs
            have hkm : k < m := by
              rcases HK.out with h | ⟨h, h2⟩
              · exact h
              · subst h2
                have hn : ys = [] := List.eq_nil_of_length_eq_zero (by rw [HLEN.out, h])
                rw [hn, low_nil] at hs
                exact absurd rfl hs
            have hb := low_bd less ys k (by rw [HLEN.out]; exact hkm)
            rw [HLEN.out] at hb
            have hne : ((low less ys k : Nat) : Int) ≠ (k : Int) := by omega
            have hgt : k < low less ys k := by omega
            have T0 := fun (A B : El) (hA : at_ ys k = A) (hB : at_ ys (low less ys k) = B) => loop_step (gk := gk) (k := k) HP2.out HLEN.out hkm HD2.out (lo := low less ys k) rfl hgt hb.1 hgk hA hB
            generalize low less ys k = lo at hne hb hgt T0
            obtain ⟨A, hA⟩ : ∃ A, at_ ys k = A := ⟨_, rfl⟩
            obtain ⟨B, hB⟩ : ∃ B, at_ ys lo = B := ⟨_, rfl⟩
            obtain ⟨e0, e1, e2, e3, e4, e5, ef0, ef1, ef2, ef3, ef4, ef5⟩ := hP2.mem.elem k (by rw [HLEN.out]; exact hkm) A hA
            obtain ⟨d0, d1, d2, d3, d4, d5, df0, df1, df2, df3, df4, df5⟩ := hP2.mem.elem lo (by rw [HLEN.out]; exact hb.1) B hB
            have z1 := hP2.mem.cell1
            rw [HLEN.out] at z1
            obtain ⟨z1, zf⟩ := z1
            have T := Lib.hid (T0 A B hA hB)
            have hne2 : ((lo : Int) == (k : Int)) = false := by simpa using hne
            have i3 : (k : Int) < (m : Int) := by omega
            have i4 : (lo : Int) < (m : Int) := by omega
            have hlm := hb.1
            clear hs hb hA hB hP2 T0 hne q1 qf
            go_wp2_with fail
            go_region
            go_wp2_with fail
            go_roundg (m - lo)
            case measure => omega
            case rel => exact ⟨lo, by go_num, T.out⟩
end Go.Proofs.YtigpaaelggnffaaGreatDoor.HeapB
