/- Texts of the proof of TopFiner, part 14 of 17: CutPure, FinerP, PlacesP, Mut, Win, Numbers, Came. -/
import Derived.RangeFuncFrom
import Derived.ArgAppend
import Derived.Deep.Upon
import Derived.OwnWalk
import Derived.Sort.CutIn
import Derived.Test.YtjffafcagklpiaaDoorZTopFiner1
import Derived.Test.YtjffafcagklpiaaDoorZTopFiner6
import Derived.Test.YtjffafcagklpiaaDoorZTopFiner11
import Derived.Test.YtjffafcagklpiaaDoorZTopFiner12
import Derived.Test.YtjffafcagklpiaaDoorZTopFiner13
/- Of right data, the data with the first merges alone are right. -/
namespace Go.Proofs.YtjffafcagklpiaaDoor.Sl
open Go.Proofs.YtjffafcagklpiaaDoor.Lib
set_option linter.unusedVariables false
set_option linter.unusedSimpArgs false

/-! ### right, the other way round -/
theorem badM_of {ws : List ByteArray} {done : List Mrg} {x : Mrg} (h1 : 256 ≤ x.i) (h2 : x.i < 256 + (ws.length : Int)) (h3 : isId done x.i = false) (h4 : madeB done x.l = true) (h5 : madeB done x.r = true) (h6 : (wordOf ws x.i).1 = (wordOf ws x.l).1 ++ (wordOf ws x.r).1) (h7 : hasPair done x.l x.r = false) : badM ws done x = 0 := by
  unfold badM
  rw [if_neg, if_neg, if_neg (fun h => h h6), if_neg (by rw [h7]; decide)]
  · rw [h4, h5]; decide
  · rw [h3]
    intro h
    rcases h with h | h | h
    · omega
    · omega
    · cases h
theorem pairsGo_of {ws : List ByteArray} {i : Nat} {done t : List Mrg} (h : ∀ (j : Nat) (x : Mrg), t[j]? = some x → badM ws (done ++ t.take j) x = 0) : (pairsGo ws i done t).2 = 0 := by
  induction t generalizing i done with
  | nil => rfl
  | cons y t ih =>
    have h0 := h 0 y rfl
    rw [List.take_zero, List.append_nil] at h0
    rw [pairsGo, if_pos h0]
    refine ih fun j x hj => ?_
    have := h (j + 1) x (by simpa using hj)
    rwa [List.take_succ_cons, ← List.singleton_append, ← List.append_assoc] at this
theorem wordsGo_of {i : Nat} {seen t : List ByteArray} (h : ∀ (j : Nat) (s : ByteArray), t[j]? = some s → 2 ≤ s.size ∧ s.size ≤ 256 ∧ s ∉ seen ++ t.take j) : (wordsGo i seen t).2 = 0 := by
  induction t generalizing i seen with
  | nil => rfl
  | cons y t ih =>
    obtain ⟨h0, h1, h2⟩ := h 0 y rfl
    rw [List.take_zero, List.append_nil] at h2
    rw [wordsGo, if_neg (by omega), if_neg (fun hc => h2 (had_iff.1 hc))]
    refine ih fun j x hj => ?_
    have := h (j + 1) x (by simpa using hj)
    rwa [List.take_succ_cons, ← List.singleton_append, ← List.append_assoc] at this
theorem check5_of {d : Dat} (h : RightD d) (h4 : (check4 d.ls d.ns d.ss).1 = 0) : (check5 d).1 = 0 := by
  have hf := h.few
  have hw : (wordsGo 0 [] d.ws).2 = 0 := wordsGo_of fun j s hj => by rw [List.nil_append]; exact h.words j s hj
  have hm : (pairsGo d.ws 0 [] d.ms).2 = 0 := pairsGo_of fun j x hj => by
    rw [List.nil_append]
    have := h.idr j x hj
    exact badM_of this.1 (by rw [h.len]; exact this.2) (h.idn j x hj) (h.pl j x hj) (h.pr j x hj) (h.wd j x hj) (h.pn j x hj)
  unfold check5
  rw [if_neg (by omega), if_neg (fun hc => hc h.len), if_neg (fun hc => hc h4), if_neg (fun hc => hc hw), if_neg (fun hc => hc hm)]
theorem good_check4 {d : Dat} (h : good d = true) : (check4 d.ls d.ns d.ss).1 = 0 := by
  have hr := RightD.of_good h
  unfold good at h
  rw [Bool.and_eq_true] at h
  have h5 := of_decide_eq_true h.2
  unfold check5 at h5
  have hf := hr.few
  rw [if_neg (by omega), if_neg (fun hc => hc hr.len)] at h5
  by_cases hc : (check4 d.ls d.ns d.ss).1 ≠ 0
  · rw [if_pos hc] at h5; exact absurd h5 hc
  · exact Decidable.not_not.1 hc

/-! ### counting the words that are left -/
section
variable {d : Dat} (hd : RightD d) (n : Nat)
theorem ren_prefix (k : Int) {i j : Nat} (h : i ≤ j) : ∃ t, (renGo d k j).2 = (renGo d k i).2 ++ t := by
  induction j with
  | zero =>
    obtain rfl : i = 0 := by omega
    exact ⟨[], by simp⟩
  | succ j ih =>
    by_cases e : i = j + 1
    · subst e; exact ⟨[], by simp⟩
    · obtain ⟨t, ht⟩ := ih (by omega)
      by_cases h0 : j < 256
      · exact ⟨t, by rw [renGo_low d k h0]; exact ht⟩
      · by_cases h1 : (((rankOf d.ms j).getD 0 : Nat) : Int) < k
        · exact ⟨t ++ [(d.ws[j - 256]?).getD ByteArray.empty], by rw [renGo_in d k h0 h1]; simp [ht]⟩
        · exact ⟨t, by rw [renGo_out d k h0 h1]; exact ht⟩
theorem ren_cnt_le (k : Int) {i j : Nat} (h : i ≤ j) : (renGo d k i).2.length ≤ (renGo d k j).2.length := by
  obtain ⟨t, ht⟩ := ren_prefix (d := d) k h
  rw [ht]; simp
include hd in
/-- At an id that is left: one word more. -/
theorem ren_made {j : Nat} {x : Mrg} (hj : d.ms[j]? = some x) (hn : j < n) : ∃ s, d.ws[(x.i - 256).toNat]? = some s ∧ (renGo d n (x.i.toNat + 1)).2 = (renGo d n x.i.toNat).2 ++ [s] := by
  have hr := hd.idr j x hj
  have hl := hd.len
  obtain ⟨s, hs⟩ : ∃ s, d.ws[x.i.toNat - 256]? = some s := ⟨_, List.getElem?_eq_getElem (by omega)⟩
  refine ⟨s, by rw [show (x.i - 256).toNat = x.i.toNat - 256 by omega]; exact hs, ?_⟩
  have e : ((x.i.toNat : Nat) : Int) = x.i := by omega
  rw [renGo_in d n (by omega) (by rw [e, hd.rank_at hj]; simpa using hn), hs]
  rfl
theorem ren_zero (j : Nat) : (renGo d (0 : Nat) j).2 = [] := by
  induction j with
  | zero => rfl
  | succ j ih =>
    by_cases h0 : j < 256
    · rw [renGo_low d _ h0]; exact ih
    · rw [renGo_out d _ h0 (by omega)]; exact ih
include hd in
theorem ren_more {x : Mrg} (hx : d.ms[n]? = some x) : ∀ j, j ≤ 256 + d.ms.length → (renGo d ((n + 1 : Nat) : Int) j).2.length = (renGo d (n : Nat) j).2.length + (if x.i.toNat < j then 1 else 0) := by
  have hr := hd.idr n x hx
  intro j
  induction j with
  | zero => intro _; simp [renGo]
  | succ j ih =>
    intro hj
    have ih := ih (by omega)
    by_cases h0 : j < 256
    · rw [renGo_low d _ h0, renGo_low d _ h0, ih, if_neg (by omega), if_neg (by omega)]
    · obtain ⟨r, y, hrk, hy, hyi, hlt⟩ := hd.rank_ex (id := (j : Int)) (by omega) (by omega)
      by_cases h1 : r < n
      · have hne : x.i.toNat ≠ j := fun e => by
          have := hd.id_inj hx hy (by omega)
          omega
        rw [renGo_in d _ h0 (by rw [hrk]; simp; omega), renGo_in d _ h0 (by rw [hrk]; simpa using h1)]
        simp only [List.length_append, List.length_singleton]
        rw [ih]
        by_cases hc : x.i.toNat < j
        · rw [if_pos hc, if_pos (by omega)]
        · rw [if_neg hc, if_neg (by omega)]
      · by_cases h2 : r = n
        · subst h2
          rw [hx] at hy
          cases hy
          rw [renGo_in d _ h0 (by rw [hrk]; simp; omega), renGo_out d _ h0 (by rw [hrk]; simp)]
          simp only [List.length_append, List.length_singleton]
          rw [ih, if_neg (by omega), if_pos (by omega)]
        · have hne : x.i.toNat ≠ j := fun e => by
            have := hd.id_inj hx hy (by omega)
            omega
          rw [renGo_out d _ h0 (by rw [hrk]; simp; omega), renGo_out d _ h0 (by rw [hrk]; simp; omega), ih]
          by_cases hc : x.i.toNat < j
          · rw [if_pos hc, if_pos (by omega)]
          · rw [if_neg hc, if_neg (by omega)]
include hd in
theorem ren_total (hn : n ≤ d.ms.length) : (renGo d (n : Nat) (256 + d.ms.length)).2.length = n := by
  induction n with
  | zero => rw [ren_zero]; rfl
  | succ n ih =>
    obtain ⟨x, hx⟩ : ∃ x, d.ms[n]? = some x := ⟨_, List.getElem?_eq_getElem (by omega)⟩
    have hr := hd.idr n x hx
    rw [ren_more hd n hx _ (Nat.le_refl _), ih (by omega), if_pos (by omega)]
include hd in
/-- The words that are left are words of the model, each once. -/
theorem ren_words (k : Int) : ∀ j, j ≤ 256 + d.ms.length → (∀ s ∈ (renGo d k j).2, ∃ i, 256 + i < j ∧ d.ws[i]? = some s) ∧ (∀ (p : Nat) (s : ByteArray), (renGo d k j).2[p]? = some s → 2 ≤ s.size ∧ s.size ≤ 256 ∧ s ∉ (renGo d k j).2.take p) := by
  intro j
  have hl := hd.len
  induction j with
  | zero => intro _; exact ⟨fun s hs => by simp [renGo] at hs, fun p s hp => by simp [renGo] at hp⟩
  | succ j ih =>
    intro hj
    obtain ⟨h1, h2⟩ := ih (by omega)
    have keep : (∀ s ∈ (renGo d k j).2, ∃ i, 256 + i < j + 1 ∧ d.ws[i]? = some s) := fun s hs => by
      obtain ⟨i, hi, e⟩ := h1 s hs
      exact ⟨i, by omega, e⟩
    by_cases h0 : j < 256
    · rw [renGo_low d k h0]
      exact ⟨keep, h2⟩
    · by_cases hk : (((rankOf d.ms j).getD 0 : Nat) : Int) < k
      · rw [renGo_in d k h0 hk]
        obtain ⟨s, hs⟩ : ∃ s, d.ws[j - 256]? = some s := ⟨_, List.getElem?_eq_getElem (by omega)⟩
        rw [hs]
        simp only [Option.getD_some]
        have hnew : s ∉ (renGo d k j).2 := fun hc => by
          obtain ⟨i, hi, e⟩ := h1 s hc
          refine (hd.words _ _ hs).2.2 (List.mem_of_getElem? (i := i) ?_)
          rw [List.getElem?_take, if_pos (by omega)]
          exact e
        refine ⟨fun z hz => ?_, fun p z hp => ?_⟩
        · rcases List.mem_append.1 hz with h | h
          · exact keep z h
          · simp at h
            subst h
            exact ⟨j - 256, by omega, hs⟩
        · by_cases hc : p < (renGo d k j).2.length
          · rw [List.getElem?_append_left hc] at hp
            rw [List.take_append_of_le_length (by omega)]
            exact h2 p z hp
          · rw [List.getElem?_append_right (by omega)] at hp
            have hp0 : p - (renGo d k j).2.length = 0 := by
              by_cases h : p - (renGo d k j).2.length = 0
              · exact h
              · rw [List.getElem?_eq_none (by simp; omega)] at hp
                cases hp
            rw [hp0] at hp
            simp at hp
            subst hp
            rw [show p = (renGo d k j).2.length by omega, List.take_append_of_le_length (Nat.le_refl _), List.take_length]
            exact ⟨(hd.words _ _ hs).1, (hd.words _ _ hs).2.1, hnew⟩
      · rw [renGo_out d k h0 hk]
        exact ⟨keep, h2⟩

/-! ### new names -/
/-- An id's new name. -/
def nm (d : Dat) (n : Nat) (id : Int) : Int := renAt (renGo d n (256 + d.ms.length)).1 id
theorem nm_byte {id : Int} (h0 : 0 ≤ id) (h1 : id < 256) : nm d n id = id := by
  unfold nm renAt
  rw [ren_at d n _ _ (by omega)]
  unfold newOf
  rw [if_pos (by omega)]
  show ((id.toNat : Nat) : Int) = id
  omega
include hd in
theorem nm_made {j : Nat} {x : Mrg} (hj : d.ms[j]? = some x) (hn : j < n) (hnm : n ≤ d.ms.length) :
    nm d n x.i = 256 + ((renGo d n x.i.toNat).2.length : Int) ∧ ((renGo d n x.i.toNat).2.length : Int) < n ∧ (renGo d n (256 + d.ms.length)).2[(renGo d n x.i.toNat).2.length]? = d.ws[(x.i - 256).toNat]? := by
  have hr := hd.idr j x hj
  have e : ((x.i.toNat : Nat) : Int) = x.i := by omega
  obtain ⟨s, hs, h1⟩ := ren_made hd n hj hn
  have h2 := ren_cnt_le (d := d) n (show x.i.toNat + 1 ≤ 256 + d.ms.length by omega)
  rw [ren_total hd n hnm, h1] at h2
  simp at h2
  refine ⟨?_, by omega, ?_⟩
  · unfold nm renAt
    rw [ren_at d n _ _ (by omega)]
    unfold newOf
    rw [if_neg (by omega), e, hd.rank_at hj]
    simp [hn]
  · obtain ⟨t, ht⟩ := ren_prefix (d := d) n (show x.i.toNat + 1 ≤ 256 + d.ms.length by omega)
    rw [ht, h1, hs, List.append_assoc, List.getElem?_append_right (Nat.le_refl _)]
    simp
include hd in
theorem cnt_lt {j : Nat} {x : Mrg} (hj : d.ms[j]? = some x) (hn : j < n) {i : Nat} (hi : x.i.toNat < i) : (renGo d n x.i.toNat).2.length < (renGo d n i).2.length := by
  obtain ⟨s, hs, h1⟩ := ren_made hd n hj hn
  have h2 := ren_cnt_le (d := d) n (show x.i.toNat + 1 ≤ i by omega)
  rw [h1] at h2
  simp at h2
  omega
include hd in
theorem nm_inj (hnm : n ≤ d.ms.length) {a b : Int} (ha : madeB (d.ms.take n) a = true) (hb : madeB (d.ms.take n) b = true) (h : nm d n a = nm d n b) : a = b := by
  rcases part_cases ha with ⟨a0, a1⟩ | ⟨j, x, hj, hx, rfl⟩
  · rw [nm_byte n a0 a1] at h
    rcases part_cases hb with ⟨b0, b1⟩ | ⟨k, y, hk, hy, rfl⟩
    · rw [nm_byte n b0 b1] at h; exact h
    · rw [(nm_made hd n hy hk hnm).1] at h; omega
  · rw [(nm_made hd n hx hj hnm).1] at h
    rcases part_cases hb with ⟨b0, b1⟩ | ⟨k, y, hk, hy, rfl⟩
    · rw [nm_byte n b0 b1] at h; omega
    · rw [(nm_made hd n hy hk hnm).1] at h
      have hrx := hd.idr j x hx
      have hry := hd.idr k y hy
      rcases Nat.lt_trichotomy x.i.toNat y.i.toNat with h1 | h1 | h1
      · have := cnt_lt hd n hx hj h1; omega
      · omega
      · have := cnt_lt hd n hy hk h1; omega
theorem made_le {l : List Mrg} {j n : Nat} {id : Int} (h : madeB (l.take j) id = true) (hj : j ≤ n) : madeB (l.take n) id = true := by
  rcases part_cases h with ⟨h0, h1⟩ | ⟨k, y, hk, hy, rfl⟩
  · unfold madeB
    rw [decide_eq_true h0, decide_eq_true h1]; rfl
  · unfold madeB at h ⊢
    simp only [Bool.or_eq_true, Bool.and_eq_true] at h ⊢
    rcases h with h | h
    · exact .inl h
    · exact .inr ⟨h.1, isId_iff.2 ⟨k, y, by rw [List.getElem?_take, if_pos (by omega)]; exact hy, rfl⟩⟩
theorem cutD_ms (n : Nat) : (cutD d n).ms = (d.ms.take n).map fun x => ⟨nm d n x.l, nm d n x.r, nm d n x.i⟩ := rfl
theorem cutD_take (n k : Nat) (hk : k ≤ n) : (cutD d n).ms.take k = (d.ms.take k).map fun x => ⟨nm d n x.l, nm d n x.r, nm d n x.i⟩ := by
  rw [cutD_ms, ← List.map_take, List.take_take, Nat.min_eq_left hk]
include hd in
theorem nm_self (hnm : n ≤ d.ms.length) {j : Nat} {x : Mrg} (hj : d.ms[j]? = some x) (hn : j < n) : madeB (d.ms.take n) x.i = true := by
  have := hd.idr j x hj
  unfold madeB
  simp only [Bool.or_eq_true, Bool.and_eq_true]
  exact .inr ⟨decide_eq_true this.1, isId_iff.2 ⟨j, x, by rw [List.getElem?_take, if_pos hn]; exact hj, rfl⟩⟩
include hd in
theorem nm_part (hnm : n ≤ d.ms.length) {j : Nat} (hjn : j ≤ n) {id : Int} (h : madeB (d.ms.take j) id = true) : madeB ((cutD d n).ms.take j) (nm d n id) = true := by
  rcases part_cases h with ⟨h0, h1⟩ | ⟨k, y, hk, hy, rfl⟩
  · rw [nm_byte n h0 h1]
    unfold madeB
    rw [decide_eq_true h0, decide_eq_true h1]; rfl
  · have hm := nm_made hd n hy (by omega) hnm
    unfold madeB
    simp only [Bool.or_eq_true, Bool.and_eq_true]
    refine .inr ⟨decide_eq_true (by omega), isId_iff.2 ⟨k, ⟨nm d n y.l, nm d n y.r, nm d n y.i⟩, ?_, rfl⟩⟩
    rw [cutD_take n j hjn, List.getElem?_map, List.getElem?_take, if_pos hk, hy]
    rfl
include hd in
theorem nm_word (hnm : n ≤ d.ms.length) {id : Int} (h : madeB (d.ms.take n) id = true) : wordOf (cutD d n).ws (nm d n id) = wordOf d.ws id := by
  rcases part_cases h with ⟨h0, h1⟩ | ⟨k, y, hk, hy, rfl⟩
  · rw [nm_byte n h0 h1, wordOf_byte h0 h1, wordOf_byte h0 h1]
  · have hr := hd.idr k y hy
    have hl := hd.len
    obtain ⟨m1, m2, m3⟩ := nm_made hd n hy hk hnm
    obtain ⟨s, hs⟩ : ∃ s, d.ws[(y.i - 256).toNat]? = some s := ⟨_, List.getElem?_eq_getElem (by omega)⟩
    rw [hs] at m3
    have e1 := wordOf_word m3
    have e2 := wordOf_word hs
    rw [show ((y.i - 256).toNat : Int) + 256 = y.i by omega] at e2
    rw [m1, e2, Int.add_comm]
    exact e1
include hd in
theorem cut_right (hnm : n ≤ d.ms.length) : RightD (cutD d n) := by
  have hf := hd.few
  have hml : (cutD d n).ms.length = n := by rw [cutD_ms, List.length_map, List.length_take]; omega
  have hat : ∀ (k : Nat) (z : Mrg), (cutD d n).ms[k]? = some z → ∃ x, d.ms[k]? = some x ∧ k < n ∧ z = ⟨nm d n x.l, nm d n x.r, nm d n x.i⟩ := by
    intro k z hz
    rw [cutD_ms, List.getElem?_map, List.getElem?_take] at hz
    by_cases hk : k < n
    · rw [if_pos hk] at hz
      cases e : d.ms[k]? with
      | none => rw [e] at hz; cases hz
      | some x => rw [e] at hz; cases hz; exact ⟨x, rfl, hk, rfl⟩
    · rw [if_neg hk] at hz; cases hz
  refine ⟨by rw [hml, cutD_ws]; exact ren_total hd n hnm, by omega, ?_, ?_, ?_, ?_, ?_, ?_, ?_⟩
  · intro j s hj
    exact (ren_words hd n _ (Nat.le_refl _)).2 j s hj
  · intro k z hz
    obtain ⟨x, hx, hk, rfl⟩ := hat k z hz
    have := nm_made hd n hx hk hnm
    rw [hml]
    simp only
    omega
  · intro k z hz
    obtain ⟨x, hx, hk, rfl⟩ := hat k z hz
    cases e : isId ((cutD d n).ms.take k) (nm d n x.i) with
    | false => rfl
    | true =>
      obtain ⟨j, y, hy, hyi⟩ := isId_iff.1 e
      rw [List.getElem?_take] at hy
      by_cases hjk : j < k
      · rw [if_pos hjk] at hy
        obtain ⟨y0, hy0, hjn, rfl⟩ := hat j y hy
        have := nm_inj hd n hnm (nm_self hd n hnm hy0 hjn) (nm_self hd n hnm hx hk) hyi
        have := hd.id_inj hy0 hx this
        omega
      · rw [if_neg hjk] at hy; cases hy
  · intro k z hz
    obtain ⟨x, hx, hk, rfl⟩ := hat k z hz
    exact nm_part hd n hnm (by omega) (hd.pl k x hx)
  · intro k z hz
    obtain ⟨x, hx, hk, rfl⟩ := hat k z hz
    exact nm_part hd n hnm (by omega) (hd.pr k x hx)
  · intro k z hz
    obtain ⟨x, hx, hk, rfl⟩ := hat k z hz
    rw [nm_word hd n hnm (nm_self hd n hnm hx hk), nm_word hd n hnm (made_le (hd.pl k x hx) (by omega)), nm_word hd n hnm (made_le (hd.pr k x hx) (by omega))]
    exact hd.wd k x hx
  · intro k z hz
    obtain ⟨x, hx, hk, rfl⟩ := hat k z hz
    have hno := hd.pn k x hx
    unfold hasPair at hno ⊢
    rw [List.any_eq_false] at hno ⊢
    intro y hy hc
    obtain ⟨j, hj⟩ := List.getElem?_of_mem hy
    rw [List.getElem?_take] at hj
    by_cases hjk : j < k
    · rw [if_pos hjk] at hj
      obtain ⟨y0, hy0, hjn, rfl⟩ := hat j y hj
      rw [Bool.and_eq_true] at hc
      have c1 := nm_inj hd n hnm (made_le (hd.pl j y0 hy0) (by omega)) (made_le (hd.pl k x hx) (by omega)) (of_decide_eq_true hc.1)
      have c2 := nm_inj hd n hnm (made_le (hd.pr j y0 hy0) (by omega)) (made_le (hd.pr k x hx) (by omega)) (of_decide_eq_true hc.2)
      refine hno y0 (List.mem_of_getElem? (i := j) ?_) (by rw [decide_eq_true c1, decide_eq_true c2]; rfl)
      rw [List.getElem?_take, if_pos hjk]
      exact hy0
    · rw [if_neg hjk] at hj; cases hj
end
theorem cut_check {d : Dat} (h : good d = true) {n : Nat} (hn : n ≤ d.ms.length) : (check5 (cutD d n)).1 = 0 :=
  check5_of (cut_right (RightD.of_good h) n hn) (show (check4 d.ls d.ns d.ss).1 = 0 from good_check4 h)
end Go.Proofs.YtjffafcagklpiaaDoor.Sl
/- Merging by the model with fewer merges, pure. -/
namespace Go.Proofs.YtjffafcagklpiaaDoor.Bpe
open Go.RowKit Go.Proofs.YtjffafcagklpiaaDoor.Lib Go.Proofs.YtjffafcagklpiaaDoor.Sl
set_option linter.unusedVariables false
set_option linter.unusedSimpArgs false

section
variable {d : Dat} {n : Nat}
/-- All ids are bytes or made by the first n merges. -/
def Low (d : Dat) (n : Nat) (l : List Int) : Prop := ∀ x ∈ l, madeB (d.ms.take n) x = true
theorem cut_at {j : Nat} {y : Mrg} (hy : (cutD d n).ms[j]? = some y) : ∃ x : Mrg, d.ms[j]? = some x ∧ j < n ∧ y = ⟨nm d n x.l, nm d n x.r, nm d n x.i⟩ := by
  rw [cutD_ms, List.getElem?_map, List.getElem?_take] at hy
  split at hy
  · rename_i hj
    cases e : d.ms[j]? with
    | none => rw [e] at hy; cases hy
    | some x =>
      rw [e] at hy
      cases hy
      exact ⟨x, rfl, hj, rfl⟩
  · cases hy
theorem at_cut {j : Nat} {x : Mrg} (hx : d.ms[j]? = some x) (hj : j < n) : (cutD d n).ms[j]? = some ⟨nm d n x.l, nm d n x.r, nm d n x.i⟩ := by
  rw [cutD_ms, List.getElem?_map, List.getElem?_take, if_pos hj, hx]
  rfl
theorem merge_cut (hd : RightD d) (hnm : n ≤ d.ms.length) {a b : Int} (ha : madeB (d.ms.take n) a = true) (hb : madeB (d.ms.take n) b = true) {k : Nat} {id : Int} (h : mergeOf d.ms a b = some (k, id)) (hk : k < n) :
    mergeOf (cutD d n).ms (nm d n a) (nm d n b) = some (k, nm d n id) := by
  obtain ⟨x, hx, rfl, rfl, rfl, hno⟩ := mergeOf_some h
  have h1 := at_cut hx hk
  refine mergeOf_at h1 fun j y hj hy hc => ?_
  obtain ⟨z, hz, hzn, rfl⟩ := cut_at hy
  have el := nm_inj hd n hnm (made_le (hd.pl j z hz) (by omega)) ha hc.1
  have er := nm_inj hd n hnm (made_le (hd.pr j z hz) (by omega)) hb hc.2
  exact hno j z hj hz ⟨el, er⟩
theorem cut_merge (hd : RightD d) (hnm : n ≤ d.ms.length) {a b : Int} (ha : madeB (d.ms.take n) a = true) (hb : madeB (d.ms.take n) b = true) {k : Nat} {id : Int} (h : mergeOf (cutD d n).ms (nm d n a) (nm d n b) = some (k, id)) :
    k < n ∧ ∃ id0, mergeOf d.ms a b = some (k, id0) ∧ id = nm d n id0 := by
  obtain ⟨y, hy, h1, h2, h3, hno⟩ := mergeOf_some h
  obtain ⟨x, hx, hk, rfl⟩ := cut_at hy
  have el := nm_inj hd n hnm (made_le (hd.pl k x hx) (by omega)) ha h1
  have er := nm_inj hd n hnm (made_le (hd.pr k x hx) (by omega)) hb h2
  refine ⟨hk, x.i, ?_, h3.symm⟩
  rw [← el, ← er]
  refine mergeOf_at hx fun j z hj hz hc => ?_
  exact hno j _ hj (at_cut hz (by omega)) ⟨by show nm d n z.l = _; rw [hc.1, el], by show nm d n z.r = _; rw [hc.2, er]⟩
theorem low_at {l : List Int} (hl : Low d n l) {i : Nat} {x : Int} (h : l[i]? = some x) : madeB (d.ms.take n) x = true := hl x (List.mem_of_getElem? h)
theorem at_map (hd : RightD d) (hnm : n ≤ d.ms.length) {l : List Int} (hl : Low d n l) {i r : Nat} {id : Int} (h : At d.ms l i r id) (hr : r < n) : At (cutD d n).ms (l.map (nm d n)) i r (nm d n id) := by
  obtain ⟨a, b, h1, h2, h3⟩ := h
  exact ⟨nm d n a, nm d n b, by rw [List.getElem?_map, h1]; rfl, by rw [List.getElem?_map, h2]; rfl, merge_cut hd hnm (low_at hl h1) (low_at hl h2) h3 hr⟩
theorem map_at (hd : RightD d) (hnm : n ≤ d.ms.length) {l : List Int} (hl : Low d n l) {i r : Nat} {id : Int} (h : At (cutD d n).ms (l.map (nm d n)) i r id) : r < n ∧ ∃ id0, At d.ms l i r id0 ∧ id = nm d n id0 := by
  obtain ⟨a, b, h1, h2, h3⟩ := h
  rw [List.getElem?_map, Option.map_eq_some_iff] at h1 h2
  obtain ⟨a0, h1, rfl⟩ := h1
  obtain ⟨b0, h2, rfl⟩ := h2
  obtain ⟨hk, id0, h4, h5⟩ := cut_merge hd hnm (low_at hl h1) (low_at hl h2) h3
  exact ⟨hk, id0, ⟨a0, b0, h1, h2, h4⟩, h5⟩
theorem next_map (hd : RightD d) (hnm : n ≤ d.ms.length) {l : List Int} (hl : Low d n l) {i r : Nat} {id : Int} (h : nextT d.ms l = some (r, i, id)) (hr : r < n) : nextT (cutD d n).ms (l.map (nm d n)) = some (r, i, nm d n id) := by
  have hs := nextT_some h
  refine nextT_is ⟨at_map hd hnm hl hs.1 hr, fun j r' id' hc => ?_⟩
  obtain ⟨_, id0, h0, _⟩ := map_at hd hnm hl hc
  exact hs.2 j r' id0 h0
theorem next_stop (hd : RightD d) (hnm : n ≤ d.ms.length) {l : List Int} (hl : Low d n l) (h : ∀ r i id, nextT d.ms l = some (r, i, id) → n ≤ r) : nextT (cutD d n).ms (l.map (nm d n)) = none := by
  refine nextT_no fun j r id hc => ?_
  obtain ⟨hr, id0, h0, _⟩ := map_at hd hnm hl hc
  cases e : nextT d.ms l with
  | none => exact nextT_none e _ _ _ h0
  | some t =>
    obtain ⟨r1, i1, id1⟩ := t
    have h1 := h _ _ _ e
    have h2 := (nextT_some e).2 _ _ _ h0
    omega
theorem step_map (N : Int → Int) (l : List Int) (i : Nat) (id : Int) : stepT (l.map N) i (N id) = (stepT l i id).map N := by
  unfold stepT
  rw [← List.map_set, List.eraseIdx_eq_take_drop_succ, List.eraseIdx_eq_take_drop_succ, List.map_append, List.map_take, List.map_drop]
theorem step_low (hd : RightD d) (hnm : n ≤ d.ms.length) {l : List Int} (hl : Low d n l) {i r : Nat} {id : Int} (h : At d.ms l i r id) (hr : r < n) : Low d n (stepT l i id) := by
  obtain ⟨p, a, b, q, rfl, rfl, hm, hs⟩ := h.split
  obtain ⟨x, hx, _, _, rfl, _⟩ := mergeOf_some hm
  rw [hs]
  intro y hy
  rw [List.mem_append, List.mem_cons] at hy
  rcases hy with hy | rfl | hy
  · exact hl y (List.mem_append_left _ hy)
  · exact nm_self hd n hnm hx hr
  · exact hl y (List.mem_append_right _ (List.mem_cons_of_mem _ (List.mem_cons_of_mem _ hy)))
/-- The steps of the first n merges come ahead; those are the lesser model's. -/
theorem low_phase (hd : RightD d) (hnm : n ≤ d.ms.length) (l : List Int) : Low d n l → ∃ l1, Low d n l1 ∧ (joinT (cutD d n).ms (l.map (nm d n))).1 = l1.map (nm d n) ∧ (joinT d.ms l).1 = (joinT d.ms l1).1 ∧ ∀ r i id, nextT d.ms l1 = some (r, i, id) → n ≤ r := by
  refine join_ind d.ms (Q := fun l t => Low d n l → ∃ l1, Low d n l1 ∧ (joinT (cutD d n).ms (l.map (nm d n))).1 = l1.map (nm d n) ∧ t.1 = (joinT d.ms l1).1 ∧ ∀ r i id, nextT d.ms l1 = some (r, i, id) → n ≤ r) ?_ ?_ l
  · intro l hn hl
    have h0 : ∀ r i id, nextT d.ms l = some (r, i, id) → n ≤ r := fun r i id h => by rw [hn] at h; cases h
    exact ⟨l, hl, by rw [joinT_none (next_stop hd hnm hl h0)], by rw [joinT_none hn], h0⟩
  · intro l r i id t hn et ih hl
    by_cases hr : r < n
    · obtain ⟨l1, h1, h2, h3, h4⟩ := ih (step_low hd hnm hl (nextT_some hn).1 hr)
      refine ⟨l1, h1, ?_, h3, h4⟩
      rw [joinT_some (next_map hd hnm hl hn hr), step_map]
      exact h2
    · have h0 : ∀ r i id, nextT d.ms l = some (r, i, id) → n ≤ r := fun r' i' id' h => by rw [hn] at h; cases h; omega
      refine ⟨l, hl, by rw [joinT_none (next_stop hd hnm hl h0)], ?_, h0⟩
      rw [joinT_some hn, et]
/-- The steps of the other merges: taken down, they leave what was there. -/
theorem high_phase (hd : RightD d) (l : List Int) : (∀ r i id, nextT d.ms l = some (r, i, id) → n ≤ r) → (joinT d.ms l).1.flatMap (leavesOf d n) = l.flatMap (leavesOf d n) := by
  refine join_ind d.ms (Q := fun l t => (∀ r i id, nextT d.ms l = some (r, i, id) → n ≤ r) → t.1.flatMap (leavesOf d n) = l.flatMap (leavesOf d n)) (fun _ _ _ => rfl) ?_ l
  intro l r i id t hn et ih h
  have hr := h r i id hn
  rw [ih (fun r2 i2 id2 h2 => by have := rank_rise hd hn h2; omega)]
  obtain ⟨p, a, b, q, rfl, rfl, hm, hs⟩ := (nextT_some hn).1.split
  obtain ⟨x, hx, rfl, rfl, rfl, _⟩ := mergeOf_some hm
  rw [hs]
  simp only [List.flatMap_append, List.flatMap_cons]
  rw [leavesOf_at hd hx (by omega), List.append_assoc]
theorem low_leaves (hd : RightD d) (hnm : n ≤ d.ms.length) : ∀ {l : List Int}, Low d n l → l.flatMap (leavesOf d n) = l := by
  intro l
  induction l with
  | nil => intro _; rfl
  | cons x l ih =>
    intro h
    rw [List.flatMap_cons, ih (fun y hy => h y (List.mem_cons_of_mem _ hy))]
    rcases part_cases (h x (List.mem_cons_self ..)) with ⟨h0, h1⟩ | ⟨j, y, hj, hy, rfl⟩
    · rw [leavesOf_byte hd h1]; rfl
    · rw [leavesOf_low hd hy (by omega)]; rfl
theorem low_ok (hd : RightD d) {l : List Int} (h : Low d n l) : ∀ x ∈ l, okId d x = true := fun x hx => okId_iff.2 (hd.part_range (h x hx))
theorem bytes_low (t : ByteArray) : Low d n (bytesL t) := fun x hx => by
  have := bytes_range hx
  unfold madeB
  rw [decide_eq_true this.1, decide_eq_true this.2]; rfl
theorem bytes_nm (t : ByteArray) : (bytesL t).map (nm d n) = bytesL t := by
  have : ∀ x ∈ bytesL t, nm d n x = x := fun x hx => nm_byte n (bytes_range hx).1 (bytes_range hx).2
  rw [List.map_congr_left this, List.map_id']
theorem nameOf_nm (n : Nat) (id : Int) : nameOf d (n : Int) id = nm d n id := by
  unfold nameOf nm renAt
  rw [show mx (n : Int) 0 = (n : Int) from by rw [mx_eq]; omega]
theorem valid_ok (d : Dat) (id : Int) : validId d id = okId d id := rfl
/-- Taken down, a text's ids are those by the lesser model. -/
theorem finer_pure (hd : RightD d) (hnm : n ≤ d.ms.length) (t : ByteArray) : downT d (n : Int) (joinT d.ms (bytesL t)).1 = ((joinT (cutD d n).ms (bytesL t)).1, 0) := by
  obtain ⟨l1, h1, h2, h3, h4⟩ := low_phase hd hnm (bytesL t) (bytes_low t)
  rw [bytes_nm] at h2
  have hall : (joinT d.ms (bytesL t)).1.all (validId d) = true := List.all_eq_true.2 (join_ok hd _ (bytes_ok d))
  unfold downT
  rw [if_pos hall, h3, high_phase hd l1 h4, low_leaves hd hnm h1, h2]
  have e : l1.map (nameOf d (n : Int)) = l1.map (nm d n) := List.map_congr_left (fun x _ => nameOf_nm n x)
  rw [e]
/-- Renamed back and merged on, the lesser model's ids are the model's. -/
theorem on_pure (hd : RightD d) (hnm : n ≤ d.ms.length) (t : ByteArray) : ∃ l1, Low d n l1 ∧ (joinT (cutD d n).ms (bytesL t)).1 = l1.map (nm d n) ∧ (joinT d.ms l1).1 = (joinT d.ms (bytesL t)).1 := by
  obtain ⟨l1, h1, h2, h3, _⟩ := low_phase hd hnm (bytesL t) (bytes_low t)
  rw [bytes_nm] at h2
  exact ⟨l1, h1, h2, h3.symm⟩
end
end Go.Proofs.YtjffafcagklpiaaDoor.Bpe
/- Where tokens end; by the model with fewer merges they end there too. Plain law, no program in sight. -/
namespace Go.Proofs.YtjffafcagklpiaaDoor.Cut
open Go.RowKit Go.Proofs.YtjffafcagklpiaaDoor.Lib Go.Proofs.YtjffafcagklpiaaDoor.Sl Go.Proofs.YtjffafcagklpiaaDoor.Bpe
set_option linter.unusedVariables false
set_option linter.unusedSimpArgs false

/-- Where the j-th token ends. -/
def toT (d : Dat) (ids : List Int) (j : Nat) : Nat := (cat d (ids.take j)).length
theorem toT_zero (d : Dat) (ids : List Int) : toT d ids 0 = 0 := rfl
theorem toT_succ {d : Dat} {ids : List Int} {j : Nat} {x : Int} (h : ids[j]? = some x) : toT d ids (j + 1) = toT d ids j + (wb d x).length := by
  unfold toT
  rw [List.take_add_one, h, cat_append]
  simp [cat]
theorem toT_le (d : Dat) (ids : List Int) (j : Nat) : toT d ids j ≤ (cat d ids).length := by
  have := congrArg (fun l => (cat d l).length) (List.take_append_drop j ids)
  simp only [cat_append, List.length_append] at this
  unfold toT
  omega
theorem piece_cat {d : Dat} (hd : RightD d) (s : ByteArray) (x : Tok) : cat d (pieceT d s x) = (s.extract x.a x.b).data.toList := by
  unfold pieceT
  rw [join_cat hd, cat_bytes]
theorem piece_ok {d : Dat} (hd : RightD d) (s : ByteArray) (x : Tok) : ∀ y ∈ pieceT d s x, okId d y = true := join_ok hd _ (bytes_ok d)
theorem ids_ok {d : Dat} (hd : RightD d) (s : ByteArray) (l : List Tok) : ∀ y ∈ idsOf d s l, okId d y = true := fun y hy => by
  obtain ⟨x, _, h⟩ := List.mem_flatMap.1 hy
  exact piece_ok hd s x y h
theorem toks_sum (d : Dat) (s : ByteArray) : ∀ (f k : Nat), k ≤ s.size → ((toksGo d s f k).map fun x => x.b - x.a).sum ≤ s.size - k := by
  intro f
  induction f with
  | zero => intro k _; exact Nat.zero_le _
  | succ f ih =>
    intro k hk
    by_cases h : k < s.size
    · have hb := tokAt_bd (d := d) h
      have e : toksGo d s (f + 1) k = tokAt d s k :: toksGo d s f (tokAt d s k).b := by conv => lhs; unfold toksGo; rw [if_pos h]
      have := ih (tokAt d s k).b hb.2
      have ea : (tokAt d s k).a = k := rfl
      rw [e]
      simp only [List.map_cons, List.sum_cons]
      omega
    · rw [toksGo_end (by omega)]; simp
theorem take_sum {α : Type} (f : α → Nat) (p : α → Bool) : ∀ l : List α, ((l.takeWhile p).map f).sum ≤ (l.map f).sum
  | [] => Nat.le_refl _
  | x :: l => by
    have := take_sum f p l
    rw [List.takeWhile_cons]
    split
    · simp only [List.map_cons, List.sum_cons]; omega
    · simp
theorem ids_cat {d : Dat} (hd : RightD d) (s : ByteArray) : ∀ l : List Tok, (cat d (idsOf d s l)).length ≤ (l.map fun x => x.b - x.a).sum
  | [] => Nat.le_refl _
  | x :: l => by
    have := ids_cat hd s l
    have e : idsOf d s (x :: l) = pieceT d s x ++ idsOf d s l := rfl
    rw [e, cat_append, List.length_append, piece_cat hd]
    simp only [List.map_cons, List.sum_cons, ba_size, ByteArray.size_extract]
    omega
theorem encT_cat {d : Dat} (hd : RightD d) (most : Int) (s : ByteArray) : (cat d (encT d most s).1).length ≤ s.size :=
  Nat.le_trans (ids_cat hd s _) (Nat.le_trans (take_sum _ _ _) (toks_sum d s _ 0 (Nat.zero_le _)))
theorem encT_ok {d : Dat} (hd : RightD d) (most : Int) (s : ByteArray) : ∀ y ∈ (encT d most s).1, okId d y = true := ids_ok hd s _

section
variable {d : Dat} {n : Nat}
theorem toks_cut (s : ByteArray) : toks (cutD d n) s = toks d s := by
  have e00 : ∀ x, kindI (cutD d n) x = kindI d x := fun x => rfl
  have e0 : ∀ k l a b, runGo (cutD d n) k l a b = runGo d k l a b := by
    intro k l
    induction l with
    | nil => intro a b; rfl
    | cons x t ih => intro a b; simp only [runGo, e00, ih]
  have e01 : ∀ s, runT (cutD d n) s = runT d s := by intro s; unfold runT; simp only [e00, e0]
  have e1 : ∀ s, Cut.nextT (cutD d n) s = Cut.nextT d s := by intro s; unfold Cut.nextT; simp only [e01]
  have e2 : ∀ k, tokAt (cutD d n) s k = tokAt d s k := by intro k; unfold tokAt; rw [e1]
  have go : ∀ f k, toksGo (cutD d n) s f k = toksGo d s f k := by
    intro f
    induction f with
    | zero => intro k; rfl
    | succ f ih =>
      intro k
      conv => lhs; unfold toksGo
      conv => rhs; unfold toksGo
      simp only [e2, ih]
  exact go _ _
theorem encL_cut (most : Int) (s : ByteArray) : encL (cutD d n) most s = encL d most s := by unfold encL; rw [toks_cut]
theorem encT_cut (most : Int) (s : ByteArray) : (encT (cutD d n) most s).2 = (encT d most s).2 := by unfold encT; simp only [encL_cut, toks_cut]
theorem wb_nm (hd : RightD d) (hnm : n ≤ d.ms.length) {x : Int} (h : madeB (d.ms.take n) x = true) : wb (cutD d n) (nm d n x) = wb d x := by
  unfold wb
  rw [nm_word hd n hnm h]
theorem cat_nm (hd : RightD d) (hnm : n ≤ d.ms.length) : ∀ {l : List Int}, Low d n l → cat (cutD d n) (l.map (nm d n)) = cat d l
  | [], _ => rfl
  | x :: l, h => by
    rw [List.map_cons, cat_cons, cat_cons, wb_nm hd hnm (h x (.head _)), cat_nm hd hnm (fun y hy => h y (.tail _ hy))]
theorem ends_piece (hd : RightD d) (hnm : n ≤ d.ms.length) (s : ByteArray) (x : Tok) {m : Nat} (h : Bpe.Ends d (pieceT d s x) m) : Bpe.Ends (cutD d n) (pieceT (cutD d n) s x) m := by
  obtain ⟨l1, h1, h2, h3⟩ := on_pure (n := n) hd hnm (s.extract x.a x.b)
  unfold pieceT at h ⊢
  rw [← h3] at h
  obtain ⟨a, b, rfl, h4⟩ := Bpe.Ends.join hd h
  rw [h2]
  refine ⟨a.map (nm d n), b.map (nm d n), List.map_append, ?_⟩
  rw [cat_nm hd hnm (fun y hy => h1 y (List.mem_append_left _ hy))]
  exact h4
theorem len_piece (hd : RightD d) (hnm : n ≤ d.ms.length) (s : ByteArray) (x : Tok) : (pieceT d s x).length ≤ (pieceT (cutD d n) s x).length := by
  obtain ⟨l1, h1, h2, h3⟩ := on_pure (n := n) hd hnm (s.extract x.a x.b)
  unfold pieceT
  rw [← h3, h2, List.length_map]
  exact join_le _ _
theorem ends_append {l m : List Int} {k : Nat} (h : Bpe.Ends d (l ++ m) k) : Bpe.Ends d l k ∨ ∃ j, k = (cat d l).length + j ∧ Bpe.Ends d m j := by
  obtain ⟨a, b, e, h2⟩ := h
  rcases List.append_eq_append_iff.1 e with ⟨c, rfl, rfl⟩ | ⟨c, rfl, rfl⟩
  · right
    refine ⟨(cat d c).length, ?_, c, b, rfl, rfl⟩
    rw [← h2, cat_append, List.length_append]
  · exact .inl ⟨a, c, rfl, h2⟩
theorem ends_left {l m : List Int} {k : Nat} (h : Bpe.Ends d l k) : Bpe.Ends d (l ++ m) k := by
  obtain ⟨a, b, rfl, h2⟩ := h
  exact ⟨a, b ++ m, List.append_assoc _ _ _, h2⟩
theorem ends_right {l m : List Int} {k : Nat} (h : Bpe.Ends d m k) : Bpe.Ends d (l ++ m) ((cat d l).length + k) := by
  obtain ⟨a, b, rfl, h2⟩ := h
  exact ⟨l ++ a, b, (List.append_assoc _ _ _).symm, by rw [cat_append, List.length_append, h2]⟩
theorem ends_ids (hd : RightD d) (hnm : n ≤ d.ms.length) (s : ByteArray) : ∀ (l : List Tok) {m : Nat}, Bpe.Ends d (idsOf d s l) m → Bpe.Ends (cutD d n) (idsOf (cutD d n) s l) m
  | [], m, h => by
    obtain ⟨a, b, e, h2⟩ := h
    have e : [] = a ++ b := e
    obtain ⟨rfl, rfl⟩ := List.append_eq_nil_iff.1 e.symm
    exact ⟨[], [], rfl, h2⟩
  | x :: l, m, h => by
    have e : ∀ d, idsOf d s (x :: l) = pieceT d s x ++ idsOf d s l := fun d => rfl
    rw [e] at h ⊢
    rcases ends_append h with h' | ⟨j, rfl, h'⟩
    · exact ends_left (ends_piece hd hnm s x h')
    · have := ends_right (l := pieceT (cutD d n) s x) (ends_ids hd hnm s l h')
      rwa [piece_cat (cut_right hd n hnm), ← piece_cat hd] at this
theorem len_ids (hd : RightD d) (hnm : n ≤ d.ms.length) (s : ByteArray) : ∀ (l : List Tok), (idsOf d s l).length ≤ (idsOf (cutD d n) s l).length
  | [] => Nat.le_refl _
  | x :: l => by
    have h1 := len_piece (n := n) hd hnm s x
    have h2 := len_ids hd hnm s l
    have e : ∀ d, idsOf d s (x :: l) = pieceT d s x ++ idsOf d s l := fun d => rfl
    rw [e, e, List.length_append, List.length_append]
    omega
theorem nil_ids (hd : RightD d) (hnm : n ≤ d.ms.length) (s : ByteArray) : ∀ (l : List Tok), (idsOf d s l).length = 0 → (idsOf (cutD d n) s l).length = 0
  | [], _ => rfl
  | x :: l, h => by
    have e : ∀ d, idsOf d s (x :: l) = pieceT d s x ++ idsOf d s l := fun d => rfl
    rw [e, List.length_append] at h ⊢
    have h2 := nil_ids hd hnm s l (by omega)
    have h3 := cat_pos (cut_right hd n hnm) (piece_ok (cut_right hd n hnm) s x)
    have h4 : (cat d (pieceT d s x)).length = 0 := by rw [List.length_eq_zero_iff.1 (show (pieceT d s x).length = 0 from by omega)]; rfl
    rw [piece_cat (cut_right hd n hnm), ← piece_cat hd, h4] at h3
    omega
/-- Each place where a token ends by the model is one by the lesser. -/
theorem to_finer (hd : RightD d) (hnm : n ≤ d.ms.length) (most : Int) (s : ByteArray) {i : Nat} (hi : i < (encT d most s).1.length) :
    ∃ j, j < (encT (cutD d n) most s).1.length ∧ toT (cutD d n) (encT (cutD d n) most s).1 (j + 1) = toT d (encT d most s).1 (i + 1) := by
  have h1 : Bpe.Ends d (encT d most s).1 (toT d (encT d most s).1 (i + 1)) := ⟨_, _, (List.take_append_drop (i + 1) _).symm, rfl⟩
  have h2 : Bpe.Ends (cutD d n) (encT (cutD d n) most s).1 (toT d (encT d most s).1 (i + 1)) := by
    have := ends_ids (n := n) hd hnm s (encL d most s) h1
    have e : (encT (cutD d n) most s).1 = idsOf (cutD d n) s (encL d most s) := by unfold encT; simp only [encL_cut]
    rw [e]
    exact this
  obtain ⟨a, b, e, h3⟩ := h2
  have hp : 0 < toT d (encT d most s).1 (i + 1) := by
    obtain ⟨x, hx⟩ : ∃ x, (encT d most s).1[i]? = some x := ⟨_, List.getElem?_eq_getElem hi⟩
    have := wb_pos hd (encT_ok hd most s x (List.mem_of_getElem? hx))
    rw [toT_succ hx]
    omega
  have ha : 0 < a.length := by
    rcases a with _ | ⟨y, t⟩
    · rw [← h3] at hp; exact absurd hp (by simp [cat])
    · simp
  refine ⟨a.length - 1, by rw [e, List.length_append]; omega, ?_⟩
  rw [show a.length - 1 + 1 = a.length from by omega, ← h3]
  unfold toT
  rw [e, List.take_left]
theorem len_finer (hd : RightD d) (hnm : n ≤ d.ms.length) (most : Int) (s : ByteArray) : (encT d most s).1.length ≤ (encT (cutD d n) most s).1.length ∧ ((encT d most s).1.length = 0 ↔ (encT (cutD d n) most s).1.length = 0) := by
  have e : (encT (cutD d n) most s).1 = idsOf (cutD d n) s (encL d most s) := by unfold encT; simp only [encL_cut]
  have e0 : (encT d most s).1 = idsOf d s (encL d most s) := rfl
  rw [e, e0]
  have h1 := len_ids (n := n) hd hnm s (encL d most s)
  exact ⟨h1, fun h => nil_ids hd hnm s _ h, fun h => by omega⟩
end
end Go.Proofs.YtjffafcagklpiaaDoor.Cut
/- A loop over an iterator that writes memory of its own between the rounds. -/
namespace Go.Proofs.YtjffafcagklpiaaDoor.Lib
open Go.RowKit
set_option linter.unusedVariables false
set_option linter.unusedSimpArgs false

/-- What a round may change: nothing of the iterator's own (O), and of what lay below b nothing but V. -/
def Free (V O : Nat → Prop) (b : Nat) (k : Nat) : Prop := ¬ O k ∧ (b ≤ k ∨ V k)
/-- The caller's word abides what the iterator writes. -/
def AbideW {β : Type} (J : β → (Nat → Prop) → World → Prop) : Prop :=
  ∀ s (O O' : Nat → Prop) (A B : World), J s O A → (∀ k, O k → O' k) → (∀ k, O' k → O k ∨ A.heap.size ≤ k) → Ext O' A B → J s O' B
/-- It abides the turn of a block from b on that holds no cells and is none of the iterator's. -/
def TurnW {β : Type} (b : Nat) (J : β → (Nat → Prop) → World → Prop) : Prop :=
  ∀ s (O : Nat → Prop) (A : World) (l : Nat) (o o' : Obj), J s O A → b ≤ l → ¬ O l → A.heap[l]? = some o → o.isCells = false → J s O (A.putObj l o')
def SeqMut {α : Type} (F : Fence) (n : Nat) (P : Program) (g : Nat) (lb : Array Value) (encs : α → Array Value) (V : Nat → Prop) (Nx : List α → α → Prop) (S Sp : List α → Prop) (w : World) : Prop :=
  ∀ (l : Nat) (J Jx : List α → (Nat → Prop) → World → Prop) (W : World), Ext (fun _ => False) w W → AbideW J → AbideW Jx →
    (∀ pre x O W1, J pre O W1 → Nx pre x → (∀ k, O k → W.heap.size ≤ k ∧ k < W1.heap.size) → YieldAt F (n - 1) P l (encs x) W1 fun e W' =>
      (e = .returned (.bool true) ∧ J (pre ++ [x]) O W' ∧ Ext (Free V O w.heap.size) W1 W') ∨ (e = .returned (.bool false) ∧ Jx (pre ++ [x]) O W')) →
    J [] (fun _ => False) W →
    CallsIn F n P g (#[.func (.yield l) #[] #[]] ++ lb) W fun e W' => (∃ v, e = .returned v) ∧
      ((∃ xs O, S xs ∧ (∀ k, O k → W.heap.size ≤ k) ∧ J xs O W') ∨ (∃ pre O, Sp pre ∧ (∀ k, O k → W.heap.size ≤ k) ∧ Jx pre O W'))
/-- How a round may be left. -/
def mutPost {α : Type} (V O : Nat → Prop) (b : Nat) (I : List α → (Nat → Prop) → World → Prop) (Ix : Code → List α → (Nat → Prop) → World → Prop) (xs : List α) (W : World) : Exit → Act → World → Prop
  | .normal, _, W' => KeepsOthers W W' ∧ Ext (Free V O b) W W' ∧ I xs O W'
  | .ret, _, W' => KeepsOthers W W' ∧ Ix .ret xs O W'
  | .exit id, _, W' => KeepsOthers W W' ∧ Ix (.exit id) xs O W'
  | .goto t, _, W' => KeepsOthers W W' ∧ Ix (.goto t) xs O W'
  | .panic _, _, _ => False
  | .outgrown, _, _ => False
theorem ext_putObj {S : Nat → Prop} {w A : World} {l : Nat} (o : Obj) (h : Ext S w A) (hS : l < w.heap.size → S l) : Ext S w (A.putObj l o) :=
  ⟨h.os, h.tape, h.output, by simpa [World.putObj] using h.size, fun k hk hn => (World.putObj_heap_other (fun e => by subst e; exact hn (hS hk))).trans (h.block k hk hn)⟩
/-- The caller's word, with the loop's own two blocks beside it. -/
def WithRec {β : Type} (D : Nat) (o : Obj) (I : β → (Nat → Prop) → World → Prop) (s : β) (O : Nat → Prop) (A : World) : Prop :=
  I s O A ∧ A.heap[D + 1]? = some o ∧ A.heap[D]? = some (.deferred (some [])) ∧ ∀ k, O k → D + 2 ≤ k
theorem WithRec.abide {β : Type} {D : Nat} {o : Obj} {I : β → (Nat → Prop) → World → Prop} (hI : AbideW I) : AbideW (WithRec D o I) := by
  rintro s O O' A B ⟨i, r, d, hO⟩ h1 h2 hx
  have far : ∀ (o : Obj) (k : Nat), k < D + 2 → A.heap[k]? = some o → B.heap[k]? = some o := fun o k hk ho => hx.obj ho (fun h => by
    rcases h2 _ h with h | h
    · have := hO _ h; omega
    · have := blk_lt ho; omega)
  exact ⟨hI s O O' A B i h1 h2 hx, far _ _ (by omega) r, far _ _ (by omega) d, fun k hk => by
    rcases h2 k hk with h | h
    · exact hO k h
    · have := blk_lt r; omega⟩
variable {F : Fence} {n : Nat} {P : Program}
set_option maxHeartbeats 400000 in
theorem wpIn_range_mut {α : Type} {g : Operand} {ps : Array Tmp} {assign body : Code} {Q : Exit → Act → World → Prop} {a : Act} {w : World}
    (hro : F.round = none) (h1 : 1 ≤ n) {gf : Nat} {lb : Array Value} (hg : a.eval g = .func (.func gf) #[] lb) (hFg : F.fn gf) (eg : ∀ args w, (callFunc gf args).run P w = .ok (.enter gf args) w)
    {encs : α → Array Value} {V : Nat → Prop} {Nx : List α → α → Prop} {S Sp : List α → Prop} (hseq : SeqMut F (n - 1) P gf lb encs V Nx S Sp w) (hps : ∀ x, (encs x).size = ps.size)
    (I : List α → (Nat → Prop) → World → Prop) (Ix : Code → List α → (Nat → Prop) → World → Prop) (hI : AbideW I) (hT : TurnW w.heap.size I) (hIx : ∀ c, AbideW (Ix c)) (hTx : ∀ c, TurnW w.heap.size (Ix c)) (h0 : I [] (fun _ => False) w) (a₁ : α → Nat → Act) (Pa : α → Nat → World → Prop) (hPa : ∀ x k W l o o', Pa x k W → W.heap[l]? = some o → o.isCells = false → Pa x k (W.putObj l o'))
    (hassign : ∀ (l : Nat) (x : α) (W : World) (k : Nat) (K : Act → World → Prop), W.heap.size = k → (∀ W', Ext (fun _ => False) W W' → Pa x k W' → K (a₁ x k) W') →
      assign.wpIn (F.inRound l) (n - 1 - 1) P (Exit.then K (fun _ _ _ => False)) { tmps := (ps.zip (encs x)).foldl (fun t (p, v) => t.setIfInBounds p v) a.tmps, defers := [] } W)
    (hbody : ∀ (l : Nat) (pre : List α) (x : α) (O : Nat → Prop) (W : World) (k : Nat), I pre O W → Nx pre x → (∀ k, O k → w.heap.size ≤ k ∧ k < W.heap.size) → Pa x k W → body.wpIn (F.inRound l) (n - 1 - 1) P (mutPost V O w.heap.size I Ix (pre ++ [x]) W) (a₁ x k) W)
    (hdone : ∀ (D : Nat) (xs : List α) (O : Nat → Prop) (W : World), w.heap.size ≤ D → S xs → I xs O W → ¬ O D → W.heap[D]? = some (.deferred (some [])) → Q .normal { a with defers := { target := .collected D, args := #[] } :: a.defers } W)
    (hstop : ∀ (D : Nat) (c : Code) (pre : List α) (O : Nat → Prop) (W : World), w.heap.size ≤ D → Sp pre → Ix c pre O W → ¬ O D → W.heap[D]? = some (.deferred (some [])) → c.wpIn F n P Q { a with defers := { target := .collected D, args := #[] } :: a.defers } W) :
    (Code.rangeFunc g ps assign body).wpIn F n P Q a w := by
  refine wpIn_rangeFunc (fun fn hfn => ?_)
  rw [hro]
  obtain ⟨D, hD⟩ : ∃ D, w.heap.size = D := ⟨_, rfl⟩
  obtain ⟨rc, hrc⟩ : ∃ rc : LoopState → Option Code → Loop, ∀ st pe, rc st pe = { state := st, pending := pe, fn, tmps := a.tmps, params := ps, assign, body, defers := D } := ⟨_, fun _ _ => rfl⟩
  obtain ⟨W1, hW1⟩ : ∃ W1, (w.alloc (.deferred (some []))).alloc (.loop (rc .ready none)) = W1 := ⟨_, rfl⟩
  have X1 : Ext (fun _ => False) w W1 := by rw [← hW1]; exact ((Ext.refl _ w).alloc _).alloc _
  have sz1 : W1.heap.size = D + 2 := by rw [← hW1, ← hD]; simp
  have hR1 : W1.heap[D + 1]? = some (.loop (rc .ready none)) := by
    rw [← hW1, ← hD]
    have := World.alloc_heap_new (w.alloc (.deferred (some []))) (.loop (rc .ready none))
    rwa [World.size_alloc] at this
  have hD1 : W1.heap[D]? = some (.deferred (some [])) := by
    rw [← hW1, ← hD]
    exact (Below.heap_alloc _ _ _ (by simp)).trans (World.alloc_heap_new w _)
  obtain ⟨J, hJd⟩ : ∃ J, J = WithRec D (.loop (rc .ready none)) I := ⟨_, rfl⟩
  obtain ⟨Jx, hJxd⟩ : ∃ Jx : List α → (Nat → Prop) → World → Prop, Jx = fun s O A => ∃ c, WithRec D (.loop (rc .done (some c))) (Ix c) s O A := ⟨_, rfl⟩
  have hJ : AbideW J := by rw [hJd]; exact WithRec.abide hI
  have hJx : AbideW Jx := by
    rw [hJxd]
    rintro s O O' A B ⟨c, h⟩ h1 h2 hx
    exact ⟨c, WithRec.abide (hIx c) s O O' A B h h1 h2 hx⟩
  have yieldAt : ∀ pre x O W, J pre O W → Nx pre x → (∀ k, O k → W1.heap.size ≤ k ∧ k < W.heap.size) → YieldAt F (n - 1 - 1) P (D + 1) (encs x) W fun e W' =>
      (e = .returned (.bool true) ∧ J (pre ++ [x]) O W' ∧ Ext (Free V O w.heap.size) W W') ∨ (e = .returned (.bool false) ∧ Jx (pre ++ [x]) O W') := by
    rw [hJd, hJxd]
    rintro pre x O W0 ⟨hi0, hr0, hd0, hO⟩ hnx hOW
    have hy := run_yield (P := P) (args := encs x) hr0 (by rw [hrc]; exact hps x)
    rw [hrc] at hy
    refine ⟨fn, _, assign, body, hy, roundIn_of_wpIn hfn (hassign _ x W0 _ _ rfl (fun W hxW hpa => ⟨_, run_beginRound (hxW.obj hr0 (fun h => h)) (by rw [hrc]), ?_⟩))⟩
    have hr := hxW.obj hr0 (fun h => h)
    have hd := hxW.obj hd0 (fun h => h)
    have hlt := blk_lt hr
    have hi : I pre O W := hI _ _ _ _ _ hi0 (fun _ h => h) (fun _ h => .inl h) (hxW.mono (fun _ h => h.elim))
    obtain ⟨W2, hW2⟩ : ∃ W2, W.putObj (D + 1) (.loop { rc .ready none with state := .busy }) = W2 := ⟨_, rfl⟩
    have hr2 : W2.heap[D + 1]? = some (.loop { rc .ready none with state := .busy }) := by rw [← hW2]; exact World.putObj_heap_same hlt
    have hd2 : W2.heap[D]? = some (.deferred (some [])) := by rw [← hW2]; exact (World.putObj_heap_other (by omega)).trans hd
    have nO : ¬ O (D + 1) := fun h => by have := hO _ h; omega
    have x2 : Ext (Free V O w.heap.size) W0 W2 := by rw [← hW2]; exact ext_putObj _ (hxW.mono (fun _ h => h.elim)) (fun _ => ⟨nO, .inl (by omega)⟩)
    have hi2 : I pre O W2 := by rw [← hW2]; exact hT _ _ _ _ _ _ hi (by omega) nO hr rfl
    have hpa2 : Pa x W0.heap.size W2 := by rw [← hW2]; exact hPa _ _ _ _ _ _ hpa hr rfl
    have hz2 : W0.heap.size ≤ W2.heap.size := x2.size
    rw [hW2]
    refine wpIn_mono (hbody _ pre x O W2 _ hi2 hnx (fun k hk => by have := hO k hk; have := (hOW k hk).2; omega) hpa2) ?_
    have fin : ∀ (jump : Option Code) (W3 : World), KeepsOthers W2 W3 → ∃ W4, W4 = W3.putObj (D + 1) (.loop (rc (if jump.isNone then .ready else .done) jump)) ∧ (Instr.endRound (D + 1) jump).run P W3 = .ok (.bool jump.isNone) W4 ∧
        W4.heap[D + 1]? = some (.loop (rc (if jump.isNone then .ready else .done) jump)) ∧ W4.heap[D]? = some (.deferred (some [])) ∧ ∃ o, W3.heap[D + 1]? = some o ∧ o.isCells = false := fun jump W3 hk => by
      have hr3 := hk.same _ _ hr2 rfl
      have hd3 := hk.same _ _ hd2 rfl
      have hend := run_endRound (P := P) jump hr3
      rw [hrc] at hend
      refine ⟨_, rfl, by rw [hrc]; exact hend, World.putObj_heap_same (blk_lt hr3), (World.putObj_heap_other (by omega)).trans hd3, _, hr3, rfl⟩
    rintro e a3 W3 hp
    cases e with
    | normal =>
      obtain ⟨hk, hx3, hi3⟩ := hp
      obtain ⟨W4, e4, hend, hr4, hd4, o, ho, hc⟩ := fin none W3 hk
      refine ⟨_, _, hend, .inl ⟨rfl, ⟨?_, hr4, hd4, hO⟩, ?_⟩⟩
      · rw [e4]; exact hT _ _ _ _ _ _ hi3 (by omega) nO ho hc
      · rw [e4]; exact ext_putObj _ (x2.trans hx3 (fun _ _ h => h)) (fun _ => ⟨nO, .inl (by omega)⟩)
    | ret =>
      obtain ⟨hk, hi3⟩ := hp
      obtain ⟨W4, e4, hend, hr4, hd4, o, ho, hc⟩ := fin (some .ret) W3 hk
      exact ⟨_, _, hend, .inr ⟨rfl, .ret, by rw [e4]; exact hTx _ _ _ _ _ _ _ hi3 (by omega) nO ho hc, hr4, hd4, hO⟩⟩
    | exit id =>
      obtain ⟨hk, hi3⟩ := hp
      obtain ⟨W4, e4, hend, hr4, hd4, o, ho, hc⟩ := fin (some (.exit id)) W3 hk
      exact ⟨_, _, hend, .inr ⟨rfl, .exit id, by rw [e4]; exact hTx _ _ _ _ _ _ _ hi3 (by omega) nO ho hc, hr4, hd4, hO⟩⟩
    | goto t =>
      obtain ⟨hk, hi3⟩ := hp
      obtain ⟨W4, e4, hend, hr4, hd4, o, ho, hc⟩ := fin (some (.goto t)) W3 hk
      exact ⟨_, _, hend, .inr ⟨rfl, .goto t, by rw [e4]; exact hTx _ _ _ _ _ _ _ hi3 (by omega) nO ho hc, hr4, hd4, hO⟩⟩
    | panic ch => exact hp.elim
    | outgrown => exact hp.elim
  have call := hseq (D + 1) J Jx W1 X1 hJ hJx yieldAt (by rw [hJd]; exact ⟨hI _ _ _ _ _ h0 (fun _ h => h) (fun _ h => h.elim) X1, hR1, hD1, fun _ h => h.elim⟩)
  rw [hJd, hJxd] at call
  refine ⟨D + 1, [{ target := .collected D, args := #[] }], W1, { target := .fn (.func gf) lb, args := #[.func (.yield (D + 1)) #[] #[]] }, W1, gf, #[.func (.yield (D + 1)) #[] #[]] ++ lb, W1, ?_, ?_, ?_, ?_, fun _ => h1, ?_⟩
  · rw [← hW1, hrc, ← hD]
    exact run_enterLoop_outer _ _ _ _ _
  · simp only [resolve, hg]
    simp [go_sem]
  · intro f' hf'
    simp [Target.leads] at hf'
    subst hf'
    exact hFg
  · simp [invoke, go_sem, eg]
  · refine call.mono ?_
    rintro e W2 ⟨⟨v, rfl⟩, (⟨xs, O, hS, _, hi, hr, hd, hO⟩ | ⟨pre, O, hS, _, c, hi, hr, hd, hO⟩)⟩
    · have nO : ¬ O (D + 1) := fun h => by have := hO _ h; omega
      have hend := run_endLoop (P := P) hr (by rw [hrc]; simp)
      rw [hrc] at hend
      exact ⟨none, _, hend, hdone D xs O _ (by omega) hS (hT _ _ _ _ _ _ hi (by omega) nO hr rfl) (fun h => by have := hO _ h; omega) ((World.putObj_heap_other (by omega)).trans hd)⟩
    · have nO : ¬ O (D + 1) := fun h => by have := hO _ h; omega
      have hend := run_endLoop (P := P) hr (by rw [hrc]; simp)
      rw [hrc] at hend
      exact ⟨some c, _, hend, hstop D c pre O _ (by omega) hS (hTx _ _ _ _ _ _ _ hi (by omega) nO hr rfl) (fun h => by have := hO _ h; omega) ((World.putObj_heap_other (by omega)).trans hd)⟩
end Go.Proofs.YtjffafcagklpiaaDoor.Lib
/- A slice of one-cell elements at an offset in memory of the call's own, said by its cells: what is left of a row whose beginning was cut off. -/
namespace Go.Proofs.YtjffafcagklpiaaDoor.Lib
open Go.RowKit
set_option linter.unusedVariables false
set_option linter.unusedSimpArgs false

structure Win (w : World) (p : Option Addr) (n c : Nat) (cs : List Value) : Prop where
  len : cs.length = n
  le : n ≤ c
  cap : c ≤ maxLen
  at_ : (p = none ∧ c = 0) ∨ ∃ g off, p = some ⟨g, off, none⟩ ∧ g < w.heap.size ∧ (∀ i v, cs[i]? = some v → w.cell? ⟨g, off + i, none⟩ = some v) ∧ ∀ i, i < c → (w.cell? ⟨g, off + i, none⟩).isSome = true ∧ w.frozen? ⟨g, off + i, none⟩ = false
theorem Win.nil (w : World) : Win w none 0 0 [] := ⟨rfl, Nat.le_refl _, Nat.zero_le _, .inl ⟨rfl, rfl⟩⟩
theorem Win.tail {w : World} {p : Option Addr} {n c : Nat} {v : Value} {cs : List Value} (h : Win w p (n + 1) c (v :: cs)) : ∃ g off, p = some ⟨g, off, none⟩ ∧ Win w (some ⟨g, off + 1, none⟩) n (c - 1) cs := by
  have hl := h.len
  have hc := h.le
  rcases h.at_ with ⟨_, h0⟩ | ⟨g, off, rfl, hg, h1, h2⟩
  · omega
  · refine ⟨g, off, rfl, by simpa using hl, by omega, by have := h.cap; omega, .inr ⟨g, off + 1, rfl, hg, fun i v hi => ?_, fun i hi => ?_⟩⟩
    · have := h1 (i + 1) v (by simpa using hi)
      rwa [show off + (i + 1) = off + 1 + i by omega] at this
    · have := h2 (i + 1) (by omega)
      rwa [show off + (i + 1) = off + 1 + i by omega] at this
theorem Win.on {w w' : World} {p : Option Addr} {n c : Nat} {cs : List Value} {S : Nat → Prop} (h : Win w p n c cs) (hx : Ext S w w') (hn : ∀ k, blkOf p = some k → ¬ S k) : Win w' p n c cs := by
  refine ⟨h.len, h.le, h.cap, ?_⟩
  rcases h.at_ with h0 | ⟨g, off, rfl, hg, h1, h2⟩
  · exact .inl h0
  · have hb := hx.block g hg (hn g rfl)
    refine .inr ⟨g, off, rfl, Nat.lt_of_lt_of_le hg hx.size, fun i v hi => (hx.cell (p := ⟨g, off + i, none⟩) hg (hn g rfl)).trans (h1 i v hi), fun i hi => ⟨by rw [hx.cell (p := ⟨g, off + i, none⟩) hg (hn g rfl)]; exact (h2 i hi).1, ?_⟩⟩
    have h3 := (h2 i hi).2
    unfold World.frozen? at h3 ⊢
    simpa [hb] using h3
theorem arr_win {w : World} {e : Nat} {p : Option Addr} {n c : Nat} {cs : List Value} (h : Arr w e 1 p n c cs) : Win w p n c cs := by
  have hl := arr_len h
  have hc := arr_cap h
  refine ⟨by omega, hc.1, hc.2, ?_⟩
  rcases h.2 with ⟨hv, h0⟩ | ⟨g, cap, cur, hv, _, hg, h1, h2, h3, h4⟩
  · injection hv with e1 e2 e3
    exact .inl ⟨e1, e3⟩
  · injection hv with e1 e2 e3
    subst e1 e3
    have hcur : ∀ i, w.cell? ⟨g, 0 + i, none⟩ = cur[i]? := fun i => by rw [Nat.zero_add]; exact blk_cell hg i
    refine .inr ⟨g, 0, rfl, blk_lt hg, fun i v hi => ?_, fun i hi => ⟨?_, ?_⟩⟩
    · rw [hcur, ← Array.getElem?_toList]
      rw [← h4, List.getElem?_take] at hi
      split at hi
      · exact hi
      · cases hi
    · rw [hcur, Array.getElem?_eq_getElem (by omega)]; rfl
    · rw [Nat.zero_add]; exact blk_frozen hg i
/-- Of one more. -/
theorem run_win_append {P : Program} {W : World} (t ty e bytes : Nat) (z : Value) (ht : P.underlying t = some (.slice e)) (hinfo : (P.info? e).map (fun i => (i.zero, i.size, i.bytes)) = some (some z, 1, bytes)) (hz : z.cells.size = 1) (hb0 : 0 < bytes)
    {p : Option Addr} {n c : Nat} {cs : List Value} (h : Win W p n c cs) (ad : Addr) (mc : Nat) (v : Value) (hv : W.cell? ad = some v) (h1 : v.oneCell' = true) (hl : (n + 1) * bytes ≤ 140737488355328) :
    ∃ p1 c1 w1, (Builtin.append_ #[t, t] ty #[.slice p n c, .slice (some ad) 1 mc]).run P W = .ok (.slice p1 (n + 1) c1) w1 ∧ Win w1 p1 (n + 1) c1 (cs ++ [v]) ∧ Ext (fun k => blkOf p = some k) W w1 ∧ Moved W p p1 := by
  have hnews : ∀ ad', some ad = some ad' → ∀ j u, [v][j]? = some u → W.cell? (ad'.add j) = some u := by
    intro ad' e' j u hu
    injection e' with e'
    subst e'
    cases j with
    | zero =>
      simp at hu
      subst hu
      simpa [Addr.add] using hv
    | succ j => simp at hu
  have hln := h.len
  have hle := h.le
  rcases h.at_ with ⟨rfl, h0⟩ | ⟨g, off, rfl, hg, hc1, hc2⟩
  · obtain rfl : n = 0 := by omega
    subst h0
    obtain rfl : cs = [] := List.eq_nil_of_length_eq_zero hln
    obtain ⟨p1, c1, w1, hr, hA, hx, hm⟩ := run_arr_append (P := P) t ty e 1 bytes z ht hinfo hz (by decide) hb0 none 0 0 [] (arr_nil _ _ _) (some ad) 1 mc [v] rfl hnews (fun h => by cases h) (fun u hu => by simp at hu; subst hu; exact h1) hl
    exact ⟨p1, c1, w1, hr, arr_win hA, hx, hm⟩
  · obtain ⟨i0, hi, hzz⟩ := Option.map_eq_some_iff.1 hinfo
    simp only [Prod.mk.injEq] at hzz
    obtain ⟨hz0, hz1, hz2⟩ := hzz
    by_cases hroom : n + 1 ≤ c
    · have hr := run_append_room_cells (P := P) W t ty e i0 ht hi g off n c ad 1 mc [v] (by simp [hz1]) (hnews ad rfl) (fun u hu => by simp at hu; subst hu; exact h1) hroom
        (fun j hj => by
          simp at hj
          subst hj
          rw [hz1, Nat.mul_one]
          exact (hc2 n (by omega)).1)
        (fun j hj => by
          simp at hj
          subst hj
          rw [hz1, Nat.mul_one]
          exact (hc2 n (by omega)).2)
      rw [hz1, Nat.mul_one] at hr
      have hs : W.setCells g (off + n) [v] = W.setCell ⟨g, off + n, none⟩ v := rfl
      rw [hs] at hr
      have hx : Ext (fun k => blkOf (some (⟨g, off, none⟩ : Addr)) = some k) W (W.setCell ⟨g, off + n, none⟩ v) := (Ext.refl (fun k => blkOf (some (⟨g, off, none⟩ : Addr)) = some k) W).setCell (p := ⟨g, off + n, none⟩) (fun _ => rfl) _
      have hout : ∀ i, i ≠ n → (W.setCell ⟨g, off + n, none⟩ v).cell? ⟨g, off + i, none⟩ = W.cell? ⟨g, off + i, none⟩ := fun i hi => by
        rw [← hs]
        exact World.cell?_setCells_out g [v] (off + n) W ⟨g, off + i, none⟩ (fun _ _ => by simp; omega)
      have hin : (W.setCell ⟨g, off + n, none⟩ v).cell? ⟨g, off + n, none⟩ = some v := by
        have := World.cell?_setCells_in g [v] (off + n) W (fun j hj => by simp at hj; subst hj; exact (hc2 n (by omega)).1) 0 (by simp)
        rw [hs] at this
        simpa using this
      have hfz : ∀ i, (W.setCell ⟨g, off + n, none⟩ v).frozen? ⟨g, off + i, none⟩ = W.frozen? ⟨g, off + i, none⟩ := fun i => by
        rw [← hs]
        exact World.frozen?_setCells g [v] (off + n) W _
      refine ⟨_, _, _, hr, ⟨by simp [hln], hroom, h.cap, .inr ⟨g, off, rfl, Nat.lt_of_lt_of_le hg hx.size, fun i u hi => ?_, fun i hi => ⟨?_, by rw [hfz]; exact (hc2 i hi).2⟩⟩⟩, hx, Moved.refl _ _⟩
      · by_cases hin2 : i = n
        · subst hin2
          rw [hin]
          rw [List.getElem?_append_right (by omega), hln, Nat.sub_self] at hi
          exact hi
        · rw [hout i hin2]
          refine hc1 i u ?_
          have hlt := (List.getElem?_eq_some_iff.1 hi).1
          simp at hlt
          rwa [List.getElem?_append_left (by omega)] at hi
      · by_cases hin2 : i = n
        · subst hin2; rw [hin]; rfl
        · rw [hout i hin2]; exact (hc2 i hi).1
    · obtain ⟨v', w', hr, hown, hgr⟩ := run_append_arg_grows (P := P) W t ty e i0 z 1 bytes ht hi hz0 hz1 hz2 hz (by decide) ⟨g, off, none⟩ n c cs (by omega) (fun j u hu => by
          unfold Addr.add
          split
          · subst_vars; simpa using hc1 0 u hu
          · exact hc1 j u hu) ad 1 mc [v] rfl (hnews ad rfl) (by omega) (by have := Nat.le_trans (Nat.le_mul_of_pos_right (n + 1) hb0) hl; unfold maxLen; omega) hl
      rcases hown.2 with ⟨hv', h0⟩ | ⟨g', cap, cur, hv', hb, rest⟩
      · omega
      · subst hv'
        refine ⟨some ⟨g', 0, none⟩, cap, w', hr, arr_win (e := e) ⟨hown.1, .inr ⟨g', cap, cur, rfl, Nat.zero_le _, rest⟩⟩, (Ext.refl _ W).grown hgr (fun k hk _ => by cases hk), fun k hk => .inr ?_⟩
        have e1 : g' = k := Option.some.inj hk
        omega
section
variable {P : Program} {ops : Array Oper} {o : Oper} {a : Act} {Q : Exit → Act → World → Prop}
/-- As a step of a region that draws. -/
theorem win_append_step {W : World} {K : Act → World → Prop} {X : Prop} {N : Option Tmp} (hN : o.dst = N) (hw : Region.wanted o (yielded ops a.tmps) = true) (s x : Operand) (t e bytes : Nat) (z : Value)
    (ho : o.op = .call { callee := .builtin .append, args := #[s, x], argTypes := #[t, t] })
    (ht : P.underlying t = some (.slice e)) (hinfo : (P.info? e).map (fun i => (i.zero, i.size, i.bytes)) = some (some z, 1, bytes)) (hz : z.cells.size = 1) (hb0 : 0 < bytes)
    (p : Option Addr) (n c : Nat) (cs : List Value) (hs : a.eval s = .slice p n c) (ad : Addr) (mc : Nat) (hx : a.eval x = .slice (some ad) 1 mc) (v : Value) (hv : W.cell? ad = some v) (h1 : v.oneCell' = true) (HO : Win W p n c cs) (hl : (n + 1) * bytes ≤ 140737488355328)
    (h : ∀ p1 c1 w1, Win w1 p1 (n + 1) c1 (cs ++ [v]) → Ext (fun k => blkOf p = some k) W w1 → Moved W p p1 → K (a.put N (.slice p1 (n + 1) c1)) w1) :
    if Region.wanted o (yielded ops a.tmps) = true then Oper.wp P o a W K Q else X := by
  subst hN
  rw [if_pos hw]
  obtain ⟨p1, c1, w1, hr, hA, hx1, hm1⟩ := run_win_append (P := P) t o.type e bytes z ht hinfo hz hb0 HO ad mc v hv h1 hl
  unfold Oper.wp execOp
  simp only [ho, resolve, invoke, builtin, Sem.run_bind, Sem.run_pure, Result.andThen_ok, List.map_toArray, List.map_cons, List.map_nil, hs, hx, hr]
  exact h p1 c1 w1 hA hx1 hm1
/-- append of a slice as a step of a region that draws, its slot named. -/
theorem arr_append_stepN {W : World} {K : Act → World → Prop} {X : Prop} {N : Option Tmp} (hN : o.dst = N) (hw : Region.wanted o (yielded ops a.tmps) = true) (s x : Operand) (t e sz bytes : Nat) (z : Value)
    (ho : o.op = .call { callee := .builtin .append, args := #[s, x], argTypes := #[t, t] })
    (ht : P.underlying t = some (.slice e)) (hinfo : (P.info? e).map (fun i => (i.zero, i.size, i.bytes)) = some (some z, sz, bytes)) (hz : z.cells.size = sz) (hsz : 0 < sz) (hb0 : 0 < bytes)
    (p : Option Addr) (n c : Nat) (cs : List Value) (hs : a.eval s = .slice p n c) (q : Option Addr) (m mc : Nat) (hx : a.eval x = .slice q m mc) (news : List Value) (hnl : news.length = m * sz) (hnews : ∀ ad, q = some ad → ∀ j u, news[j]? = some u → W.cell? (ad.add j) = some u) (h0 : q = none → m = 0) (h1 : ∀ u ∈ news, u.oneCell' = true)
    (HO : Arr W e sz p n c cs) (hl : (n + m) * bytes ≤ 140737488355328)
    (h : ∀ p1 c1 w1, Arr w1 e sz p1 (n + m) c1 (cs ++ news) → Ext (fun k => blkOf p = some k) W w1 → Moved W p p1 → K (a.put N (.slice p1 (n + m) c1)) w1) :
    if Region.wanted o (yielded ops a.tmps) = true then Oper.wp P o a W K Q else X := by
  subst hN
  exact arr_append_step hw s x t e sz bytes z ho ht hinfo hz hsz hb0 p n c cs hs q m mc hx news hnl hnews h0 h1 HO hl h
/-- In a region that does not draw. -/
theorem win_append {W : World} {rest : List Oper} (hgd : o.guard = none) (s x : Operand) (t e bytes : Nat) (z : Value)
    (ho : o.op = .call { callee := .builtin .append, args := #[s, x], argTypes := #[t, t] })
    (ht : P.underlying t = some (.slice e)) (hinfo : (P.info? e).map (fun i => (i.zero, i.size, i.bytes)) = some (some z, 1, bytes)) (hz : z.cells.size = 1) (hb0 : 0 < bytes)
    (p : Option Addr) (n c : Nat) (cs : List Value) (hs : a.eval s = .slice p n c) (ad : Addr) (mc : Nat) (hx : a.eval x = .slice (some ad) 1 mc) (v : Value) (hv : W.cell? ad = some v) (h1 : v.oneCell' = true) (HO : Win W p n c cs) (hl : (n + 1) * bytes ≤ 140737488355328)
    (h : ∀ p1 c1 w1, Win w1 p1 (n + 1) c1 (cs ++ [v]) → Ext (fun k => blkOf p = some k) W w1 → Moved W p p1 → wpList P ops Q rest (a.put o.dst (.slice p1 (n + 1) c1)) w1) : wpList P ops Q (o :: rest) a W := by
  refine wpList_plain hgd fun K hK => ?_
  obtain ⟨p1, c1, w1, hr, hA, hx1, hm1⟩ := run_win_append (P := P) t o.type e bytes z ht hinfo hz hb0 HO ad mc v hv h1 hl
  unfold Oper.wp execOp
  simp only [ho, resolve, invoke, builtin, Sem.run_bind, Sem.run_pure, Result.andThen_ok, List.map_toArray, List.map_cons, List.map_nil, hs, hx, hr]
  exact hK _ _ (h p1 c1 w1 hA hx1 hm1)
end
end Go.Proofs.YtjffafcagklpiaaDoor.Lib
/- places.numbers: of each byte the number of its item; here: how many there are. -/
namespace Go.Proofs.YtjffafcagklpiaaDoor.Cut
open Go.RowKit Go.Shelf Go.Proofs.YtjffafcagklpiaaDoor.Lib Go.Proofs.YtjffafcagklpiaaDoor.Sl Go.Proofs.YtjffafcagklpiaaDoorW.PrintLast
set_option linter.unusedVariables false
set_option linter.unusedSimpArgs false
attribute [local go_sem] Oper.semAt_some

theorem sum_items (s : ByteArray) : sumN (items s) = s.size := by
  have go : ∀ (f k : Nat), k ≤ s.size → s.size - k ≤ f → sumN (itemsGo s f k) = s.size - k := by
    intro f
    induction f with
    | zero => intro k h1 h2; rw [itemsGo_end (by omega)]; simp [sumN]; omega
    | succ f ih =>
      intro k h1 h2
      by_cases h : k < s.size
      · have hb := itemAt_bd h
        have e : itemsGo s (f + 1) k = itemAt s k :: itemsGo s f (k + (itemAt s k).n) := by conv => lhs; unfold itemsGo; rw [if_pos h]
        have := ih (k + (itemAt s k).n) (by omega) (by omega)
        rw [e]
        simp only [sumN, List.map_cons, List.sum_cons] at this ⊢
        omega
      · rw [itemsGo_end (by omega)]; simp [sumN]; omega
  exact (go s.size 0 (Nat.zero_le _) (by omega)).trans (by omega)
/-- append of one more where there is room. -/
theorem arr_append_room {P : Program} {ops : Array Oper} {rest : List Oper} {o : Oper} {a : Act} {Q : Exit → Act → World → Prop} {W : World} (hgd : o.guard = none) (s x : Operand) (t e bytes : Nat) (z : Value)
    (ho : o.op = .call { callee := .builtin .append, args := #[s, x], argTypes := #[t, t] })
    (ht : P.underlying t = some (.slice e)) (hinfo : (P.info? e).map (fun i => (i.zero, i.size, i.bytes)) = some (some z, 1, bytes))
    (g n c : Nat) (cs : List Value) (hs : a.eval s = .slice (some ⟨g, 0, none⟩) n c) (ad : Addr) (mc : Nat) (hx : a.eval x = .slice (some ad) 1 mc) (v : Value) (hv : W.cell? ad = some v) (h1 : v.oneCell' = true) (HO : Arr W e 1 (some ⟨g, 0, none⟩) n c cs) (hroom : n + 1 ≤ c)
    (h : Arr (W.setCell ⟨g, n, none⟩ v) e 1 (some ⟨g, 0, none⟩) (n + 1) c (cs ++ [v]) → wpList P ops Q rest (a.put o.dst (.slice (some ⟨g, 0, none⟩) (n + 1) c)) (W.setCell ⟨g, n, none⟩ v)) : wpList P ops Q (o :: rest) a W := by
  have hln := arr_len HO
  obtain ⟨i0, hi, hzz⟩ := Option.map_eq_some_iff.1 hinfo
  simp only [Prod.mk.injEq] at hzz
  obtain ⟨hz0, hz1, hz2⟩ := hzz
  rcases HO.2 with ⟨hv0, _⟩ | ⟨g', cap, cur, hv0, hb0, hgg, c1, c2, c3, c4⟩
  · cases hv0
  injection hv0 with hv1 hv2 hv3
  injection hv1 with hv1
  injection hv1 with hv1
  subst hv1
  subst hv3
  have hcell : ∀ i, i < c → (W.cell? ⟨g, 0 + i, none⟩).isSome = true ∧ W.frozen? ⟨g, 0 + i, none⟩ = false := fun i hi => by
    rw [Nat.zero_add]
    exact ⟨by rw [blk_cell hgg, Array.getElem?_eq_getElem (by omega)]; rfl, blk_frozen hgg i⟩
  have hr := run_append_room_cells (P := P) W t o.type e i0 ht hi g 0 n c ad 1 mc [v] (by simp [hz1]) (fun j u hu => by
      cases j with
      | zero => simp at hu; subst hu; simpa [Addr.add] using hv
      | succ j => simp at hu) (fun u hu => by simp at hu; subst hu; exact h1) hroom
    (fun j hj => by simp at hj; subst hj; rw [hz1, Nat.mul_one]; exact (hcell n (by omega)).1) (fun j hj => by simp at hj; subst hj; rw [hz1, Nat.mul_one]; exact (hcell n (by omega)).2)
  rw [hz1, Nat.mul_one, Nat.zero_add] at hr
  have hs2 : W.setCells g n [v] = W.setCell ⟨g, n, none⟩ v := rfl
  rw [hs2] at hr
  refine wpList_plain hgd fun K hK => ?_
  unfold Oper.wp execOp
  simp only [ho, resolve, invoke, builtin, Sem.run_bind, Sem.run_pure, Result.andThen_ok, List.map_toArray, List.map_cons, List.map_nil, hs, hx, hr]
  refine hK _ _ (h ⟨?_, .inr ⟨g, c, cur.setIfInBounds n v, rfl, hb0, blk_set hgg n v, hroom, c2, by simp [c3], ?_⟩⟩)
  · rw [List.length_append, hln]; simp
  · have hcl : cur.toList.length = c * 1 := by rw [Array.length_toList, c3]
    rw [Array.toList_setIfInBounds]
    rw [← c4]
    simp only [Nat.mul_one] at c4 hcl ⊢
    apply List.ext_getElem?
    intro i
    rw [List.getElem?_take]
    by_cases hi1 : i < n + 1
    · rw [if_pos hi1, List.getElem?_set]
      by_cases hin : n = i
      · subst hin
        rw [if_pos rfl, if_pos (by omega), List.getElem?_append_right (by rw [List.length_take]; omega), List.length_take, Nat.min_eq_left (by omega), Nat.sub_self]
        rfl
      · rw [if_neg hin, List.getElem?_append_left (by rw [List.length_take]; omega), List.getElem?_take, if_pos (by omega)]
    · rw [if_neg hi1, List.getElem?_append_right (by rw [List.length_take]; omega), List.getElem?_eq_none (by rw [List.length_take]; simp; omega)]
theorem arr_append_roomN {P : Program} {ops : Array Oper} {rest : List Oper} {o : Oper} {a : Act} {Q : Exit → Act → World → Prop} {W : World} {N : Option Tmp} (hN : o.dst = N) (hgd : o.guard = none) (s x : Operand) (t e bytes : Nat) (z : Value)
    (ho : o.op = .call { callee := .builtin .append, args := #[s, x], argTypes := #[t, t] })
    (ht : P.underlying t = some (.slice e)) (hinfo : (P.info? e).map (fun i => (i.zero, i.size, i.bytes)) = some (some z, 1, bytes))
    (g n c : Nat) (cs : List Value) (hs : a.eval s = .slice (some ⟨g, 0, none⟩) n c) (ad : Addr) (mc : Nat) (hx : a.eval x = .slice (some ad) 1 mc) (v : Value) (hv : W.cell? ad = some v) (h1 : v.oneCell' = true) (HO : Arr W e 1 (some ⟨g, 0, none⟩) n c cs) (hroom : n + 1 ≤ c)
    (h : Arr (W.setCell ⟨g, n, none⟩ v) e 1 (some ⟨g, 0, none⟩) (n + 1) c (cs ++ [v]) → wpList P ops Q rest (a.put N (.slice (some ⟨g, 0, none⟩) (n + 1) c)) (W.setCell ⟨g, n, none⟩ v)) : wpList P ops Q (o :: rest) a W := by
  subst hN
  exact arr_append_room hgd s x t e bytes z ho ht hinfo g n c cs hs ad mc hx v hv h1 HO hroom h
/-- The iterator Items where the body may write what it will of its own, and the next item is told. -/
theorem ItSt.free {V O : Nat → Prop} {s : ByteArray} {Bs b : Nat} {A B : World} (h : ItSt V s Bs A) (hb : Bs < b) (hTb : ∀ k, TabBlk k → k < b) (hx : Ext (Free V O b) A B) : ItSt V s Bs B := by
  have key : ∀ {p : Addr} {v : Value}, A.cell? p = some v → p.block < b → ¬ V p.block → B.cell? p = some v := fun {p v} hc hlt hv => by
    obtain ⟨o, ho, _⟩ := cells_of hc
    exact (hx.cell (blk_lt ho) (fun e => e.2.elim (fun e => absurd hlt (by omega)) hv)).trans hc
  exact ⟨key h.box hb h.bv, h.bv, h.tabs.move (fun b' o v hb' hc => key hc (hTb _ hb') (h.tv _ hb')), h.tv⟩
set_option maxRecDepth 100000 in
set_option maxHeartbeats 2000000 in
theorem items1_mut (N : Nat) (hn : 1 ≤ N) (Bs : Nat) (V : Nat → Prop) (s : ByteArray) (hs : s.size ≤ 140737488351232) (w : World) (hV : ∀ k, V k → k < w.heap.size) (hL : ItSt V s Bs w) :
    SeqMut Fence.wide N Tryd.prog 55 #[.pointer (some ⟨Bs, 0, none⟩)] (fun x : It s => #[itV x.1]) V (fun pre x => (pre ++ [x]).map Subtype.val <+: items s) (fun ys => ys.map Subtype.val = items s) (fun pre => pre.map Subtype.val <+: items s) w := by
  intro l J Jx W hW hJ hJx hY h0
  have lB : Bs < w.heap.size := by obtain ⟨o, ho, _⟩ := cells_of hL.box; exact blk_lt ho
  have lT : ∀ k, TabBlk k → k < w.heap.size := fun k hk => hL.tabs.lt hk
  have HJ := Lib.hid hJ
  have HY := Lib.hid hY
  have WZ := Lib.hid hW.size
  have LW := hL.on hW
  clear hJ hJx hY hW hL
  refine callsIn_of_wp Tryd.func55 rfl trivial ?_ rfl
  simp only [Tryd.ntmps55, List.size_toArray, List.length_cons, List.length_nil, Nat.reduceAdd, Nat.reduceSub, Array.replicate_succ, Array.replicate_zero, List.push_toArray, List.append_toArray, List.nil_append, List.cons_append]
  gi_wp2
  gi_loopw [3] (fun i wr => ∃ (k f : Nat) (pre : List (It s)) (O : Nat → Prop), i = .int .i64 k ∧ items s = pre.map Subtype.val ++ itemsGo s f k ∧ s.size - k ≤ f ∧ k ≤ s.size ∧ ItSt V s Bs wr ∧ W.heap.size ≤ wr.heap.size ∧ (∀ k, O k → W.heap.size ≤ k ∧ k < wr.heap.size) ∧ J pre O wr)
    (fun i wr => s.size - (intOf i).toNat)
  case atStart => exact ⟨0, s.size, [], fun _ => False, rfl, rfl, Nat.le_refl _, Nat.zero_le _, LW, Nat.le_refl _, fun _ h => h.elim, h0⟩
  case round =>
    obtain ⟨k, f, pre, O, rfl, hit, hf, hk, hst, hsz, hO, hj⟩ := hrel
    have ST := Lib.hid hst
    have HJ0 := Lib.hid hj
    have c0 := hst.box
    by_cases hlt : k < s.size
    · have i1 : (k : Int) < (s.size : Int) := by omega
      obtain ⟨f', hf1, hf2⟩ := itemsGo_cons hlt hf
      have hbd := itemAt_bd hlt
      rw [hf1] at hit
      have HIT := Lib.hid hit
      have PL := Lib.hid (show (pre ++ [itOf hlt]).map Subtype.val <+: items s from ⟨itemsGo s f' (k + (itemAt s k).n), by rw [hit, List.map_append, List.append_assoc]; rfl⟩)
      clear hst hj hit hf1
      gi_wp2
      refine ⟨trivial, (callsIn_wide.2 (first_any s k hlt k wr ST.out.tabs)).mono ?_⟩
      rintro e w1 ⟨rfl, hx1⟩
      have X1 := Lib.hid (hx1.alloc (.cells #[.int .i64 k, .int .i64 (itemAt s k).n, .int .i32 (itemAt s k).r, .bool (itemAt s k).bad] 100))
      have XZ := Lib.hid hx1.size
      have B1 := Lib.hid (show (w1.alloc (.cells #[.int .i64 k, .int .i64 (itemAt s k).n, .int .i32 (itemAt s k).r, .bool (itemAt s k).bad] 100)).heap[w1.heap.size]? = _ from heap_alloc_new w1 _)
      have bl := blk_lt B1.out
      obtain ⟨O2, hO2⟩ : ∃ O2 : Nat → Prop, (fun k => O k ∨ k = w1.heap.size) = O2 := ⟨_, rfl⟩
      have O2B : ∀ j, O2 j → W.heap.size ≤ j ∧ j < (w1.alloc (.cells #[.int .i64 k, .int .i64 (itemAt s k).n, .int .i32 (itemAt s k).r, .bool (itemAt s k).bad] 100)).heap.size := fun j hj => by
        rw [← hO2] at hj
        have := XZ.out
        rcases hj with hj | rfl
        · have := hO j hj; omega
        · omega
      have O2i := Lib.hid (show O2 w1.heap.size from by rw [← hO2]; exact .inr rfl)
      obtain ⟨fn, tmps, assign, body, hy, hR⟩ := HY.out pre (itOf hlt) O2 _ (HJ.out _ _ O2 _ _ HJ0.out (fun k h => by rw [← hO2]; exact .inl h) (fun k h => by
        rw [← hO2] at h
        rcases h with h | rfl
        · exact .inl h
        · exact .inr XZ.out) (X1.out.mono (fun _ h => h.elim))) PL.out O2B
      have O2B := Lib.hid O2B
      have hy2 : (Instr.yield l #[.agg #[.int .i64 (k : Int), .int .i64 ((itemAt s k).n : Int), .int .i32 ((itemAt s k).r : Int), .bool (itemAt s k).bad]]).run Tryd.prog (w1.alloc (.cells #[.int .i64 k, .int .i64 (itemAt s k).n, .int .i32 (itemAt s k).r, .bool (itemAt s k).bad] 100)) = .ok (.round l fn tmps assign body) (w1.alloc (.cells #[.int .i64 k, .int .i64 (itemAt s k).n, .int .i32 (itemAt s k).r, .bool (itemAt s k).bad] 100)) := hy
      clear hy hx1 hO bl
      gi_wp2
      refine hR.mono ?_
      rintro e W3 (⟨rfl, hJ3, hk3⟩ | ⟨rfl, hJx3⟩)
      · have S3 := Lib.hid ((ST.out.on X1.out).free lB lT hk3)
        have b1 := blk_cell (hk3.obj B1.out (fun e => e.1 O2i.out)) 1
        simp at b1
        have z3 := Lib.hid (show W.heap.size ≤ W3.heap.size ∧ (w1.alloc (.cells #[.int .i64 k, .int .i64 (itemAt s k).n, .int .i32 (itemAt s k).r, .bool (itemAt s k).bad] 100)).heap.size ≤ W3.heap.size from ⟨by have := XZ.out; have := X1.out.size; have := hk3.size; omega, hk3.size⟩)
        have HJ3 := Lib.hid hJ3
        have i2 : ((itemAt s k).n : Int) ≤ 4 := by omega
        have i3 : (0 : Int) ≤ ((itemAt s k).n : Int) := by omega
        clear hk3 hJ3
        gi_wp2
        go_roundw
        case rel => exact ⟨k + (itemAt s k).n, f', pre ++ [itOf hlt], O2, by go_num, by rw [HIT.out, List.map_append, List.append_assoc]; rfl, hf2, hbd.2.1, S3.out, z3.out.1, fun j hj => by have h1 := O2B.out j hj; have h2 := z3.out.2; omega, HJ3.out⟩
        case measure => simp [intOf]; omega
      · have HX3 := Lib.hid hJx3
        clear hJx3
        gi_wp2
        refine bodyPost_ret (results_none rfl _ _ _) rfl ?_
        exact ⟨⟨_, rfl⟩, .inr ⟨pre ++ [itOf hlt], O2, ⟨itemsGo s f' (k + (itemAt s k).n), by rw [HIT.out, List.map_append, List.append_assoc]; rfl⟩, fun k h => (O2B.out k h).1, HX3.out⟩⟩
    · have i1 : ¬ (k : Int) < (s.size : Int) := by omega
      rw [itemsGo_end (by omega)] at hit
      have HIT := Lib.hid hit
      clear hst hj hit
      gi_wp2
      go_end0
      exact ⟨⟨_, rfl⟩, .inl ⟨pre, by have := HIT.out; rw [List.append_nil] at this; exact this.symm, O, fun k h => (hO k h).1, HJ0.out⟩⟩
/-- What the loop over the items knows: N numbers, n items. -/
structure NumI (w : World) (b : Nat) (s : ByteArray) (N n : Nat) (W : World) : Prop where
  l : ∃ l : List Int, Arr W 3 1 (some ⟨w.heap.size, 0, none⟩) N s.size (ints l)
  ext : Ext (fun _ => False) w W
  k3 : Boxed W b 33 (.slice (some ⟨w.heap.size, 0, none⟩) N s.size)
  k4 : Boxed W (b + 1) 3 (.int .i64 n)
def NumV (w : World) (b : Nat) (k : Nat) : Prop := k = w.heap.size ∨ k = b ∨ k = b + 1
theorem NumI.on {w A B : World} {b : Nat} {s : ByteArray} {N n : Nat} {O : Nat → Prop} (h : NumI w b s N n A) (hb : w.heap.size < b) (hO : ∀ k, O k → b + 1 < k) (hx : Ext O A B) : NumI w b s N n B := by
  obtain ⟨⟨l, hl⟩, h1, h2, h3⟩ := h
  exact ⟨⟨l, arr_ext hl hx (fun k hk e => by injection hk with hk; have := hO _ e; simp only at hk; omega)⟩, h1.trans hx (fun i hi e => by have := hO _ e; omega), hx.obj h2 (fun e => by have := hO _ e; omega), hx.obj h3 (fun e => by have := hO _ e; omega)⟩
theorem NumI.turn {w A : World} {b : Nat} {s : ByteArray} {N n k : Nat} {o : Obj} (h : NumI w b s N n A) (hb : w.heap.size < b) (hk : b + 1 < k) : NumI w b s N n (A.putObj k o) :=
  h.on (O := fun j => j = k) hb (fun j e => by omega) (ext_putObj _ (Ext.refl _ _) (fun _ => rfl))
def NumEnd (w : World) (n : Nat) (e : Ending) (w' : World) : Prop := ∃ l : List Int, e = .returned (.slice (some ⟨w.heap.size, 0, none⟩) n n) ∧ Arr w' 3 1 (some ⟨w.heap.size, 0, none⟩) n n (ints l) ∧ Ext (fun _ => False) w w'
theorem num_start {w w1 : World} {s : ByteArray} (hA : Arr w1 3 1 (some ⟨w.heap.size, 0, none⟩) 0 s.size []) (hx : Ext (fun _ => False) w w1) :
    ∃ W0, ((w1.alloc (.cells #[.slice (some ⟨w.heap.size, 0, none⟩) 0 s.size] 33)).alloc (.cells #[.int .i64 0] 3)).alloc (.cells #[.string s] 9) = W0 ∧ NumI w w1.heap.size s 0 0 W0 ∧ W0.heap.size = w1.heap.size + 3 ∧ Boxed W0 (w1.heap.size + 1 + 1) 9 (.string s) ∧ w.heap.size < w1.heap.size := by
  have hlt : w.heap.size < w1.heap.size := by
    obtain ⟨o, ho, _⟩ := Bpe.arr_isCells hA rfl
    exact blk_lt ho
  have X := ((((Ext.refl (fun _ => False) w1).alloc (.cells #[.slice (some ⟨w.heap.size, 0, none⟩) 0 s.size] 33)).alloc (.cells #[.int .i64 0] 3)).alloc (.cells #[.string s] 9))
  have n1 := Boxed.new w1 33 (.slice (some ⟨w.heap.size, 0, none⟩) 0 s.size)
  have n2 := Boxed.new (w1.alloc (.cells #[.slice (some ⟨w.heap.size, 0, none⟩) 0 s.size] 33)) 3 (.int .i64 0)
  have n3 := Boxed.new ((w1.alloc (.cells #[.slice (some ⟨w.heap.size, 0, none⟩) 0 s.size] 33)).alloc (.cells #[.int .i64 0] 3)) 9 (.string s)
  simp only [World.size_alloc] at n2 n3
  exact ⟨_, rfl, ⟨⟨[], arr_ext hA X (fun _ _ h => h)⟩, hx.trans X (fun _ _ h => h), (n1.alloc _).alloc _, n2.alloc _⟩, by simp, n3, hlt⟩
/-- One number more. -/
theorem NumI.put {w A : World} {b : Nat} {s : ByteArray} {N n : Nat} {v : Int} {l : List Int} (hA : Arr A 3 1 (some ⟨w.heap.size, 0, none⟩) (N + 1) s.size (ints l ++ [.int .i64 v])) (hb : w.heap.size < b) (h1 : Ext (fun _ => False) w A) (h2 : ∃ u, Boxed A b 33 u) (h3 : Boxed A (b + 1) 3 (.int .i64 n)) :
    NumI w b s (N + 1) n (A.setCell ⟨b, 0, none⟩ (.slice (some ⟨w.heap.size, 0, none⟩) (N + 1) s.size)) := by
  obtain ⟨u, h2⟩ := h2
  have X := (Ext.refl (fun k => k = b) A).setCell (p := ⟨b, 0, none⟩) (fun _ => rfl) (.slice (some ⟨w.heap.size, 0, none⟩) (N + 1) s.size)
  exact ⟨⟨l ++ [v], arr_ext (by simpa [ints] using hA) X (fun k hk e => by injection hk with hk; simp only at hk; omega)⟩, h1.trans X (fun i hi e => by omega), h2.set _, boxed_far h3 (by omega)⟩
def NumJ (w : World) (b : Nat) (s : ByteArray) (pre : List (It s)) (O : Nat → Prop) (W : World) : Prop := NumI w b s (sumN (pre.map Subtype.val)) pre.length W ∧ ∀ k, O k → b + 1 < k
theorem len_sum {s : ByteArray} : ∀ (pre : List (It s)), pre.length ≤ sumN (pre.map Subtype.val)
  | [] => Nat.zero_le _
  | x :: l => by
    have := len_sum l
    have := x.2.1
    simp only [sumN, List.map_cons, List.sum_cons, List.length_cons] at *
    omega
set_option maxRecDepth 100000 in
set_option maxHeartbeats 4000000 in
theorem numbers_any (w : World) (hT : Tabs w) (s : ByteArray) (hs : s.size ≤ 1048576) :
    Calls Tryd.prog 18 #[.string s] w fun e w' => NumEnd w s.size e w' := by
  refine (callsIn_wide (n := 3)).1 ?_
  refine callsIn_of_wp_marks Tryd.func18 rfl trivial ?_ rfl
  simp only [Tryd.ntmps18, List.size_toArray, List.length_cons, List.length_nil, Nat.reduceAdd, Nat.reduceSub, Array.replicate_succ, Array.replicate_zero, List.push_toArray, List.append_toArray, List.nil_append, List.cons_append]
  obtain ⟨i0, hi, hz0, hz1, hz2⟩ := info_parts infoI
  gi_upto_region 1 with (fail)
  refine wpIn_wide.2 ?_
  go_wp2_with (refine wpList_make_own _ rfl (.const (.int .i64 0)) (.tmp 7) 33 rfl 0 3 i0 (.int .i64 0) 1 Tryd.underlying33 hi hz0 hz1 .i64 .i64 _ s.size rfl rfl rfl (by rw [hz2]; omega) (by unfold maxLen; omega) (Nat.zero_le _) ?_; intro w1 hA1 hg1)
  have X1 : Ext (fun _ => False) w w1 := ext_row (Ext.refl _ w) hg1 (fun r e => by cases e)
  have NS := num_start (s := s) hA1 X1
  clear hA1 hg1
  gi_wp2
  refine ⟨trivial, (items_in 2 s _).mono ?_⟩
  rintro e w' ⟨rfl, rfl⟩
  gi_wp2
  obtain ⟨W0, hW0, N0, SZ, BS, hgb⟩ := NS
  rw [hW0]
  clear hW0
  have T0 := hT.on N0.ext
  have TL := fun k (hk : TabBlk k) => hT.lt hk
  have hwz := N0.ext.size
  generalize hb : w1.heap.size = b at *
  refine wpIn_range_mut (n := 3) rfl (by decide) (gf := 55) (lb := #[.pointer (some ⟨b + 1 + 1, 0, none⟩)]) rfl trivial (enters_of Tryd.func55 (by kernel_rfl) rfl)
    (items1_mut 2 (by decide) (b + 1 + 1) (NumV w b) s (by omega) W0 (fun k hk => by unfold NumV at hk; omega) ⟨BS.cell, fun h => by unfold NumV at h; omega, T0, fun k hk h => by have := TL k hk; unfold NumV at h; omega⟩) (fun _ => rfl)
    (NumJ w b s) (fun c pre O W => False)
    (fun pre O O' A B h h1 h2 hx => ?ab) (fun pre O A k o o' h hk hO ho hc => ⟨h.1.turn hgb (by omega), h.2⟩) (fun _ _ _ _ _ _ h _ _ _ => h) (fun _ _ _ _ _ _ _ h _ _ _ _ => h) ⟨N0, fun _ h => h.elim⟩
    (a₁ := ?a1) (Pa := fun x k W => W.heap[k]? = some (.cells #[.int .i64 x.1.at_, .int .i64 x.1.n, .int .i32 x.1.r, .bool x.1.bad] 100 (0, 0)))
    (fun x k W l o o' h ho hc => (World.putObj_heap_other (fun e => by subst e; rw [h] at ho; cases ho; cases hc)).trans h) ?assign ?body ?done ?stop
  case ab =>
    have hO' : ∀ k, O' k → b + 1 < k := fun k hk => (h2 k hk).elim (h.2 k) (fun e => by have := h.1.k4.lt; omega)
    exact ⟨h.1.on hgb hO' hx, hO'⟩
  case assign =>
    intro l x W k K hk hK
    simp only [itV]
    refine startL_ rfl (fun ⟨_, _, h⟩ => h) ?_
    go_wp2_with fail
    exact hK _ ((Ext.refl _ _).alloc _) (alloc_at _ _ _ hk.symm)
  case body =>
    rintro l pre x O W Bx ⟨hI, hOb⟩ hnx hOW bX
    obtain ⟨N, hN⟩ : ∃ N, sumN (pre.map Subtype.val) = N := ⟨_, rfl⟩
    obtain ⟨n, hn⟩ : ∃ n, pre.length = n := ⟨_, rfl⟩
    rw [hN, hn] at hI
    have hnN := len_sum pre
    rw [hN, hn] at hnN
    obtain ⟨c, hc⟩ : ∃ c, x.1.n = c := ⟨_, rfl⟩
    have hc4 := x.2.2.1
    have hcap : N + c ≤ s.size := by
      have h1 : sumN (items s) = s.size := sum_items s
      obtain ⟨u, hu⟩ := hnx
      rw [← hu, List.map_append, List.append_assoc] at h1
      unfold sumN at h1 hN
      simp only [List.map_append, List.map_cons, List.sum_append, List.sum_cons, List.map_nil, List.cons_append, List.nil_append] at h1
      omega
    have b1 := blk_cell bX 1
    simp at b1
    have CN := Lib.hid (And.intro hN (And.intro hn hc))
    rw [hc] at b1 hc4
    have lx := blk_lt bX
    have HI := Lib.hid hI
    have OB := Lib.hid (And.intro hOb hOW)
    clear hN hn hc bX BS N0 T0 hT hOb hOW hnx
    gi_upto_region 6 with (fail)
    gi_loopw [14] (fun i wr => ∃ j : Nat, i = .int .i64 j ∧ j ≤ c ∧ NumI w b s (N + j) n wr ∧ Ext (NumV w b) W wr ∧ KeepsOthers W wr) (fun i wr => c - (intOf i).toNat)
    case atStart => exact ⟨0, rfl, Nat.zero_le _, hI, Ext.refl _ _, KeepsOthers.refl _⟩
    case round =>
      obtain ⟨j, rfl, hj, hI2, hx2, hk2⟩ := hrel
      have RR := Lib.hid (And.intro hx2 hk2)
      have HI2 := Lib.hid hI2
      obtain ⟨ll, hA⟩ := hI2.l
      have AR := Lib.hid hA
      have c3 := hI2.k3.cell
      have c4 := hI2.k4.cell
      have l3 := hI2.k3.lt
      have f3 := hI2.k3.frozen
      have l4 := hI2.k4.lt
      have f4 := hI2.k4.frozen
      clear hI hI2 hA hx2 hk2
      by_cases h : j < c
      · have i1 : (j : Int) < (c : Int) := by omega
        gi_upto_region 7 with (fail)
        refine startL_ rfl (fun ⟨_, _, h⟩ => h) ?_
        go_wp2_with (at_builtin; go_loud (refine arr_append_roomN (N := some 19) rfl rfl (.tmp 16) (.tmp 18) 33 3 8 (.int .i64 0) rfl Tryd.underlying33 infoI w.heap.size (N + j) s.size (ints ll) rfl ⟨wr.heap.size, 0, none⟩ 1 rfl (.int .i64 n) ((blk_cell (heap_alloc_new wr _) 0).trans rfl) rfl (arr_ext AR.out ((Ext.refl (fun _ => False) wr).alloc _) (fun _ _ h => h)) (by omega) ?_); intro hA3)
        gi_wp2
        go_roundw
        case rel =>
          have X := ((Ext.refl (fun k => k = w.heap.size) wr).alloc (.cells #[.int .i64 (n : Int)] 3)).setCell (p := ⟨w.heap.size, N + j, none⟩) (fun _ => rfl) (.int .i64 (n : Int))
          have hi := HI2.out
          refine ⟨j + 1, by go_num, by omega, NumI.put hA3 hgb (hi.ext.trans X (fun i h1 e => by omega)) ⟨_, X.obj hi.k3 (by omega)⟩ (X.obj hi.k4 (by omega)), RR.out.1.trans (S := NumV w b) ((X.mono (fun k e => .inl e)).setCell (p := ⟨b, 0, none⟩) (fun _ => .inr (.inl rfl)) _) (fun _ _ h => h), RR.out.2.trans (((KeepsOthers.alloc _ _).trans (KeepsOthers.setCell _ _ _)).trans (KeepsOthers.setCell _ _ _))⟩
        case measure => simp [intOf]; omega
      · have i1 : ¬ (j : Int) < (c : Int) := by omega
        have hcj : j = c := by omega
        subst hcj
        have e1 : IntKind.i64.wrap ((n : Int) + 1) = (n : Int) + 1 := IntWalk.i64_in _ (by omega)
        gi_wp2
        have X := ((Ext.refl (NumV w b) wr).setCell (p := ⟨b + 1, 0, none⟩) (fun _ => .inr (.inr rfl)) (.int .i64 ((n : Int) + 1)))
        refine ⟨RR.out.2.trans (KeepsOthers.setCell _ _ _), (RR.out.1.trans X (fun _ _ h => h)).mono (fun k hk => ⟨fun e => ?_, .inr hk⟩), ⟨?_, OB.out.1⟩⟩
        · have := OB.out.1 k e
          have := (OB.out.2 k e).1
          unfold NumV at hk
          omega
        · have hi := HI2.out
          have cn := CN.out
          have e2 : sumN ((pre ++ [x]).map Subtype.val) = N + j := by
            have := cn.1
            have := cn.2.2
            simp only [sumN, List.map_append, List.sum_append, List.map_cons, List.map_nil, List.sum_cons, List.sum_nil] at *
            omega
          obtain ⟨ll', hl'⟩ := hi.l
          have X2 := ((Ext.refl (fun k => k = b + 1) wr).setCell (p := ⟨b + 1, 0, none⟩) (fun _ => rfl) (.int .i64 ((n : Int) + 1)))
          rw [e2, List.length_append, cn.2.1]
          exact ⟨⟨ll', arr_ext hl' X2 (fun k hk e => by injection hk with hk; simp only at hk; omega)⟩, hi.ext.trans X2 (fun i h1 e => by omega), X2.obj hi.k3 (by omega), hi.k4.set _⟩
  case done =>
    rintro D ys O W hBD hys ⟨hI, hOb⟩ hOD hK
    have e1 : sumN (ys.map Subtype.val) = s.size := by rw [hys]; exact sum_items s
    rw [e1] at hI
    have q3 := hI.k3.cell
    have HI := Lib.hid hI
    have HK := Lib.hid hK
    clear hI hK hys hOb BS N0 T0 hT
    gi_wp2
    show LeavesInM Fence.wide 3 _ _ _ _ [{ target := .collected D, args := #[] }] .returning _
    refine Bpe.leaves_mark1 HK.out (fun w2 hw => ?_)
    obtain ⟨l, hl⟩ := HI.out.l
    exact ⟨_, by simp [results, Tryd.f18, go_sem], l, rfl, arr_ext hl hw (fun k hk e => by injection hk with hk; simp only at hk; omega), HI.out.ext.trans hw (fun i h1 e => by omega)⟩
  case stop => 
    rintro D c pre O W hBD hpre h hK
    exact h.elim
end Go.Proofs.YtjffafcagklpiaaDoor.Cut
/- Small words on ids: what an id's word tells; numbers that came in. -/
namespace Go.Proofs.YtjffafcagklpiaaDoor.Bpe
open Go.RowKit Go.Proofs.YtjffafcagklpiaaDoor.Lib Go.Proofs.YtjffafcagklpiaaDoor.Sl
set_option linter.unusedVariables false
set_option linter.unusedSimpArgs false

theorem rd_came {w : World} {p : Option Addr} {len : Nat} {ys : Nat → Int} (h : RowK.CameInts .i64 w p len ys) : Rd eI w p ((List.range len).map ys) := by
  intro i x hi
  rw [List.getElem?_map] at hi
  by_cases hl : i < len
  · rw [List.getElem?_range hl] at hi
    injection hi with hi
    obtain ⟨b, o, hp, hb, hc⟩ := h i hl
    refine ⟨b, o, hp, hb, fun j hj => ?_⟩
    have : j = 0 := by have : eI.sz = 1 := rfl; omega
    subst this
    show w.cell? ⟨b, o + i * 1 + 0, none⟩ = some (.int .i64 x)
    rw [Nat.mul_one, Nat.add_zero, hc, hi]
  · rw [List.getElem?_eq_none (by rw [List.length_range]; omega)] at hi
    cases hi
theorem came_list {w : World} {p : Option Addr} {len : Nat} {ys : Nat → Int} (hC : RowK.CameInts .i64 w p len ys) (hwf : ∀ i, i < len → (Lit.int .i64 (ys i)).wf = true) : ∃ xs : List Int, xs.length = len ∧ Rd eI w p xs ∧ ∀ x ∈ xs, (Lit.int .i64 x).wf = true :=
  ⟨(List.range len).map ys, by simp, rd_came hC, fun x hx => by
    rw [List.mem_map] at hx
    obtain ⟨i, hi, rfl⟩ := hx
    exact hwf i (List.mem_range.1 hi)⟩
theorem word_ok {d : Dat} (hd : RightD d) (id : Int) : (wordOf d.ws id).2 = okId d id := by
  have hl := hd.len
  unfold wordOf okId
  by_cases h0 : id < 0
  · rw [if_pos h0, decide_eq_false (show ¬ 0 ≤ id by omega)]; rfl
  by_cases h1 : 256 + (d.ws.length : Int) ≤ id
  · rw [if_neg h0, if_pos h1, decide_eq_false (show ¬ id < 256 + (d.ms.length : Int) by omega), Bool.and_false]
  rw [if_neg h0, if_neg h1, decide_eq_true (show 0 ≤ id by omega), decide_eq_true (show id < 256 + (d.ms.length : Int) by omega)]
  split <;> rfl
end Go.Proofs.YtjffafcagklpiaaDoor.Bpe
