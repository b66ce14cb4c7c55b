/- Of right data, the data with the first merges alone are right. -/
import Derived.Test.YtbepmbihonnkaaaDown24
namespace Go.Proofs.Ytbepmbihonnkaaa.Sl
open Go.Proofs.Ytbepmbihonnkaaa.Lib
set_option linter.unusedVariables false
set_option linter.unusedSimpArgs false

/-! ### right, the other way round -/
theorem badM_of {ws : List ByteArray} {done : List Mrg} {x : Mrg} (h1 : 256 ≤ x.i) (h2 : x.i < 256 + (ws.length : Int)) (h3 : isId done x.i = false) (h4 : madeB done x.l = true) (h5 : madeB done x.r = true) (h6 : (wordOf ws x.i).1 = (wordOf ws x.l).1 ++ (wordOf ws x.r).1) (h7 : hasPair done x.l x.r = false) : badM ws done x = 0 := by
  unfold badM
  rw [if_neg, if_neg, if_neg (fun h => h h6), if_neg (by rw [h7]; decide)]
  · rw [h4, h5]; decide
  · rw [h3]
    intro h
    rcases h with h | h | h
    · omega
    · omega
    · cases h
theorem pairsGo_of {ws : List ByteArray} {i : Nat} {done t : List Mrg} (h : ∀ (j : Nat) (x : Mrg), t[j]? = some x → badM ws (done ++ t.take j) x = 0) : (pairsGo ws i done t).2 = 0 := by
  induction t generalizing i done with
  | nil => rfl
  | cons y t ih =>
    have h0 := h 0 y rfl
    rw [List.take_zero, List.append_nil] at h0
    rw [pairsGo, if_pos h0]
    refine ih fun j x hj => ?_
    have := h (j + 1) x (by simpa using hj)
    rwa [List.take_succ_cons, ← List.singleton_append, ← List.append_assoc] at this
theorem wordsGo_of {i : Nat} {seen t : List ByteArray} (h : ∀ (j : Nat) (s : ByteArray), t[j]? = some s → 2 ≤ s.size ∧ s.size ≤ 256 ∧ s ∉ seen ++ t.take j) : (wordsGo i seen t).2 = 0 := by
  induction t generalizing i seen with
  | nil => rfl
  | cons y t ih =>
    obtain ⟨h0, h1, h2⟩ := h 0 y rfl
    rw [List.take_zero, List.append_nil] at h2
    rw [wordsGo, if_neg (by omega), if_neg (fun hc => h2 (had_iff.1 hc))]
    refine ih fun j x hj => ?_
    have := h (j + 1) x (by simpa using hj)
    rwa [List.take_succ_cons, ← List.singleton_append, ← List.append_assoc] at this
theorem check5_of {d : Dat} (h : RightD d) (h4 : (check4 d.ls d.ns d.ss).1 = 0) : (check5 d).1 = 0 := by
  have hf := h.few
  have hw : (wordsGo 0 [] d.ws).2 = 0 := wordsGo_of fun j s hj => by rw [List.nil_append]; exact h.words j s hj
  have hm : (pairsGo d.ws 0 [] d.ms).2 = 0 := pairsGo_of fun j x hj => by
    rw [List.nil_append]
    have := h.idr j x hj
    exact badM_of this.1 (by rw [h.len]; exact this.2) (h.idn j x hj) (h.pl j x hj) (h.pr j x hj) (h.wd j x hj) (h.pn j x hj)
  unfold check5
  rw [if_neg (by omega), if_neg (fun hc => hc h.len), if_neg (fun hc => hc h4), if_neg (fun hc => hc hw), if_neg (fun hc => hc hm)]
theorem good_check4 {d : Dat} (h : good d = true) : (check4 d.ls d.ns d.ss).1 = 0 := by
  have hr := RightD.of_good h
  unfold good at h
  rw [Bool.and_eq_true] at h
  have h5 := of_decide_eq_true h.2
  unfold check5 at h5
  have hf := hr.few
  rw [if_neg (by omega), if_neg (fun hc => hc hr.len)] at h5
  by_cases hc : (check4 d.ls d.ns d.ss).1 ≠ 0
  · rw [if_pos hc] at h5; exact absurd h5 hc
  · exact Decidable.not_not.1 hc

/-! ### counting the words that are left -/
section
variable {d : Dat} (hd : RightD d) (n : Nat)
theorem ren_prefix (k : Int) {i j : Nat} (h : i ≤ j) : ∃ t, (renGo d k j).2 = (renGo d k i).2 ++ t := by
  induction j with
  | zero =>
    obtain rfl : i = 0 := by omega
    exact ⟨[], by simp⟩
  | succ j ih =>
    by_cases e : i = j + 1
    · subst e; exact ⟨[], by simp⟩
    · obtain ⟨t, ht⟩ := ih (by omega)
      by_cases h0 : j < 256
      · exact ⟨t, by rw [renGo_low d k h0]; exact ht⟩
      · by_cases h1 : (((rankOf d.ms j).getD 0 : Nat) : Int) < k
        · exact ⟨t ++ [(d.ws[j - 256]?).getD ByteArray.empty], by rw [renGo_in d k h0 h1]; simp [ht]⟩
        · exact ⟨t, by rw [renGo_out d k h0 h1]; exact ht⟩
theorem ren_cnt_le (k : Int) {i j : Nat} (h : i ≤ j) : (renGo d k i).2.length ≤ (renGo d k j).2.length := by
  obtain ⟨t, ht⟩ := ren_prefix (d := d) k h
  rw [ht]; simp
include hd in
/-- At an id that is left: one word more. -/
theorem ren_made {j : Nat} {x : Mrg} (hj : d.ms[j]? = some x) (hn : j < n) : ∃ s, d.ws[(x.i - 256).toNat]? = some s ∧ (renGo d n (x.i.toNat + 1)).2 = (renGo d n x.i.toNat).2 ++ [s] := by
  have hr := hd.idr j x hj
  have hl := hd.len
  obtain ⟨s, hs⟩ : ∃ s, d.ws[x.i.toNat - 256]? = some s := ⟨_, List.getElem?_eq_getElem (by omega)⟩
  refine ⟨s, by rw [show (x.i - 256).toNat = x.i.toNat - 256 by omega]; exact hs, ?_⟩
  have e : ((x.i.toNat : Nat) : Int) = x.i := by omega
  rw [renGo_in d n (by omega) (by rw [e, hd.rank_at hj]; simpa using hn), hs]
  rfl
theorem ren_zero (j : Nat) : (renGo d (0 : Nat) j).2 = [] := by
  induction j with
  | zero => rfl
  | succ j ih =>
    by_cases h0 : j < 256
    · rw [renGo_low d _ h0]; exact ih
    · rw [renGo_out d _ h0 (by omega)]; exact ih
include hd in
theorem ren_more {x : Mrg} (hx : d.ms[n]? = some x) : ∀ j, j ≤ 256 + d.ms.length → (renGo d ((n + 1 : Nat) : Int) j).2.length = (renGo d (n : Nat) j).2.length + (if x.i.toNat < j then 1 else 0) := by
  have hr := hd.idr n x hx
  intro j
  induction j with
  | zero => intro _; simp [renGo]
  | succ j ih =>
    intro hj
    have ih := ih (by omega)
    by_cases h0 : j < 256
    · rw [renGo_low d _ h0, renGo_low d _ h0, ih, if_neg (by omega), if_neg (by omega)]
    · obtain ⟨r, y, hrk, hy, hyi, hlt⟩ := hd.rank_ex (id := (j : Int)) (by omega) (by omega)
      by_cases h1 : r < n
      · have hne : x.i.toNat ≠ j := fun e => by
          have := hd.id_inj hx hy (by omega)
          omega
        rw [renGo_in d _ h0 (by rw [hrk]; simp; omega), renGo_in d _ h0 (by rw [hrk]; simpa using h1)]
        simp only [List.length_append, List.length_singleton]
        rw [ih]
        by_cases hc : x.i.toNat < j
        · rw [if_pos hc, if_pos (by omega)]
        · rw [if_neg hc, if_neg (by omega)]
      · by_cases h2 : r = n
        · subst h2
          rw [hx] at hy
          cases hy
          rw [renGo_in d _ h0 (by rw [hrk]; simp; omega), renGo_out d _ h0 (by rw [hrk]; simp)]
          simp only [List.length_append, List.length_singleton]
          rw [ih, if_neg (by omega), if_pos (by omega)]
        · have hne : x.i.toNat ≠ j := fun e => by
            have := hd.id_inj hx hy (by omega)
            omega
          rw [renGo_out d _ h0 (by rw [hrk]; simp; omega), renGo_out d _ h0 (by rw [hrk]; simp; omega), ih]
          by_cases hc : x.i.toNat < j
          · rw [if_pos hc, if_pos (by omega)]
          · rw [if_neg hc, if_neg (by omega)]
include hd in
theorem ren_total (hn : n ≤ d.ms.length) : (renGo d (n : Nat) (256 + d.ms.length)).2.length = n := by
  induction n with
  | zero => rw [ren_zero]; rfl
  | succ n ih =>
    obtain ⟨x, hx⟩ : ∃ x, d.ms[n]? = some x := ⟨_, List.getElem?_eq_getElem (by omega)⟩
    have hr := hd.idr n x hx
    rw [ren_more hd n hx _ (Nat.le_refl _), ih (by omega), if_pos (by omega)]
include hd in
/-- The words that are left are words of the model, each once. -/
theorem ren_words (k : Int) : ∀ j, j ≤ 256 + d.ms.length → (∀ s ∈ (renGo d k j).2, ∃ i, 256 + i < j ∧ d.ws[i]? = some s) ∧ (∀ (p : Nat) (s : ByteArray), (renGo d k j).2[p]? = some s → 2 ≤ s.size ∧ s.size ≤ 256 ∧ s ∉ (renGo d k j).2.take p) := by
  intro j
  have hl := hd.len
  induction j with
  | zero => intro _; exact ⟨fun s hs => by simp [renGo] at hs, fun p s hp => by simp [renGo] at hp⟩
  | succ j ih =>
    intro hj
    obtain ⟨h1, h2⟩ := ih (by omega)
    have keep : (∀ s ∈ (renGo d k j).2, ∃ i, 256 + i < j + 1 ∧ d.ws[i]? = some s) := fun s hs => by
      obtain ⟨i, hi, e⟩ := h1 s hs
      exact ⟨i, by omega, e⟩
    by_cases h0 : j < 256
    · rw [renGo_low d k h0]
      exact ⟨keep, h2⟩
    · by_cases hk : (((rankOf d.ms j).getD 0 : Nat) : Int) < k
      · rw [renGo_in d k h0 hk]
        obtain ⟨s, hs⟩ : ∃ s, d.ws[j - 256]? = some s := ⟨_, List.getElem?_eq_getElem (by omega)⟩
        rw [hs]
        simp only [Option.getD_some]
        have hnew : s ∉ (renGo d k j).2 := fun hc => by
          obtain ⟨i, hi, e⟩ := h1 s hc
          refine (hd.words _ _ hs).2.2 (List.mem_of_getElem? (i := i) ?_)
          rw [List.getElem?_take, if_pos (by omega)]
          exact e
        refine ⟨fun z hz => ?_, fun p z hp => ?_⟩
        · rcases List.mem_append.1 hz with h | h
          · exact keep z h
          · simp at h
            subst h
            exact ⟨j - 256, by omega, hs⟩
        · by_cases hc : p < (renGo d k j).2.length
          · rw [List.getElem?_append_left hc] at hp
            rw [List.take_append_of_le_length (by omega)]
            exact h2 p z hp
          · rw [List.getElem?_append_right (by omega)] at hp
            have hp0 : p - (renGo d k j).2.length = 0 := by
              by_cases h : p - (renGo d k j).2.length = 0
              · exact h
              · rw [List.getElem?_eq_none (by simp; omega)] at hp
                cases hp
            rw [hp0] at hp
            simp at hp
            subst hp
            rw [show p = (renGo d k j).2.length by omega, List.take_append_of_le_length (Nat.le_refl _), List.take_length]
            exact ⟨(hd.words _ _ hs).1, (hd.words _ _ hs).2.1, hnew⟩
      · rw [renGo_out d k h0 hk]
        exact ⟨keep, h2⟩

/-! ### new names -/
/-- An id's new name. -/
def nm (d : Dat) (n : Nat) (id : Int) : Int := renAt (renGo d n (256 + d.ms.length)).1 id
theorem nm_byte {id : Int} (h0 : 0 ≤ id) (h1 : id < 256) : nm d n id = id := by
  unfold nm renAt
  rw [ren_at d n _ _ (by omega)]
  unfold newOf
  rw [if_pos (by omega)]
  show ((id.toNat : Nat) : Int) = id
  omega
include hd in
theorem nm_made {j : Nat} {x : Mrg} (hj : d.ms[j]? = some x) (hn : j < n) (hnm : n ≤ d.ms.length) :
    nm d n x.i = 256 + ((renGo d n x.i.toNat).2.length : Int) ∧ ((renGo d n x.i.toNat).2.length : Int) < n ∧ (renGo d n (256 + d.ms.length)).2[(renGo d n x.i.toNat).2.length]? = d.ws[(x.i - 256).toNat]? := by
  have hr := hd.idr j x hj
  have e : ((x.i.toNat : Nat) : Int) = x.i := by omega
  obtain ⟨s, hs, h1⟩ := ren_made hd n hj hn
  have h2 := ren_cnt_le (d := d) n (show x.i.toNat + 1 ≤ 256 + d.ms.length by omega)
  rw [ren_total hd n hnm, h1] at h2
  simp at h2
  refine ⟨?_, by omega, ?_⟩
  · unfold nm renAt
    rw [ren_at d n _ _ (by omega)]
    unfold newOf
    rw [if_neg (by omega), e, hd.rank_at hj]
    simp [hn]
  · obtain ⟨t, ht⟩ := ren_prefix (d := d) n (show x.i.toNat + 1 ≤ 256 + d.ms.length by omega)
    rw [ht, h1, hs, List.append_assoc, List.getElem?_append_right (Nat.le_refl _)]
    simp
include hd in
theorem cnt_lt {j : Nat} {x : Mrg} (hj : d.ms[j]? = some x) (hn : j < n) {i : Nat} (hi : x.i.toNat < i) : (renGo d n x.i.toNat).2.length < (renGo d n i).2.length := by
  obtain ⟨s, hs, h1⟩ := ren_made hd n hj hn
  have h2 := ren_cnt_le (d := d) n (show x.i.toNat + 1 ≤ i by omega)
  rw [h1] at h2
  simp at h2
  omega
include hd in
theorem nm_inj (hnm : n ≤ d.ms.length) {a b : Int} (ha : madeB (d.ms.take n) a = true) (hb : madeB (d.ms.take n) b = true) (h : nm d n a = nm d n b) : a = b := by
  rcases part_cases ha with ⟨a0, a1⟩ | ⟨j, x, hj, hx, rfl⟩
  · rw [nm_byte n a0 a1] at h
    rcases part_cases hb with ⟨b0, b1⟩ | ⟨k, y, hk, hy, rfl⟩
    · rw [nm_byte n b0 b1] at h; exact h
    · rw [(nm_made hd n hy hk hnm).1] at h; omega
  · rw [(nm_made hd n hx hj hnm).1] at h
    rcases part_cases hb with ⟨b0, b1⟩ | ⟨k, y, hk, hy, rfl⟩
    · rw [nm_byte n b0 b1] at h; omega
    · rw [(nm_made hd n hy hk hnm).1] at h
      have hrx := hd.idr j x hx
      have hry := hd.idr k y hy
      rcases Nat.lt_trichotomy x.i.toNat y.i.toNat with h1 | h1 | h1
      · have := cnt_lt hd n hx hj h1; omega
      · omega
      · have := cnt_lt hd n hy hk h1; omega
theorem made_le {l : List Mrg} {j n : Nat} {id : Int} (h : madeB (l.take j) id = true) (hj : j ≤ n) : madeB (l.take n) id = true := by
  rcases part_cases h with ⟨h0, h1⟩ | ⟨k, y, hk, hy, rfl⟩
  · unfold madeB
    rw [decide_eq_true h0, decide_eq_true h1]; rfl
  · unfold madeB at h ⊢
    simp only [Bool.or_eq_true, Bool.and_eq_true] at h ⊢
    rcases h with h | h
    · exact .inl h
    · exact .inr ⟨h.1, isId_iff.2 ⟨k, y, by rw [List.getElem?_take, if_pos (by omega)]; exact hy, rfl⟩⟩
theorem cutD_ms (n : Nat) : (cutD d n).ms = (d.ms.take n).map fun x => ⟨nm d n x.l, nm d n x.r, nm d n x.i⟩ := rfl
theorem cutD_take (n k : Nat) (hk : k ≤ n) : (cutD d n).ms.take k = (d.ms.take k).map fun x => ⟨nm d n x.l, nm d n x.r, nm d n x.i⟩ := by
  rw [cutD_ms, ← List.map_take, List.take_take, Nat.min_eq_left hk]
include hd in
theorem nm_self (hnm : n ≤ d.ms.length) {j : Nat} {x : Mrg} (hj : d.ms[j]? = some x) (hn : j < n) : madeB (d.ms.take n) x.i = true := by
  have := hd.idr j x hj
  unfold madeB
  simp only [Bool.or_eq_true, Bool.and_eq_true]
  exact .inr ⟨decide_eq_true this.1, isId_iff.2 ⟨j, x, by rw [List.getElem?_take, if_pos hn]; exact hj, rfl⟩⟩
include hd in
theorem nm_part (hnm : n ≤ d.ms.length) {j : Nat} (hjn : j ≤ n) {id : Int} (h : madeB (d.ms.take j) id = true) : madeB ((cutD d n).ms.take j) (nm d n id) = true := by
  rcases part_cases h with ⟨h0, h1⟩ | ⟨k, y, hk, hy, rfl⟩
  · rw [nm_byte n h0 h1]
    unfold madeB
    rw [decide_eq_true h0, decide_eq_true h1]; rfl
  · have hm := nm_made hd n hy (by omega) hnm
    unfold madeB
    simp only [Bool.or_eq_true, Bool.and_eq_true]
    refine .inr ⟨decide_eq_true (by omega), isId_iff.2 ⟨k, ⟨nm d n y.l, nm d n y.r, nm d n y.i⟩, ?_, rfl⟩⟩
    rw [cutD_take n j hjn, List.getElem?_map, List.getElem?_take, if_pos hk, hy]
    rfl
include hd in
theorem nm_word (hnm : n ≤ d.ms.length) {id : Int} (h : madeB (d.ms.take n) id = true) : wordOf (cutD d n).ws (nm d n id) = wordOf d.ws id := by
  rcases part_cases h with ⟨h0, h1⟩ | ⟨k, y, hk, hy, rfl⟩
  · rw [nm_byte n h0 h1, wordOf_byte h0 h1, wordOf_byte h0 h1]
  · have hr := hd.idr k y hy
    have hl := hd.len
    obtain ⟨m1, m2, m3⟩ := nm_made hd n hy hk hnm
    obtain ⟨s, hs⟩ : ∃ s, d.ws[(y.i - 256).toNat]? = some s := ⟨_, List.getElem?_eq_getElem (by omega)⟩
    rw [hs] at m3
    have e1 := wordOf_word m3
    have e2 := wordOf_word hs
    rw [show ((y.i - 256).toNat : Int) + 256 = y.i by omega] at e2
    rw [m1, e2, Int.add_comm]
    exact e1
include hd in
theorem cut_right (hnm : n ≤ d.ms.length) : RightD (cutD d n) := by
  have hf := hd.few
  have hml : (cutD d n).ms.length = n := by rw [cutD_ms, List.length_map, List.length_take]; omega
  have hat : ∀ (k : Nat) (z : Mrg), (cutD d n).ms[k]? = some z → ∃ x, d.ms[k]? = some x ∧ k < n ∧ z = ⟨nm d n x.l, nm d n x.r, nm d n x.i⟩ := by
    intro k z hz
    rw [cutD_ms, List.getElem?_map, List.getElem?_take] at hz
    by_cases hk : k < n
    · rw [if_pos hk] at hz
      cases e : d.ms[k]? with
      | none => rw [e] at hz; cases hz
      | some x => rw [e] at hz; cases hz; exact ⟨x, rfl, hk, rfl⟩
    · rw [if_neg hk] at hz; cases hz
  refine ⟨by rw [hml, cutD_ws]; exact ren_total hd n hnm, by omega, ?_, ?_, ?_, ?_, ?_, ?_, ?_⟩
  · intro j s hj
    exact (ren_words hd n _ (Nat.le_refl _)).2 j s hj
  · intro k z hz
    obtain ⟨x, hx, hk, rfl⟩ := hat k z hz
    have := nm_made hd n hx hk hnm
    rw [hml]
    simp only
    omega
  · intro k z hz
    obtain ⟨x, hx, hk, rfl⟩ := hat k z hz
    cases e : isId ((cutD d n).ms.take k) (nm d n x.i) with
    | false => rfl
    | true =>
      obtain ⟨j, y, hy, hyi⟩ := isId_iff.1 e
      rw [List.getElem?_take] at hy
      by_cases hjk : j < k
      · rw [if_pos hjk] at hy
        obtain ⟨y0, hy0, hjn, rfl⟩ := hat j y hy
        have := nm_inj hd n hnm (nm_self hd n hnm hy0 hjn) (nm_self hd n hnm hx hk) hyi
        have := hd.id_inj hy0 hx this
        omega
      · rw [if_neg hjk] at hy; cases hy
  · intro k z hz
    obtain ⟨x, hx, hk, rfl⟩ := hat k z hz
    exact nm_part hd n hnm (by omega) (hd.pl k x hx)
  · intro k z hz
    obtain ⟨x, hx, hk, rfl⟩ := hat k z hz
    exact nm_part hd n hnm (by omega) (hd.pr k x hx)
  · intro k z hz
    obtain ⟨x, hx, hk, rfl⟩ := hat k z hz
    rw [nm_word hd n hnm (nm_self hd n hnm hx hk), nm_word hd n hnm (made_le (hd.pl k x hx) (by omega)), nm_word hd n hnm (made_le (hd.pr k x hx) (by omega))]
    exact hd.wd k x hx
  · intro k z hz
    obtain ⟨x, hx, hk, rfl⟩ := hat k z hz
    have hno := hd.pn k x hx
    unfold hasPair at hno ⊢
    rw [List.any_eq_false] at hno ⊢
    intro y hy hc
    obtain ⟨j, hj⟩ := List.getElem?_of_mem hy
    rw [List.getElem?_take] at hj
    by_cases hjk : j < k
    · rw [if_pos hjk] at hj
      obtain ⟨y0, hy0, hjn, rfl⟩ := hat j y hj
      rw [Bool.and_eq_true] at hc
      have c1 := nm_inj hd n hnm (made_le (hd.pl j y0 hy0) (by omega)) (made_le (hd.pl k x hx) (by omega)) (of_decide_eq_true hc.1)
      have c2 := nm_inj hd n hnm (made_le (hd.pr j y0 hy0) (by omega)) (made_le (hd.pr k x hx) (by omega)) (of_decide_eq_true hc.2)
      refine hno y0 (List.mem_of_getElem? (i := j) ?_) (by rw [decide_eq_true c1, decide_eq_true c2]; rfl)
      rw [List.getElem?_take, if_pos hjk]
      exact hy0
    · rw [if_neg hjk] at hj; cases hj
end
theorem cut_check {d : Dat} (h : good d = true) {n : Nat} (hn : n ≤ d.ms.length) : (check5 (cutD d n)).1 = 0 :=
  check5_of (cut_right (RightD.of_good h) n hn) (show (check4 d.ls d.ns d.ss).1 = 0 from good_check4 h)
end Go.Proofs.Ytbepmbihonnkaaa.Sl
