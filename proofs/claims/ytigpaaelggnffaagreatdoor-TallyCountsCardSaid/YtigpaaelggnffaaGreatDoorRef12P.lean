/- The document's pre-tokens (tesseraref12), in plain words: told of items as of bytes. -/
import Derived.Test.YtigpaaelggnffaaGreatDoorRef2P
import Derived.Test.YtigpaaelggnffaaGreatDoorCutP
namespace Go.Proofs.YtigpaaelggnffaaGreatDoor.R2
open Go.Proofs.YtigpaaelggnffaaGreatDoor.Lib Go.Proofs.YtigpaaelggnffaaGreatDoor.Sl Go.Proofs.YtigpaaelggnffaaGreatDoor.Cut
set_option linter.unusedVariables false
set_option linter.unusedSimpArgs false

def isB (x : Cut.Item) (r : Nat) : Bool := !x.bad && decide (x.r = r)
/-- How many items a Short at the beginning has. -/
def shortI : List Cut.Item → Nat
  | x :: y :: t =>
    if isB x 39 = true then
      if isB y 115 = true ∨ isB y 116 = true ∨ isB y 109 = true ∨ isB y 100 = true then 2
      else if isB y 114 = true ∨ isB y 118 = true ∨ isB y 108 = true then
        match t with
        | z :: _ => if (isB y 108 = true ∧ isB z 108 = true) ∨ (isB y 108 = false ∧ isB z 101 = true) then 3 else 0
        | [] => 0
      else 0
    else 0
  | _ => 0
theorem shortI_two (x y : Cut.Item) (t : List Cut.Item) : shortI (x :: y :: t) =
    if isB x 39 = true then
      if isB y 115 = true ∨ isB y 116 = true ∨ isB y 109 = true ∨ isB y 100 = true then 2
      else if isB y 114 = true ∨ isB y 118 = true ∨ isB y 108 = true then
        match t with
        | z :: _ => if (isB y 108 = true ∧ isB z 108 = true) ∨ (isB y 108 = false ∧ isB z 101 = true) then 3 else 0
        | [] => 0
      else 0
    else 0 := rfl
/-- How many of the first items are of this kind. -/
def runI (d : Dat) (k : Int) (l : List Cut.Item) : Nat := (l.takeWhile fun x => decide (kindI d x = k)).length
theorem runI_cons {d : Dat} {k : Int} {x : Cut.Item} {l : List Cut.Item} (h : kindI d x = k) : runI d k (x :: l) = runI d k l + 1 := by
  unfold runI
  rw [List.takeWhile_cons_of_pos (by simp [h])]
  rfl
theorem runI_stop {d : Dat} {k : Int} {x : Cut.Item} {l : List Cut.Item} (h : kindI d x ≠ k) : runI d k (x :: l) = 0 := by
  unfold runI
  rw [List.takeWhile_cons_of_neg (by simp [h])]
  rfl
theorem runI_le (d : Dat) (k : Int) : ∀ l : List Cut.Item, runI d k l ≤ l.length
  | [] => Nat.le_refl _
  | x :: l => by
    by_cases h : kindI d x = k
    · rw [runI_cons h, List.length_cons]
      have := runI_le d k l
      omega
    · rw [runI_stop h]
      exact Nat.zero_le _
def headSp (d : Dat) : List Cut.Item → Bool
  | x :: y :: _ => isB x 32 && decide (kindI d y ≠ 3)
  | _ => false
/-- The first pre-token of items: how many, its sort. -/
def nextR (d : Dat) : List Cut.Item → Nat × Int
  | [] => (0, 0)
  | x :: t =>
    if 0 < shortI (x :: t) then (shortI (x :: t), 1)
    else if headSp d (x :: t) = true then (1 + runI d (kindI d (t.headD x)) t, sortT (kindI d (t.headD x)))
    else if kindI d x ≠ 3 then (runI d (kindI d x) (x :: t), sortT (kindI d x))
    else if runI d 3 (x :: t) < (x :: t).length ∧ 2 ≤ runI d 3 (x :: t) then (runI d 3 (x :: t) - 1, 5)
    else (runI d 3 (x :: t), 5)

/-! ### items of a text's end -/
theorem ext_ext {s : ByteArray} {k j : Nat} (hk : k ≤ s.size) : (s.extract k s.size).extract j (s.extract k s.size).size = s.extract (k + j) s.size := by
  rw [ByteArray.size_extract, Nat.min_self]
  apply ByteArray.ext
  rw [ByteArray.data_extract, ByteArray.data_extract, ByteArray.data_extract, Array.extract_extract]
  congr 1
  omega
def shiftI (k : Nat) (x : Cut.Item) : Cut.Item := ⟨x.at_ - k, x.n, x.r, x.bad⟩
theorem itemAt_ext {s : ByteArray} {k j : Nat} (hk : k ≤ s.size) : itemAt (s.extract k s.size) j = shiftI k (itemAt s (k + j)) := by
  unfold itemAt shiftI
  rw [ext_ext hk]
  simp only [Cut.Item.mk.injEq, and_true, true_and]
  omega
theorem itemsGo_ext {s : ByteArray} {k : Nat} (hk : k ≤ s.size) : ∀ (f j : Nat), itemsGo (s.extract k s.size) f j = (itemsGo s f (k + j)).map (shiftI k)
  | 0, _ => rfl
  | f + 1, j => by
    unfold itemsGo
    have hz : (s.extract k s.size).size = s.size - k := by rw [ByteArray.size_extract]; omega
    rw [hz]
    by_cases h : k + j < s.size
    · rw [if_pos (by omega), if_pos h, itemAt_ext hk, List.map_cons, itemsGo_ext hk f]
      show _ :: List.map _ (itemsGo s f (k + (j + (itemAt s (k + j)).n))) = _
      rw [Nat.add_assoc]
    · rw [if_neg (by omega), if_neg h]
      rfl
theorem kind_shift (d : Dat) (k : Nat) (x : Cut.Item) : kindI d (shiftI k x) = kindI d x := rfl
theorem runGo_shift (d : Dat) (k : Nat) (q : Int) : ∀ (l : List Cut.Item) (n last : Nat), runGo d q (l.map (shiftI k)) n last = runGo d q l n last
  | [], _, _ => rfl
  | x :: l, n, last => by
    rw [List.map_cons]
    unfold runGo
    rw [kind_shift, runGo_shift d k q l]
    rfl
/-- Bytes of the first m items. -/
def sumI (l : List Cut.Item) (m : Nat) : Nat := ((l.take m).map (·.n)).sum
theorem sumI_zero (l : List Cut.Item) : sumI l 0 = 0 := by simp [sumI]
theorem sumI_succ {x : Cut.Item} {l : List Cut.Item} (m : Nat) : sumI (x :: l) (m + 1) = x.n + sumI l m := by simp [sumI]
theorem sumI_next : ∀ {l : List Cut.Item} {m : Nat} {x : Cut.Item}, l[m]? = some x → sumI l (m + 1) = sumI l m + x.n
  | [], _, _, h => by cases h
  | y :: l, 0, x, h => by
    obtain rfl : y = x := by simpa using h
    rw [sumI_succ, sumI_zero, sumI_zero]; omega
  | y :: l, m + 1, x, h => by
    rw [sumI_succ, sumI_succ, sumI_next (by simpa using h)]
    omega
/-- runGo: the bytes of the items of one kind, the last one's. -/
theorem runGo_sum (d : Dat) (q : Int) : ∀ (l : List Cut.Item) (n last : Nat), (runGo d q l n last).1 = n + sumI l (runI d q l) ∧ (runGo d q l n last).2 = (match (l.take (runI d q l)).getLast? with | some x => x.n | none => last)
  | [], n, last => by simp [runGo, sumI, runI]
  | x :: l, n, last => by
    unfold runGo
    by_cases h : kindI d x = q
    · rw [if_pos h, runI_cons h, sumI_succ]
      have ih := runGo_sum d q l (n + x.n) x.n
      refine ⟨by rw [ih.1]; omega, ?_⟩
      rw [ih.2, List.take_succ_cons]
      cases hl : (l.take (runI d q l)).getLast? with
      | none =>
        have : l.take (runI d q l) = [] := by simpa using hl
        rw [this]
        rfl
      | some y =>
        rw [List.getLast?_cons, hl]
        rfl
    · rw [if_neg h, runI_stop h]
      simp [sumI]
/-- Where the first m items end. -/
theorem itemsGo_skip {s : ByteArray} : ∀ {m f k : Nat}, s.size - k ≤ f → k ≤ s.size → m ≤ (itemsGo s f k).length → ∃ f', (itemsGo s f k).drop m = itemsGo s f' (k + sumI (itemsGo s f k) m) ∧ s.size - (k + sumI (itemsGo s f k) m) ≤ f' ∧ k + sumI (itemsGo s f k) m ≤ s.size
  | 0, f, k, hf, hk, _ => ⟨f, by rw [sumI_zero]; rfl, by rw [sumI_zero]; exact hf, by rw [sumI_zero]; exact hk⟩
  | m + 1, f, k, hf, hk, hm => by
    by_cases h : k < s.size
    · obtain ⟨f', e1, e2⟩ := itemsGo_cons h hf
      have hb := itemAt_bd h
      rw [e1, List.length_cons] at hm
      obtain ⟨f'', e3, e4, e5⟩ := itemsGo_skip (m := m) e2 hb.2.1 (by omega)
      rw [e1, sumI_succ, List.drop_succ_cons]
      exact ⟨f'', by rw [e3]; congr 1; omega, by omega, by omega⟩
    · rw [itemsGo_end (by omega)] at hm
      simp at hm
theorem items_at {s : ByteArray} {f k m : Nat} {x : Cut.Item} (hf : s.size - k ≤ f) (hk : k ≤ s.size) (h : (itemsGo s f k)[m]? = some x) : k + sumI (itemsGo s f k) m < s.size ∧ x = itemAt s (k + sumI (itemsGo s f k) m) := by
  have hm := (List.getElem?_eq_some_iff.1 h).1
  obtain ⟨f', e1, e2, e3⟩ := itemsGo_skip (m := m) hf hk (by omega)
  by_cases hl : k + sumI (itemsGo s f k) m < s.size
  · refine ⟨hl, ?_⟩
    obtain ⟨f'', e4, _⟩ := itemsGo_cons hl e2
    have : ((itemsGo s f k).drop m)[0]? = some x := by rw [List.getElem?_drop]; exact h
    rw [e1, e4] at this
    exact (Option.some.inj this).symm
  · rw [itemsGo_end (s := s) (f := f') (k := k + sumI (itemsGo s f k) m) (by omega)] at e1
    have : ((itemsGo s f k).drop m)[0]? = some x := by rw [List.getElem?_drop]; exact h
    rw [e1] at this
    cases this
/-! ### ASCII -/
theorem decB_low {b0 b1 b2 b3 : Nat} {h1 h2 h3 : Bool} (h : (decB b0 b1 b2 b3 h1 h2 h3).1 < 128) : b0 < 128 := by
  unfold decB at h
  by_cases hb : b0 < 128
  · exact hb
  rw [if_neg hb] at h
  exfalso
  simp only [ge_iff_le] at h
  repeat' split at h
  all_goals (simp only [Bool.and_eq_true, decide_eq_true_eq] at *; omega)
theorem isB_iff {s : ByteArray} {k r : Nat} (hk : k < s.size) (hr : r < 128) : isB (itemAt s k) r = true ↔ bt s k = r := by
  constructor
  · intro h
    unfold isB at h
    simp only [Bool.and_eq_true, decide_eq_true_eq] at h
    have hlow : bt s k < 128 := by
      have e : (itemAt s k).r = (decB (bt s k) (bt s (k + 1)) (bt s (k + 2)) (bt s (k + 3)) (decide (k + 1 < s.size)) (decide (k + 2 < s.size)) (decide (k + 3 < s.size))).1 := by
        unfold itemAt
        rw [decB_eq hk]
      exact decB_low (by rw [← e]; omega)
    rw [item_one hk hlow] at h
    exact h.2
  · intro h
    rw [item_one hk (by omega)]
    unfold isB
    simp [h]
theorem isB_one {s : ByteArray} {k r : Nat} (hk : k < s.size) (hr : r < 128) (h : isB (itemAt s k) r = true) : (itemAt s k).n = 1 := by
  have := (isB_iff hk hr).1 h
  rw [item_one hk (by omega)]
/-! ### a Short -/
theorem pre_iff {s : ByteArray} {k : Nat} (hk : k ≤ s.size) (w : List UInt8) : w <+: (s.extract k s.size).data.toList ↔ ∀ i (h : i < w.length), k + i < s.size ∧ bt s (k + i) = (w[i]).toNat := by
  have hz : (s.extract k s.size).data.toList.length = s.size - k := by
    rw [Array.length_toList]
    have : (s.extract k s.size).size = s.size - k := by rw [ByteArray.size_extract]; omega
    exact this
  have hg : ∀ i (h : k + i < s.size), (s.extract k s.size).data.toList[i]? = some (s.data[k + i]'h) := fun i h => by
    rw [Array.getElem?_toList, ByteArray.data_extract, Array.getElem?_extract]
    have hs : k + i < s.data.size := h
    rw [if_pos (by show i < min s.size s.data.size - k; unfold ByteArray.size at *; omega)]
    exact Array.getElem?_eq_getElem hs
  rw [List.prefix_iff_getElem?]
  constructor
  · intro h i hi
    have h1 := h i hi
    have hl : i < s.size - k := by
      have := (List.getElem?_eq_some_iff.1 h1).1
      omega
    refine ⟨by omega, ?_⟩
    rw [hg i (by omega)] at h1
    rw [← bt_at (by omega : k + i < s.size)]
    have := Option.some.inj h1
    rw [← this]
    rfl
  · intro h i hi
    obtain ⟨h1, h2⟩ := h i hi
    rw [hg i h1]
    congr 1
    rw [← bt_at h1] at h2
    exact UInt8.toNat_inj.1 h2
theorem pre2 {s : ByteArray} {k : Nat} (hk : k ≤ s.size) (a b : UInt8) : [a, b] <+: (s.extract k s.size).data.toList ↔ k + 1 < s.size ∧ bt s k = a.toNat ∧ bt s (k + 1) = b.toNat := by
  rw [pre_iff hk]
  constructor
  · intro h
    have h0 := h 0 (by simp)
    have h1 := h 1 (by simp)
    exact ⟨h1.1, h0.2, h1.2⟩
  · intro ⟨h1, h2, h3⟩ i hi
    simp at hi
    match i, hi with
    | 0, _ => exact ⟨by omega, h2⟩
    | 1, _ => exact ⟨h1, h3⟩
theorem pre3 {s : ByteArray} {k : Nat} (hk : k ≤ s.size) (a b c : UInt8) : [a, b, c] <+: (s.extract k s.size).data.toList ↔ k + 2 < s.size ∧ bt s k = a.toNat ∧ bt s (k + 1) = b.toNat ∧ bt s (k + 2) = c.toNat := by
  rw [pre_iff hk]
  constructor
  · intro h
    have h0 := h 0 (by simp)
    have h1 := h 1 (by simp)
    have h2 := h 2 (by simp)
    exact ⟨h2.1, h0.2, h1.2, h2.2⟩
  · intro ⟨h1, h2, h3, h4⟩ i hi
    simp at hi
    match i, hi with
    | 0, _ => exact ⟨by omega, h2⟩
    | 1, _ => exact ⟨by omega, h3⟩
    | 2, _ => exact ⟨h1, h4⟩
set_option maxHeartbeats 1000000 in
theorem short_eq {s : ByteArray} {k f : Nat} (hk : k < s.size) (hf : s.size - k ≤ f) : shortT (s.extract k s.size) = shortI (itemsGo s f k) := by
  have hS : shortT (s.extract k s.size) = (if bt s k = 39 ∧ k + 1 < s.size then (if bt s (k + 1) = 115 ∨ bt s (k + 1) = 116 ∨ bt s (k + 1) = 109 ∨ bt s (k + 1) = 100 then 2 else if k + 2 < s.size ∧ ((bt s (k + 1) = 114 ∧ bt s (k + 2) = 101) ∨ (bt s (k + 1) = 118 ∧ bt s (k + 2) = 101) ∨ (bt s (k + 1) = 108 ∧ bt s (k + 2) = 108)) then 3 else 0) else 0) := by
    unfold shortT shorts
    simp only [shortGo, pre2 (Nat.le_of_lt hk), pre3 (Nat.le_of_lt hk), List.length_cons, List.length_nil]
    simp only [show (39 : UInt8).toNat = 39 from rfl, show (115 : UInt8).toNat = 115 from rfl, show (116 : UInt8).toNat = 116 from rfl, show (109 : UInt8).toNat = 109 from rfl, show (100 : UInt8).toNat = 100 from rfl, show (114 : UInt8).toNat = 114 from rfl, show (118 : UInt8).toNat = 118 from rfl, show (108 : UInt8).toNat = 108 from rfl, show (101 : UInt8).toNat = 101 from rfl]
    repeat' split
    all_goals first | rfl | omega
  rw [hS]
  obtain ⟨f1, e1, g1⟩ := itemsGo_cons hk hf
  rw [e1]
  have i39 := isB_iff (r := 39) hk (by decide)
  by_cases h39 : bt s k = 39
  · have n1 := isB_one hk (by decide) (i39.2 h39)
    rw [n1] at g1
    rw [n1]
    by_cases hk1 : k + 1 < s.size
    · obtain ⟨f2, e2, g2⟩ := itemsGo_cons hk1 g1
      rw [e2]
      have I := fun r (h : r < 128) => isB_iff (r := r) hk1 h
      rw [if_pos ⟨h39, hk1⟩]
      rw [shortI_two, if_pos (i39.2 h39)]
      simp only [I 115 (by decide), I 116 (by decide), I 109 (by decide), I 100 (by decide), I 114 (by decide), I 118 (by decide), I 108 (by decide)]
      by_cases h2 : bt s (k + 1) = 115 ∨ bt s (k + 1) = 116 ∨ bt s (k + 1) = 109 ∨ bt s (k + 1) = 100
      · rw [if_pos h2, if_pos h2]
      · rw [if_neg h2, if_neg h2]
        by_cases h3 : bt s (k + 1) = 114 ∨ bt s (k + 1) = 118 ∨ bt s (k + 1) = 108
        · rw [if_pos h3]
          have hr : ∃ r, r < 128 ∧ bt s (k + 1) = r := ⟨bt s (k + 1), by omega, rfl⟩
          obtain ⟨r, hr1, hr2⟩ := hr
          have n2 := isB_one hk1 hr1 ((I r hr1).2 hr2)
          rw [n2] at g2
          rw [n2]
          by_cases hk2 : k + 1 + 1 < s.size
          · obtain ⟨f3, e3, g3⟩ := itemsGo_cons hk2 g2
            rw [e3]
            have J := fun r (h : r < 128) => isB_iff (r := r) hk2 h
            have hn : isB (itemAt s (k + 1)) 108 = false ↔ ¬ bt s (k + 1) = 108 := by rw [← I 108 (by decide)]; simp
            simp only [J 108 (by decide), J 101 (by decide), hn]
            by_cases h4 : k + 2 < s.size ∧ (bt s (k + 1) = 114 ∧ bt s (k + 2) = 101 ∨ bt s (k + 1) = 118 ∧ bt s (k + 2) = 101 ∨ bt s (k + 1) = 108 ∧ bt s (k + 2) = 108)
            · rw [if_pos h4, if_pos (by rw [show k + 1 + 1 = k + 2 from rfl]; omega)]
            · rw [if_neg h4, if_neg (by rw [show k + 1 + 1 = k + 2 from rfl]; omega)]
          · rw [itemsGo_end (s := s) (f := f2) (k := k + 1 + 1) (by omega), if_neg (by omega)]
        · rw [if_neg h3, if_neg (by omega)]
    · rw [itemsGo_end (s := s) (f := f1) (k := k + 1) (by omega), if_neg (fun h => hk1 h.2)]
      rfl
  · rw [if_neg (fun h => h39 h.1)]
    have hb : isB (itemAt s k) 39 = false := by
      cases h : isB (itemAt s k) 39 with
      | false => rfl
      | true => exact absurd (i39.1 h) h39
    cases itemsGo s f1 (k + (itemAt s k).n) with
    | nil => rfl
    | cons y t =>
      rw [shortI_two, if_neg (by rw [hb]; decide)]
theorem shortI_le (l : List Cut.Item) : shortI l ≤ l.length := by
  unfold shortI
  split
  · rename_i x y t
    split
    · split
      · simp
      · split
        · cases t with
          | nil => simp
          | cons z t => simp only; split <;> simp
        · exact Nat.zero_le _
    · exact Nat.zero_le _
  · exact Nat.zero_le _
end Go.Proofs.YtigpaaelggnffaaGreatDoor.R2
