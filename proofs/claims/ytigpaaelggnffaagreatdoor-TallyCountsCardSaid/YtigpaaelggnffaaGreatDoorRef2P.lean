/- The document's items (tesseraref2), in plain words: a sequence's bytes and what the decoder makes of them. -/
import Derived.Test.YtigpaaelggnffaaGreatDoorCutP
namespace Go.Proofs.YtigpaaelggnffaaGreatDoor.R2
open Go.Proofs.YtigpaaelggnffaaGreatDoor.Lib Go.Proofs.YtigpaaelggnffaaGreatDoor.Sl Go.Proofs.YtigpaaelggnffaaGreatDoor.Cut
set_option linter.unusedVariables false
set_option linter.unusedSimpArgs false

/-- The byte at a place. -/
def bt (s : ByteArray) (k : Nat) : Nat := (s.get! k).toNat
theorem bt_lt (s : ByteArray) (k : Nat) : bt s k < 256 := (s.get! k).toNat_lt
theorem bt_at {s : ByteArray} {k : Nat} (h : k < s.size) : (s[k]'h).toNat = bt s k := by
  unfold bt
  congr 1
  show s.data[k]'h = s.data[k]!
  exact (getElem!_pos s.data k h).symm
theorem bt_extract {s : ByteArray} {k i : Nat} (h : k + i < s.size) : ((s.extract k s.size).get! i).toNat = bt s (k + i) := by
  have hz : i < (s.extract k s.size).size := by rw [ByteArray.size_extract]; omega
  have h1 := bt_at hz
  unfold bt at h1
  rw [← h1, ← bt_at h]
  congr 1
  exact ByteArray.getElem_extract ..
/-- How many bytes a sequence has that begins so. -/
def need (c : Nat) : Nat := if 194 ≤ c ∧ c ≤ 223 then 2 else if 224 ≤ c ∧ c ≤ 239 then 3 else if 240 ≤ c ∧ c ≤ 244 then 4 else 0
def lo2 (c : Nat) : Nat := if c = 240 then 144 else if c = 224 then 160 else 128
def hi2 (c : Nat) : Nat := if c = 244 then 143 else if c = 237 then 159 else 191
/-- May the byte stand there, as number i of a sequence? -/
def okB (s : ByteArray) (k i : Nat) : Prop := k + i < s.size ∧ (if i = 1 then lo2 (bt s k) ≤ bt s (k + 1) ∧ bt s (k + 1) ≤ hi2 (bt s k) else 128 ≤ bt s (k + i) ∧ bt s (k + i) ≤ 191)
theorem okB_cont {s : ByteArray} {k i : Nat} (h : okB s k i) : 128 ≤ bt s (k + i) ∧ bt s (k + i) ≤ 191 := by
  obtain ⟨_, h⟩ := h
  by_cases hi : i = 1
  · subst hi
    rw [if_pos rfl] at h
    unfold lo2 hi2 at h
    split at h <;> split at h <;> (try split at h) <;> (try split at h) <;> omega
  · rwa [if_neg hi] at h
/-- How many of the bytes go on as one sequence, up to most. -/
def Fits (s : ByteArray) (k most n : Nat) : Prop := 1 ≤ n ∧ n ≤ most ∧ (∀ i, 1 ≤ i → i < n → okB s k i) ∧ (n = most ∨ ¬ okB s k n)
/-- The rune of a sequence. -/
def readT (s : ByteArray) (k n : Nat) : Nat :=
  if n = 1 then bt s k else if n = 2 then (bt s k % 32) * 64 + bt s (k + 1) % 64 else if n = 3 then ((bt s k % 16) * 64 + bt s (k + 1) % 64) * 64 + bt s (k + 2) % 64
  else (((bt s k % 8) * 64 + bt s (k + 1) % 64) * 64 + bt s (k + 2) % 64) * 64 + bt s (k + 3) % 64
/-- The decoder, told of the bytes. -/
def decB (b0 b1 b2 b3 : Nat) (h1 h2 h3 : Bool) : Nat × Nat :=
  if b0 < 0x80 then (b0, 1)
  else if b0 / 32 == 6 && (h1 && b1 / 64 == 2) then
    if b0 % 32 * 64 + b1 % 64 ≥ 0x80 then (b0 % 32 * 64 + b1 % 64, 2) else (65533, 1)
  else if b0 / 16 == 14 && (h1 && b1 / 64 == 2) && (h2 && b2 / 64 == 2) then
    if b0 % 16 * 4096 + b1 % 64 * 64 + b2 % 64 ≥ 0x800 && Utf8.valid ((b0 % 16 * 4096 + b1 % 64 * 64 + b2 % 64 : Nat) : Int) then (b0 % 16 * 4096 + b1 % 64 * 64 + b2 % 64, 3) else (65533, 1)
  else if b0 / 8 == 30 && (h1 && b1 / 64 == 2) && (h2 && b2 / 64 == 2) && (h3 && b3 / 64 == 2) then
    if b0 % 8 * 262144 + b1 % 64 * 4096 + b2 % 64 * 64 + b3 % 64 ≥ 0x10000 && Utf8.valid ((b0 % 8 * 262144 + b1 % 64 * 4096 + b2 % 64 * 64 + b3 % 64 : Nat) : Int) then (b0 % 8 * 262144 + b1 % 64 * 4096 + b2 % 64 * 64 + b3 % 64, 4) else (65533, 1)
  else (65533, 1)
theorem dec_fun (s : ByteArray) : Utf8.decode s 0 = decB ((s.get! (0 + 0)).toNat) ((s.get! (0 + 1)).toNat) ((s.get! (0 + 2)).toNat) ((s.get! (0 + 3)).toNat) (decide (0 + 1 < s.size)) (decide (0 + 2 < s.size)) (decide (0 + 3 < s.size)) := rfl
theorem decB_congr {b0 b1 b2 b3 c0 c1 c2 c3 : Nat} {h1 h2 h3 : Bool} (e0 : b0 = c0) (e1 : h1 = true → b1 = c1) (e2 : h2 = true → b2 = c2) (e3 : h3 = true → b3 = c3) : decB b0 b1 b2 b3 h1 h2 h3 = decB c0 c1 c2 c3 h1 h2 h3 := by
  subst e0
  cases h1 with
  | false => simp [decB]
  | true =>
    obtain rfl := e1 rfl
    cases h2 with
    | false => simp [decB]
    | true =>
      obtain rfl := e2 rfl
      cases h3 with
      | false => simp [decB]
      | true => obtain rfl := e3 rfl; rfl
theorem decB_eq {s : ByteArray} {k : Nat} (hk : k < s.size) : Utf8.decode (s.extract k s.size) 0 = decB (bt s k) (bt s (k + 1)) (bt s (k + 2)) (bt s (k + 3)) (decide (k + 1 < s.size)) (decide (k + 2 < s.size)) (decide (k + 3 < s.size)) := by
  have hd : ∀ i, decide (0 + i < (s.extract k s.size).size) = decide (k + i < s.size) := fun i => by
    rw [ByteArray.size_extract]
    by_cases h : k + i < s.size
    · rw [decide_eq_true h, decide_eq_true (by omega)]
    · rw [decide_eq_false h, decide_eq_false (by omega)]
  have hg : ∀ i, decide (k + i < s.size) = true → ((s.extract k s.size).get! (0 + i)).toNat = bt s (k + i) := fun i h => by
    rw [Nat.zero_add]
    exact bt_extract (of_decide_eq_true h)
  rw [dec_fun, hd 1, hd 2, hd 3]
  exact decB_congr (hg 0 (decide_eq_true hk)) (hg 1) (hg 2) (hg 3)
def bad1 (k : Nat) : Cut.Item := ⟨k, 1, 65533, true⟩
theorem item_of {s : ByteArray} {k n r : Nat} (hk : k < s.size) (h : decB (bt s k) (bt s (k + 1)) (bt s (k + 2)) (bt s (k + 3)) (decide (k + 1 < s.size)) (decide (k + 2 < s.size)) (decide (k + 3 < s.size)) = (r, n)) (hb : ¬ (r = 65533 ∧ n = 1)) : itemAt s k = ⟨k, n, r, false⟩ := by
  unfold itemAt
  rw [decB_eq hk, h]
  simp only [Cut.Item.mk.injEq, true_and]
  simpa using hb
theorem item_bad {s : ByteArray} {k : Nat} (hk : k < s.size) (h : decB (bt s k) (bt s (k + 1)) (bt s (k + 2)) (bt s (k + 3)) (decide (k + 1 < s.size)) (decide (k + 2 < s.size)) (decide (k + 3 < s.size)) = (65533, 1)) : itemAt s k = bad1 k := by
  unfold itemAt
  rw [decB_eq hk, h]
  rfl
theorem item_one {s : ByteArray} {k : Nat} (hk : k < s.size) (h : bt s k < 128) : itemAt s k = ⟨k, 1, bt s k, false⟩ :=
  item_of hk (by unfold decB; rw [if_pos h]) (by omega)
theorem item_none {s : ByteArray} {k : Nat} (hk : k < s.size) (h : 128 ≤ bt s k) (hn : need (bt s k) = 0) : itemAt s k = bad1 k := by
  refine item_bad hk ?_
  have hc : (128 ≤ bt s k ∧ bt s k < 192) ∨ bt s k = 192 ∨ bt s k = 193 ∨ 245 ≤ bt s k := by
    unfold need at hn
    have := bt_lt s k
    split at hn
    · cases hn
    · split at hn
      · cases hn
      · split at hn
        · cases hn
        · omega
  have b0 := bt_lt s k
  have b1 := bt_lt s (k + 1)
  generalize bt s k = c at *
  generalize bt s (k + 1) = d1 at *
  generalize bt s (k + 2) = d2 at *
  generalize bt s (k + 3) = d3 at *
  generalize decide (k + 1 < s.size) = h1
  generalize decide (k + 2 < s.size) = h2
  generalize decide (k + 3 < s.size) = h3
  unfold decB
  rw [if_neg (by omega)]
  simp only [Bool.and_eq_true, beq_iff_eq, Utf8.valid, decide_eq_true_eq, ge_iff_le, Bool.or_eq_true]
  repeat' split
  all_goals first | rfl | omega
set_option maxHeartbeats 1000000 in
theorem item_seq {s : ByteArray} {k m : Nat} (hk : k < s.size) (hm : need (bt s k) = m) (h0 : 0 < m) (hok : ∀ i, 1 ≤ i → i < m → okB s k i) : itemAt s k = ⟨k, m, readT s k m, false⟩ := by
  have hc : (m = 2 ∧ 194 ≤ bt s k ∧ bt s k ≤ 223) ∨ (m = 3 ∧ 224 ≤ bt s k ∧ bt s k ≤ 239) ∨ (m = 4 ∧ 240 ≤ bt s k ∧ bt s k ≤ 244) := by
    unfold need at hm
    split at hm
    · omega
    · split at hm
      · omega
      · split at hm
        · omega
        · omega
  have h1 := hok 1 (Nat.le_refl _) (by omega)
  have k1 := okB_cont h1
  obtain ⟨l1, g1⟩ := h1
  rw [if_pos rfl] at g1
  refine item_of hk ?_ (by omega)
  unfold readT
  rcases hc with ⟨rfl, c1, c2⟩ | ⟨rfl, c1, c2⟩ | ⟨rfl, c1, c2⟩
  · rw [if_neg (by decide), if_pos rfl]
    rw [decide_eq_true l1]
    generalize bt s k = c at *
    generalize bt s (k + 1) = d1 at *
    generalize bt s (k + 2) = d2 at *
    generalize bt s (k + 3) = d3 at *
    generalize decide (k + 2 < s.size) = h2
    generalize decide (k + 3 < s.size) = h3
    unfold decB
    rw [if_neg (by omega), if_pos (by simp; omega), if_pos (by omega)]
  · have h2 := hok 2 (by decide) (by decide)
    have k2 := okB_cont h2
    obtain ⟨l2, _⟩ := h2
    rw [if_neg (by decide), if_neg (by decide), if_pos rfl]
    rw [decide_eq_true l1, decide_eq_true l2]
    have g2 : (bt s k = 224 → 160 ≤ bt s (k + 1)) ∧ (bt s k = 237 → bt s (k + 1) ≤ 159) := by
      unfold lo2 hi2 at g1
      refine ⟨fun h => ?_, fun h => ?_⟩ <;> simp [h] at g1 <;> omega
    generalize bt s k = c at *
    generalize bt s (k + 1) = d1 at *
    generalize bt s (k + 2) = d2 at *
    generalize bt s (k + 3) = d3 at *
    generalize decide (k + 3 < s.size) = h3
    unfold decB
    rw [if_neg (by omega), if_neg (by simp; omega), if_pos (by simp; omega), if_pos (by simp [Utf8.valid]; omega)]
    congr 1
    omega
  · have h2 := hok 2 (by decide) (by decide)
    have k2 := okB_cont h2
    obtain ⟨l2, _⟩ := h2
    have h3 := hok 3 (by decide) (by decide)
    have k3 := okB_cont h3
    obtain ⟨l3, _⟩ := h3
    rw [if_neg (by decide), if_neg (by decide), if_neg (by decide)]
    rw [decide_eq_true l1, decide_eq_true l2, decide_eq_true l3]
    have g2 : (bt s k = 240 → 144 ≤ bt s (k + 1)) ∧ (bt s k = 244 → bt s (k + 1) ≤ 143) := by
      unfold lo2 hi2 at g1
      refine ⟨fun h => ?_, fun h => ?_⟩ <;> simp [h] at g1 <;> omega
    generalize bt s k = c at *
    generalize bt s (k + 1) = d1 at *
    generalize bt s (k + 2) = d2 at *
    generalize bt s (k + 3) = d3 at *
    unfold decB
    rw [if_neg (by omega), if_neg (by simp; omega), if_neg (by simp; omega), if_pos (by simp; omega), if_pos (by simp [Utf8.valid]; omega)]
    congr 1
    omega
set_option maxHeartbeats 1000000 in
theorem item_cut {s : ByteArray} {k m i : Nat} (hk : k < s.size) (hm : need (bt s k) = m) (hi : 1 ≤ i) (him : i < m) (hno : ¬ okB s k i) : itemAt s k = bad1 k := by
  refine item_bad hk ?_
  have hc : (m = 2 ∧ 194 ≤ bt s k ∧ bt s k ≤ 223) ∨ (m = 3 ∧ 224 ≤ bt s k ∧ bt s k ≤ 239) ∨ (m = 4 ∧ 240 ≤ bt s k ∧ bt s k ≤ 244) := by
    unfold need at hm
    split at hm
    · omega
    · split at hm
      · omega
      · split at hm
        · omega
        · omega
  have hn1 : i = 1 → ¬ (k + 1 < s.size) ∨ bt s (k + 1) < 128 ∨ 191 < bt s (k + 1) ∨ (bt s k = 240 ∧ bt s (k + 1) < 144) ∨ (bt s k = 224 ∧ bt s (k + 1) < 160) ∨ (bt s k = 244 ∧ 143 < bt s (k + 1)) ∨ (bt s k = 237 ∧ 159 < bt s (k + 1)) := fun h => by
    subst h
    unfold okB lo2 hi2 at hno
    rw [if_pos rfl] at hno
    by_cases hl : k + 1 < s.size
    · right
      have hno : ¬ _ := fun h => hno ⟨hl, h⟩
      split at hno <;> split at hno <;> (try split at hno) <;> (try split at hno) <;> omega
    · exact .inl hl
  have hn2 : i ≠ 1 → ¬ (k + i < s.size) ∨ bt s (k + i) < 128 ∨ 191 < bt s (k + i) := fun h => by
    unfold okB at hno
    rw [if_neg h] at hno
    by_cases hl : k + i < s.size
    · right
      have hno : ¬ _ := fun h => hno ⟨hl, h⟩
      omega
    · exact .inl hl
  have b0 := bt_lt s k
  have b1 := bt_lt s (k + 1)
  have b2 := bt_lt s (k + 2)
  have b3 := bt_lt s (k + 3)
  have hi3 : i = 1 ∨ i = 2 ∨ i = 3 := by omega
  clear hno hm
  rcases hi3 with rfl | rfl | rfl
  · have hn1 := hn1 rfl
    clear hn2
    have e1 : (decide (k + 1 < s.size) = true) → k + 1 < s.size := of_decide_eq_true
    generalize bt s k = c at *
    generalize bt s (k + 1) = d1 at *
    generalize bt s (k + 2) = d2 at *
    generalize bt s (k + 3) = d3 at *
    generalize decide (k + 1 < s.size) = h1 at *
    generalize decide (k + 2 < s.size) = h2
    generalize decide (k + 3 < s.size) = h3
    unfold decB
    rw [if_neg (by omega)]
    simp only [Bool.and_eq_true, beq_iff_eq, Utf8.valid, decide_eq_true_eq, ge_iff_le, Bool.or_eq_true]
    repeat' split
    all_goals first | rfl | (exfalso; rename_i hA hB; have := e1 (by simp_all); omega) | (exfalso; rename_i hA hB hC; have := e1 (by simp_all); omega) | (exfalso; rename_i hA hB hC hD; have := e1 (by simp_all); omega)
  · have hn2 := hn2 (by decide)
    have e2 : (decide (k + 2 < s.size) = true) → k + 2 < s.size := of_decide_eq_true
    clear hn1
    generalize bt s k = c at *
    generalize bt s (k + 1) = d1 at *
    generalize bt s (k + 2) = d2 at *
    generalize bt s (k + 3) = d3 at *
    generalize decide (k + 1 < s.size) = h1
    generalize decide (k + 2 < s.size) = h2 at *
    generalize decide (k + 3 < s.size) = h3
    unfold decB
    rw [if_neg (by omega)]
    simp only [Bool.and_eq_true, beq_iff_eq, Utf8.valid, decide_eq_true_eq, ge_iff_le, Bool.or_eq_true]
    repeat' split
    all_goals first | rfl | (exfalso; rename_i hA hB; omega) | (exfalso; rename_i hA hB hC; have := e2 (by simp_all); omega) | (exfalso; rename_i hA hB hC hD; have := e2 (by simp_all); omega)
  · have hn2 := hn2 (by decide)
    have e3 : (decide (k + 3 < s.size) = true) → k + 3 < s.size := of_decide_eq_true
    clear hn1
    generalize bt s k = c at *
    generalize bt s (k + 1) = d1 at *
    generalize bt s (k + 2) = d2 at *
    generalize bt s (k + 3) = d3 at *
    generalize decide (k + 1 < s.size) = h1
    generalize decide (k + 2 < s.size) = h2
    generalize decide (k + 3 < s.size) = h3 at *
    unfold decB
    rw [if_neg (by omega)]
    simp only [Bool.and_eq_true, beq_iff_eq, Utf8.valid, decide_eq_true_eq, ge_iff_le, Bool.or_eq_true]
    repeat' split
    all_goals first | rfl | (exfalso; rename_i hA hB; omega) | (exfalso; rename_i hA hB hC; omega) | (exfalso; rename_i hA hB hC hD; have := e3 (by simp_all); omega)
/-- A byte that goes on, but stands at no beginning. -/
theorem item_tail {s : ByteArray} {k : Nat} (hk : k < s.size) (h : 128 ≤ bt s k ∧ bt s k ≤ 191) : itemAt s k = bad1 k := item_none hk h.1 (by unfold need; rw [if_neg (by omega), if_neg (by omega), if_neg (by omega)])
end Go.Proofs.YtigpaaelggnffaaGreatDoor.R2
