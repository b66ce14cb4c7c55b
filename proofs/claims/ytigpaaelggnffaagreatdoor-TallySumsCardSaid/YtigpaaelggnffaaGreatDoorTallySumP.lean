/- For TallySums, pure: the rows' numbers added up; the ids that stand in no row. -/
import Derived.Test.YtigpaaelggnffaaGreatDoorTallyUn
import Derived.Test.YtigpaaelggnffaaGreatDoorTallySav
namespace Go.Proofs.YtigpaaelggnffaaGreatDoor.Ty
open Go.RowKit Go.Proofs.YtigpaaelggnffaaGreatDoor.Lib Go.Proofs.YtigpaaelggnffaaGreatDoor.Sl Go.Proofs.YtigpaaelggnffaaGreatDoor.Bpe
set_option linter.unusedVariables false
set_option linter.unusedSimpArgs false

/-- The rows' numbers, added up. -/
def sumN (l : List TRow) : Int := (l.map (·.n)).sum
theorem sumN_cons (r : TRow) (l : List TRow) : sumN (r :: l) = r.n + sumN l := by simp [sumN]
theorem sumN_append (l m : List TRow) : sumN (l ++ m) = sumN l + sumN m := by simp [sumN]
theorem sumN_perm {l m : List TRow} (h : l.Perm m) : sumN l = sumN m := by
  induction h with
  | nil => rfl
  | cons x _ ih => rw [sumN_cons, sumN_cons, ih]
  | swap x y l => rw [sumN_cons, sumN_cons, sumN_cons, sumN_cons]; omega
  | trans _ _ h1 h2 => rw [h1, h2]
theorem sumN_bump (x : Int) : ∀ R : List TRow, sumN (bump R x) = sumN R + 1
  | [] => rfl
  | r :: t => by
    unfold bump
    by_cases h : r.id = x
    · rw [if_pos h, sumN_cons, sumN_cons]; show r.n + 1 + _ = _; omega
    · rw [if_neg h, sumN_cons, sumN_cons, sumN_bump x t]; omega
theorem sumN_rows (ids : List Int) : sumN (rowsOf ids) = ids.length := by
  have h : ∀ (l : List Int) (R : List TRow), sumN (l.foldl bump R) = sumN R + l.length := fun l => by
    induction l with
    | nil => intro R; simp
    | cons x t ih => intro R; rw [List.foldl_cons, ih, sumN_bump, List.length_cons]; omega
  have := h ids []
  simpa [rowsOf, sumN] using this
/-- The counts, added up, are as many as there are ids. -/
theorem sumN_count (ids : List Int) : sumN (countR ids) = ids.length := by
  unfold countR
  rw [sumN_perm (ordR_perm _), sumN_rows]
/-- What the ids' words hold, less one each: by the rows as by the ids. -/
def valN (f : Int → Int) (l : List TRow) : Int := (l.map fun r => r.n * f r.id).sum
theorem valN_cons (f : Int → Int) (r : TRow) (l : List TRow) : valN f (r :: l) = r.n * f r.id + valN f l := by simp [valN]
theorem valN_perm (f : Int → Int) {l m : List TRow} (h : l.Perm m) : valN f l = valN f m := by
  induction h with
  | nil => rfl
  | cons x _ ih => rw [valN_cons, valN_cons, ih]
  | swap x y l => rw [valN_cons, valN_cons, valN_cons, valN_cons]; omega
  | trans _ _ h1 h2 => rw [h1, h2]
theorem valN_bump (f : Int → Int) (x : Int) : ∀ R : List TRow, valN f (bump R x) = valN f R + f x
  | [] => by simp [valN, bump]
  | r :: t => by
    unfold bump
    by_cases h : r.id = x
    · rw [if_pos h, valN_cons, valN_cons]
      show (r.n + 1) * f r.id + _ = _
      rw [Int.add_mul, Int.one_mul, h]
      omega
    · rw [if_neg h, valN_cons, valN_cons, valN_bump f x t]; omega
theorem valN_rows (f : Int → Int) (ids : List Int) : valN f (rowsOf ids) = (ids.map f).sum := by
  have h : ∀ (l : List Int) (R : List TRow), valN f (l.foldl bump R) = valN f R + (l.map f).sum := fun l => by
    induction l with
    | nil => intro R; simp
    | cons x t ih => intro R; rw [List.foldl_cons, ih, valN_bump, List.map_cons, List.sum_cons]; omega
  have := h ids []
  simpa [rowsOf, valN] using this
theorem valN_count (f : Int → Int) (ids : List Int) : valN f (countR ids) = (ids.map f).sum := by
  unfold countR
  rw [valN_perm f (ordR_perm _), valN_rows]
theorem saved_valN {d : Dat} : ∀ (l : List TRow) (n : Int), (∀ r ∈ l, okId d r.id = true ∧ 0 ≤ r.n ∧ r.n ≤ 2147483648) → savedGo d n l = (n + valN (fun x => ((wb d x).length : Int) - 1) l, 0)
  | [], n, _ => by simp [savedGo, valN]
  | r :: t, n, h => by
    obtain ⟨h1, h2, h3⟩ := h r (.head _)
    unfold savedGo
    rw [if_neg (by rw [h1]; decide), if_neg (by omega), saved_valN t _ (fun q hq => h q (.tail _ hq)), valN_cons]
    simp only [Prod.mk.injEq, and_true]
    omega
theorem saved_count {d : Dat} {ids : List Int} (hi : ∀ x ∈ ids, okId d x = true) (hl : ids.length ≤ 65536) : savedT d (countR ids) = ((ids.map fun x => ((wb d x).length : Int) - 1).sum, 0) := by
  have hc := rowsOf_counts ids
  have hlen : (countR ids).length ≤ ids.length := by
    unfold countR
    rw [ordR_length]
    exact rows_len hc
  unfold savedT
  rw [if_neg (by omega), saved_valN _ _ (fun r hr => by
    unfold countR at hr
    have hr2 := (ordR_perm _).mem_iff.1 hr
    have hp := rows_pos hc r hr2
    have hm : r.id ∈ ids := (hc.mem r.id).1 (List.mem_map.2 ⟨r, hr2, rfl⟩)
    exact ⟨hi _ hm, by omega, by omega⟩), valN_count, Int.zero_add]
theorem usedB_cons (r : TRow) (t : List TRow) (x : Int) : usedB (r :: t) x = ((decide (r.id = x) && decide (0 < r.n)) || usedB t x) := rfl
theorem unused_far (r : TRow) (t : List TRow) : ∀ n : Nat, (n : Int) ≤ r.id → unusedT (r :: t) n = unusedT t n
  | 0, _ => rfl
  | n + 1, h => by
    unfold unusedT
    rw [unused_far r t n (by omega), usedB_cons, decide_eq_false (show ¬ r.id = (n : Int) by omega), Bool.false_and, Bool.false_or]
theorem unused_cons (r : TRow) (t : List TRow) (hp : 0 < r.n) (hf : usedB t r.id = false) : ∀ n : Nat, 0 ≤ r.id → r.id < (n : Int) → (unusedT (r :: t) n).length + 1 = (unusedT t n).length
  | 0, h0, h1 => by omega
  | n + 1, h0, h1 => by
    unfold unusedT
    rw [List.length_append, List.length_append, usedB_cons]
    by_cases h : r.id = (n : Int)
    · rw [unused_far r t n (by omega), decide_eq_true h, decide_eq_true hp, ← h, hf]
      simp
    · have ih := unused_cons r t hp hf n h0 (by omega)
      rw [decide_eq_false h, Bool.false_and, Bool.false_or]
      omega
theorem usedB_none {t : List TRow} {x : Int} (h : x ∉ t.map (·.id)) : usedB t x = false := by
  unfold usedB
  rw [List.any_eq_false]
  intro r hr
  have : ¬ r.id = x := fun e => h (List.mem_map.2 ⟨r, hr, e⟩)
  simp [this]
/-- The ids that stand in no row: as many as are left. -/
theorem unused_len (n : Nat) : ∀ l : List TRow, (l.map (·.id)).Nodup → (∀ r ∈ l, 0 < r.n ∧ 0 ≤ r.id ∧ r.id < (n : Int)) → (unusedT l n).length + l.length = n
  | [], _, _ => by
    have h : ∀ k, (unusedT [] k).length = k := fun k => by
      induction k with
      | zero => rfl
      | succ k ih => unfold unusedT; rw [List.length_append, ih, if_neg (by simp [usedB])]; rfl
    rw [h]; rfl
  | r :: t, hn, h => by
    rw [List.map_cons, List.nodup_cons] at hn
    obtain ⟨h1, h2, h3⟩ := h r (.head _)
    have ih := unused_len n t hn.2 (fun q hq => h q (.tail _ hq))
    have := unused_cons r t h1 (usedB_none hn.1) n h2 h3
    rw [List.length_cons]
    omega
end Go.Proofs.YtigpaaelggnffaaGreatDoor.Ty
