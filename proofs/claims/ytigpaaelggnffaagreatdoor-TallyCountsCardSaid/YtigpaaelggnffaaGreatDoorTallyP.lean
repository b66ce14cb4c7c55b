/- Rows of ids and how often they stand there: their order, and what counting gives. Plain, no program in sight. -/
import Derived.Test.YtigpaaelggnffaaGreatDoorSpanPure
import Derived.Test.YtigpaaelggnffaaGreatDoorSortI
namespace Go.Proofs.YtigpaaelggnffaaGreatDoor.Ty
open Go.Sort Go.RowKit Go.Proofs.YtigpaaelggnffaaGreatDoor.Lib Go.Proofs.YtigpaaelggnffaaGreatDoor.Sl Go.Proofs.YtigpaaelggnffaaGreatDoor.St
set_option linter.unusedVariables false
set_option linter.unusedSimpArgs false

structure TRow where
  id : Int
  n : Int
  deriving DecidableEq, Inhabited
def eTR : En TRow := ⟨2, fun x => [.int .i64 x.id, .int .i64 x.n], by decide, fun _ => rfl, by simp [Value.oneCell']⟩
/-- What stands first: more often, then the lesser id. -/
def ltR (a b : TRow) : Bool := decide (b.n < a.n) || (decide (b.n = a.n) && decide (a.id < b.id))
theorem ltR_iff (a b : TRow) : ltR a b = true ↔ b.n < a.n ∨ (b.n = a.n ∧ a.id < b.id) := by simp [ltR]
theorem ltR_false (a b : TRow) : ltR a b = false ↔ ¬ (b.n < a.n ∨ (b.n = a.n ∧ a.id < b.id)) := by rw [← ltR_iff]; simp
theorem swoR : SWO ltR where
  irrefl x := by rw [ltR_false]; omega
  trans x y z h1 h2 := by rw [ltR_iff] at *; omega
  ntrans x y z h1 h2 := by rw [ltR_false] at *; omega
theorem ltR_anti (x y : TRow) (h1 : ltR x y = false) (h2 : ltR y x = false) : x = y := by
  rw [ltR_false] at h1 h2
  cases x; cases y
  simp only [TRow.mk.injEq] at *
  omega
/-- The rows in their order. -/
def ordR (l : List TRow) : List TRow := l.mergeSort (fun x y => !ltR y x)
theorem ordR_perm (l : List TRow) : (ordR l).Perm l := List.mergeSort_perm _ _
theorem ordR_length (l : List TRow) : (ordR l).length = l.length := (ordR_perm l).length_eq
theorem ordR_sorted (l : List TRow) : (ordR l).Pairwise fun x y => ltR y x = false := by
  have := List.pairwise_mergeSort (le := fun x y => !ltR y x) (by
    intro a b c h1 h2
    simp only [Bool.not_eq_true'] at h1 h2 ⊢
    exact swoR.ntrans c b a h2 h1) (by
    intro a b
    cases h : ltR b a with
    | false => simp
    | true => simp [swoR.asymmA h]) l
  exact this.imp fun h => by simpa using h
/-- Sorted, of these rows: there is one such list. -/
theorem sorted_one {l m : List TRow} (hp : l.Perm m) (hl : l.Pairwise fun x y => ltR y x = false) (hm : m.Pairwise fun x y => ltR y x = false) : l = m :=
  List.Perm.eq_of_pairwise (le := fun x y => ltR y x = false) (fun a b _ _ h1 h2 => ltR_anti a b h2 h1) hl hm hp
theorem ordR_of_perm {l m : List TRow} (hp : l.Perm m) : ordR l = ordR m :=
  sorted_one ((ordR_perm l).trans (hp.trans (ordR_perm m).symm)) (ordR_sorted l) (ordR_sorted m)
theorem ordR_is {l m : List TRow} (hp : l.Perm m) (hl : l.Pairwise fun x y => ltR y x = false) : l = ordR m := sorted_one (hp.trans (ordR_perm m).symm) hl (ordR_sorted m)
/-- What the sort leaves is the rows in their order. -/
theorem sort_ord {d d' : Array TRow} (h : PermIn 0 d.size d d' ∧ Srt ltR 0 d.size d') : d'.toList = ordR d.toList := by
  have := sorted_unique_holds (lt := ltR) swoR ltR_anti d d' h.1 h.2
  exact this
/-- One row more often, or a new one. -/
def bump : List TRow → Int → List TRow
  | [], x => [⟨x, 1⟩]
  | r :: t, x => if r.id = x then ⟨r.id, r.n + 1⟩ :: t else r :: bump t x
/-- Rows of ids, as they come. -/
def rowsOf (ids : List Int) : List TRow := ids.foldl bump []
theorem rowsOf_snoc (ids : List Int) (x : Int) : rowsOf (ids ++ [x]) = bump (rowsOf ids) x := by simp [rowsOf]
/-- Each id once, as often as it stands there. -/
structure Counts (ids : List Int) (R : List TRow) : Prop where
  nodup : (R.map (·.id)).Nodup
  count : ∀ r ∈ R, r.n = (ids.count r.id : Int)
  mem : ∀ x, x ∈ R.map (·.id) ↔ x ∈ ids
theorem bump_ids (x : Int) : ∀ R : List TRow, (bump R x).map (·.id) = if x ∈ R.map (·.id) then R.map (·.id) else R.map (·.id) ++ [x]
  | [] => by simp [bump]
  | r :: t => by
    have := bump_ids x t
    unfold bump
    by_cases h : r.id = x
    · rw [if_pos h]; simp [h]
    · rw [if_neg h, List.map_cons, this, List.map_cons]
      by_cases h2 : x ∈ t.map (·.id)
      · rw [if_pos h2, if_pos (List.mem_cons_of_mem _ h2)]
      · rw [if_neg h2, if_neg (by simp only [List.mem_cons, not_or]; exact ⟨fun e => h e.symm, h2⟩)]; rfl
theorem bump_mem (x : Int) : ∀ (R : List TRow), (R.map (·.id)).Nodup → ∀ r ∈ bump R x, (r.id ≠ x ∧ r ∈ R) ∨ (r.id = x ∧ ∃ q ∈ R, q.id = x ∧ r.n = q.n + 1) ∨ (r = ⟨x, 1⟩ ∧ x ∉ R.map (·.id))
  | [], _, r, hr => by
    have : r = ⟨x, 1⟩ := by simpa [bump] using hr
    exact .inr (.inr ⟨this, by simp⟩)
  | q :: t, hn, r, hr => by
    unfold bump at hr
    rw [List.map_cons, List.nodup_cons] at hn
    by_cases h : q.id = x
    · rw [if_pos h] at hr
      rcases List.mem_cons.1 hr with e | hr
      · exact .inr (.inl ⟨by rw [e]; exact h, q, .head _, h, by rw [e]⟩)
      · refine .inl ⟨fun e => hn.1 ?_, List.mem_cons_of_mem _ hr⟩
        rw [h, ← e]
        exact List.mem_map.2 ⟨r, hr, rfl⟩
    · rw [if_neg h] at hr
      rcases List.mem_cons.1 hr with e | hr
      · exact .inl ⟨by rw [e]; exact h, by rw [e]; exact .head _⟩
      · rcases bump_mem x t hn.2 r hr with ⟨h1, h2⟩ | ⟨h1, p, h2, h3, h4⟩ | ⟨h1, h2⟩
        · exact .inl ⟨h1, List.mem_cons_of_mem _ h2⟩
        · exact .inr (.inl ⟨h1, p, List.mem_cons_of_mem _ h2, h3, h4⟩)
        · refine .inr (.inr ⟨h1, ?_⟩)
          simp only [List.map_cons, List.mem_cons, not_or]
          exact ⟨fun e => h e.symm, h2⟩
theorem Counts.bump {ids : List Int} {R : List TRow} (h : Counts ids R) (x : Int) : Counts (ids ++ [x]) (Ty.bump R x) := by
  refine ⟨?_, fun r hr => ?_, fun y => ?_⟩
  · rw [bump_ids]
    split
    · exact h.nodup
    · rename_i hx
      rw [List.nodup_append]
      exact ⟨h.nodup, by simp, fun a ha b hb => by simp only [List.mem_singleton] at hb; rw [hb]; exact fun e => hx (e ▸ ha)⟩
  · rw [List.count_append, List.count_singleton]
    rcases bump_mem x R h.nodup r hr with ⟨h1, h2⟩ | ⟨h1, q, h2, h3, h4⟩ | ⟨h1, h2⟩
    · rw [h.count r h2]
      simp [Ne.symm h1]
    · rw [h4, h.count q h2, h3, h1]
      simp
    · have : ids.count x = 0 := List.count_eq_zero.2 fun hx => h2 ((h.mem x).2 hx)
      rw [h1]
      simp [this]
  · rw [bump_ids, List.mem_append, List.mem_singleton, ← h.mem y]
    split
    · rename_i hx
      refine ⟨fun h => .inl h, fun h => h.elim id (fun e => by rw [e]; exact hx)⟩
    · rw [List.mem_append, List.mem_singleton]
theorem rowsOf_counts (ids : List Int) : Counts ids (rowsOf ids) := by
  have go : ∀ (l a : List Int) (R : List TRow), Counts a R → Counts (a ++ l) (l.foldl Ty.bump R) := by
    intro l
    induction l with
    | nil => intro a R h; rw [List.append_nil]; exact h
    | cons x t ih =>
      intro a R h
      have := ih (a ++ [x]) (Ty.bump R x) (h.bump x)
      rw [List.append_assoc] at this
      exact this
  exact go ids [] [] ⟨by simp, by simp, by simp⟩
theorem Counts.perm {ids ids' : List Int} {R R' : List TRow} (h : Counts ids R) (h' : Counts ids' R') (hp : ∀ x, ids.count x = ids'.count x) : R.Perm R' := by
  have nd : ∀ {R : List TRow}, (R.map (·.id)).Nodup → R.Nodup := fun h => (List.pairwise_map.1 h).imp fun q e => q (by rw [e])
  refine (List.perm_ext_iff_of_nodup (nd h.nodup) (nd h'.nodup)).2 fun r => ?_
  have key : ∀ {ids ids' : List Int} {R R' : List TRow}, Counts ids R → Counts ids' R' → (∀ x, ids.count x = ids'.count x) → r ∈ R → r ∈ R' := by
    intro ids ids' R R' h h' hp hr
    have h1 : r.id ∈ ids := (h.mem r.id).1 (List.mem_map.2 ⟨r, hr, rfl⟩)
    have h2 : r.id ∈ ids' := List.count_pos_iff.1 (by rw [← hp]; exact List.count_pos_iff.2 h1)
    obtain ⟨q, hq, he⟩ := List.mem_map.1 ((h'.mem r.id).2 h2)
    have : q = r := by
      have e1 := h.count r hr
      have e2 := h'.count q hq
      rw [he, ← hp] at e2
      cases q; cases r
      simp only [TRow.mk.injEq] at *
      exact ⟨he, by omega⟩
    rw [← this]; exact hq
  exact ⟨key h h' hp, key h' h fun x => (hp x).symm⟩
/-- What counting gives. -/
def countR (ids : List Int) : List TRow := ordR (rowsOf ids)
theorem countR_eq {ids ids' : List Int} (hp : ∀ x, ids.count x = ids'.count x) : countR ids = countR ids' := ordR_of_perm ((rowsOf_counts ids).perm (rowsOf_counts ids') hp)
theorem rows_pos {ids : List Int} {R : List TRow} (h : Counts ids R) : ∀ r ∈ R, 1 ≤ r.n ∧ r.n ≤ ids.length := fun r hr => by
  have h1 : r.id ∈ ids := (h.mem r.id).1 (List.mem_map.2 ⟨r, hr, rfl⟩)
  have h2 := List.count_pos_iff.2 h1
  have h3 := List.count_le_length (a := r.id) (l := ids)
  have h4 := h.count r hr
  omega
theorem bump_length (x : Int) : ∀ R : List TRow, (bump R x).length ≤ R.length + 1
  | [] => Nat.le_refl _
  | r :: t => by
    have := bump_length x t
    unfold bump
    split
    · simp
    · simp only [List.length_cons]; omega
theorem rows_len {ids : List Int} {R : List TRow} (h : Counts ids R) : R.length ≤ ids.length := by
  rw [(h.perm (rowsOf_counts ids) fun _ => rfl).length_eq]
  have go : ∀ (l : List Int) (R : List TRow), (l.foldl bump R).length ≤ R.length + l.length := by
    intro l
    induction l with
    | nil => intro R; exact Nat.le_refl _
    | cons x t ih =>
      intro R
      have h1 := ih (bump R x)
      have h2 := bump_length x R
      simp only [List.foldl_cons, List.length_cons]
      omega
  have := go ids []
  rw [List.length_nil, Nat.zero_add] at this
  exact this
end Go.Proofs.YtigpaaelggnffaaGreatDoor.Ty
