/- Where tokens end; the ids of a text are ids of the model, and their words no longer than the text. Plain law. -/
import Derived.Test.YtigpaaelggnffaaGreatDoorEncode
namespace Go.Proofs.YtigpaaelggnffaaGreatDoor.Cut
open Go.RowKit Go.Proofs.YtigpaaelggnffaaGreatDoor.Lib Go.Proofs.YtigpaaelggnffaaGreatDoor.Sl Go.Proofs.YtigpaaelggnffaaGreatDoor.Bpe
set_option linter.unusedVariables false
set_option linter.unusedSimpArgs false

/-- Where the j-th token ends. -/
def toT (d : Dat) (ids : List Int) (j : Nat) : Nat := (cat d (ids.take j)).length
theorem toT_zero (d : Dat) (ids : List Int) : toT d ids 0 = 0 := rfl
theorem toT_succ {d : Dat} {ids : List Int} {j : Nat} {x : Int} (h : ids[j]? = some x) : toT d ids (j + 1) = toT d ids j + (wb d x).length := by
  unfold toT
  rw [List.take_add_one, h, cat_append]
  simp [cat]
theorem toT_le (d : Dat) (ids : List Int) (j : Nat) : toT d ids j ≤ (cat d ids).length := by
  have := congrArg (fun l => (cat d l).length) (List.take_append_drop j ids)
  simp only [cat_append, List.length_append] at this
  unfold toT
  omega
theorem piece_cat {d : Dat} (hd : RightD d) (s : ByteArray) (x : Tok) : cat d (pieceT d s x) = (s.extract x.a x.b).data.toList := by
  unfold pieceT
  rw [join_cat hd, cat_bytes]
theorem piece_ok {d : Dat} (hd : RightD d) (s : ByteArray) (x : Tok) : ∀ y ∈ pieceT d s x, okId d y = true := join_ok hd _ (bytes_ok d)
theorem ids_ok {d : Dat} (hd : RightD d) (s : ByteArray) (l : List Tok) : ∀ y ∈ idsOf d s l, okId d y = true := fun y hy => by
  obtain ⟨x, _, h⟩ := List.mem_flatMap.1 hy
  exact piece_ok hd s x y h
theorem toks_sum (d : Dat) (s : ByteArray) : ∀ (f k : Nat), k ≤ s.size → ((toksGo d s f k).map fun x => x.b - x.a).sum ≤ s.size - k := by
  intro f
  induction f with
  | zero => intro k _; exact Nat.zero_le _
  | succ f ih =>
    intro k hk
    by_cases h : k < s.size
    · have hb := tokAt_bd (d := d) h
      have e : toksGo d s (f + 1) k = tokAt d s k :: toksGo d s f (tokAt d s k).b := by conv => lhs; unfold toksGo; rw [if_pos h]
      have := ih (tokAt d s k).b hb.2
      have ea : (tokAt d s k).a = k := rfl
      rw [e]
      simp only [List.map_cons, List.sum_cons]
      omega
    · rw [toksGo_end (by omega)]; simp
theorem take_sum {α : Type} (f : α → Nat) (p : α → Bool) : ∀ l : List α, ((l.takeWhile p).map f).sum ≤ (l.map f).sum
  | [] => Nat.le_refl _
  | x :: l => by
    have := take_sum f p l
    rw [List.takeWhile_cons]
    split
    · simp only [List.map_cons, List.sum_cons]; omega
    · simp
theorem ids_cat {d : Dat} (hd : RightD d) (s : ByteArray) : ∀ l : List Tok, (cat d (idsOf d s l)).length ≤ (l.map fun x => x.b - x.a).sum
  | [] => Nat.le_refl _
  | x :: l => by
    have := ids_cat hd s l
    have e : idsOf d s (x :: l) = pieceT d s x ++ idsOf d s l := rfl
    rw [e, cat_append, List.length_append, piece_cat hd]
    simp only [List.map_cons, List.sum_cons, ba_size, ByteArray.size_extract]
    omega
theorem encT_cat {d : Dat} (hd : RightD d) (most : Int) (s : ByteArray) : (cat d (encT d most s).1).length ≤ s.size :=
  Nat.le_trans (ids_cat hd s _) (Nat.le_trans (take_sum _ _ _) (toks_sum d s _ 0 (Nat.zero_le _)))
theorem encT_ok {d : Dat} (hd : RightD d) (most : Int) (s : ByteArray) : ∀ y ∈ (encT d most s).1, okId d y = true := ids_ok hd s _

theorem IsCut.of_good {w : World} {a : Nat} {d : Dat} (hm : IsModel w a d) (hg : good d = true) : IsCut w a d := by
  have h5 : (check5 d).1 = 0 := by
    unfold good at hg
    simp only [Bool.and_eq_true, decide_eq_true_eq] at hg
    exact hg.2
  have h4 : (check4 d.ls d.ns d.ss).1 = 0 := by
    unfold check5 at h5
    by_cases c1 : 4096 < d.ms.length
    · rw [if_pos c1] at h5; cases h5
    rw [if_neg c1] at h5
    by_cases c2 : d.ws.length ≠ d.ms.length
    · rw [if_pos c2] at h5; cases h5
    rw [if_neg c2] at h5
    by_cases c3 : (check4 d.ls d.ns d.ss).1 ≠ 0
    · rw [if_pos c3] at h5; exact absurd h5 c3
    · exact Classical.not_not.1 c3
  unfold check4 at h4
  by_cases c1 : 512 < d.ls.length
  · rw [if_pos c1] at h4; cases h4
  rw [if_neg c1] at h4
  by_cases c2 : 512 < d.ns.length
  · rw [if_pos c2] at h4; cases h4
  rw [if_neg c2] at h4
  by_cases c3 : 512 < d.ss.length
  · rw [if_pos c3] at h4; cases h4
  rw [if_neg c3] at h4
  by_cases c4 : (right d.ls).2 ≠ 0
  · rw [if_pos c4] at h4; exact absurd h4 c4
  rw [if_neg c4] at h4
  by_cases c5 : (right d.ns).2 ≠ 0
  · rw [if_pos c5] at h4; exact absurd h4 c5
  rw [if_neg c5] at h4
  by_cases c6 : (right d.ss).2 ≠ 0
  · rw [if_pos c6] at h4; exact absurd h4 c6
  exact ⟨hm, right_ok (Classical.not_not.1 c4), right_ok (Classical.not_not.1 c5), right_ok (Classical.not_not.1 c6)⟩
end Go.Proofs.YtigpaaelggnffaaGreatDoor.Cut
