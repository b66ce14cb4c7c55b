/- Merging, pure: the words of the ids; what merging keeps of them; a cut where no step joined across. -/
import Derived.Test.YtbepmbihonnkaaaBpeJoinP
import Derived.Test.YtbepmbihonnkaaaRight
namespace Go.Proofs.Ytbepmbihonnkaaa.Bpe
open Go.RowKit Go.Proofs.Ytbepmbihonnkaaa.Lib Go.Proofs.Ytbepmbihonnkaaa.Sl
set_option linter.unusedVariables false
set_option linter.unusedSimpArgs false

theorem ba_ext {x y : ByteArray} (h : x.data.toList = y.data.toList) : x = y := by
  cases x; cases y
  simp at h
  rw [h]
theorem ba_list (x y : ByteArray) : (x ++ y).data.toList = x.data.toList ++ y.data.toList := by
  rw [ByteArray.data_append]; simp
theorem ba_size (x : ByteArray) : x.data.toList.length = x.size := by rw [Array.length_toList]; rfl

/-- An id's bytes. -/
def wb (d : Dat) (id : Int) : List UInt8 := (wordOf d.ws id).1.data.toList
/-- Ids' bytes, one behind the other. -/
def cat (d : Dat) (l : List Int) : List UInt8 := l.flatMap (wb d)
theorem cat_nil (d : Dat) : cat d [] = [] := rfl
theorem cat_cons (d : Dat) (x : Int) (l : List Int) : cat d (x :: l) = wb d x ++ cat d l := rfl
theorem cat_append (d : Dat) (l m : List Int) : cat d (l ++ m) = cat d l ++ cat d m := by simp [cat]
/-- An id that there is. -/
theorem okId_iff {d : Dat} {id : Int} : okId d id = true ↔ 0 ≤ id ∧ id < 256 + (d.ms.length : Int) := by simp [okId]
theorem wb_pos {d : Dat} (hd : RightD d) {id : Int} (h : okId d id = true) : 0 < (wb d id).length := by
  rw [okId_iff] at h
  unfold wb
  rw [ba_size]
  by_cases h1 : id < 256
  · rw [wordOf_byte h.1 h1]; show 0 < 1; decide
  · obtain ⟨i, hi⟩ : ∃ i : Nat, id = (i : Int) + 256 := ⟨(id - 256).toNat, by omega⟩
    have hl := hd.len
    obtain ⟨s, hs⟩ : ∃ s, d.ws[i]? = some s := ⟨_, List.getElem?_eq_getElem (show i < d.ws.length by omega)⟩
    rw [hi, wordOf_word hs]
    have := hd.words i s hs
    show 0 < s.size
    omega
theorem wb_le {d : Dat} (hd : RightD d) (id : Int) : (wb d id).length ≤ 256 := by
  unfold wb
  rw [ba_size]
  by_cases h : id < 0 ∨ 256 + (d.ws.length : Int) ≤ id
  · rw [wordOf_none h]; decide
  by_cases h1 : id < 256
  · rw [wordOf_byte (by omega) h1]; show 1 ≤ 256; decide
  · obtain ⟨i, hi⟩ : ∃ i : Nat, id = (i : Int) + 256 := ⟨(id - 256).toNat, by omega⟩
    obtain ⟨s, hs⟩ : ∃ s, d.ws[i]? = some s := ⟨_, List.getElem?_eq_getElem (show i < d.ws.length by omega)⟩
    rw [hi, wordOf_word hs]
    exact (hd.words i s hs).2.1
/-- The lists apart at a step's place. -/
theorem At.split {ms : List Mrg} {l : List Int} {i r : Nat} {id : Int} (h : At ms l i r id) : ∃ p a b q, l = p ++ a :: b :: q ∧ p.length = i ∧ mergeOf ms a b = some (r, id) ∧ ∀ y, stepT l i y = p ++ y :: q := by
  obtain ⟨a, b, h1, h2, h3⟩ := h
  obtain ⟨hi, e1⟩ := List.getElem?_eq_some_iff.1 h1
  obtain ⟨hi2, e2⟩ := List.getElem?_eq_some_iff.1 h2
  have e : l = l.take i ++ a :: b :: l.drop (i + 2) := by
    have h4 : l.drop i = a :: l.drop (i + 1) := by rw [← e1]; exact List.drop_eq_getElem_cons hi
    have h5 : l.drop (i + 1) = b :: l.drop (i + 2) := by rw [← e2]; exact List.drop_eq_getElem_cons hi2
    rw [← h5, ← h4, List.take_append_drop]
  have hl : (l.take i).length = i := by rw [List.length_take]; omega
  refine ⟨l.take i, a, b, l.drop (i + 2), e, hl, h3, fun y => ?_⟩
  unfold stepT
  generalize l.take i = p at *
  generalize l.drop (i + 2) = q at *
  subst e
  subst hl
  rw [List.set_append_right _ _ (by omega), Nat.sub_self, List.set_cons_zero, List.eraseIdx_append_of_length_le (by omega)]
  rw [show p.length + 1 - p.length = 1 from by omega]
  rfl
theorem At.mk {ms : List Mrg} {p q : List Int} {a b : Int} {r : Nat} {id : Int} (h : mergeOf ms a b = some (r, id)) : At ms (p ++ a :: b :: q) p.length r id :=
  ⟨a, b, by rw [List.getElem?_append_right (by omega), Nat.sub_self]; rfl, by rw [List.getElem?_append_right (by omega), show p.length + 1 - p.length = 1 from by omega]; rfl, h⟩
/-- What a merge makes. -/
theorem merge_made {d : Dat} (hd : RightD d) {a b : Int} {r : Nat} {id : Int} (h : mergeOf d.ms a b = some (r, id)) :
    okId d id = true ∧ wb d id = wb d a ++ wb d b ∧ okId d a = true ∧ okId d b = true := by
  obtain ⟨x, hx, rfl, rfl, rfl, _⟩ := mergeOf_some h
  have h1 := hd.idr r x hx
  have h2 := hd.wd r x hx
  refine ⟨okId_iff.2 (by omega), ?_, okId_iff.2 (hd.part_range (hd.pl r x hx)), okId_iff.2 (hd.part_range (hd.pr r x hx))⟩
  unfold wb
  rw [h2, ba_list]
theorem step_cat {d : Dat} (hd : RightD d) {l : List Int} {i r : Nat} {id : Int} (h : At d.ms l i r id) : cat d (stepT l i id) = cat d l := by
  obtain ⟨p, a, b, q, rfl, rfl, hm, hs⟩ := h.split
  rw [hs, cat_append, cat_append, cat_cons, cat_cons, cat_cons, (merge_made hd hm).2.1, List.append_assoc]
theorem step_ok {d : Dat} (hd : RightD d) {l : List Int} {i r : Nat} {id : Int} (h : At d.ms l i r id) (ho : ∀ x ∈ l, okId d x = true) : ∀ x ∈ stepT l i id, okId d x = true := by
  obtain ⟨p, a, b, q, rfl, rfl, hm, hs⟩ := h.split
  rw [hs]
  intro x hx
  rw [List.mem_append, List.mem_cons] at hx
  rcases hx with hx | rfl | hx
  · exact ho x (List.mem_append_left _ hx)
  · exact (merge_made hd hm).1
  · exact ho x (List.mem_append_right _ (List.mem_cons_of_mem _ (List.mem_cons_of_mem _ hx)))
/-- By steps. -/
theorem join_ind (ms : List Mrg) {Q : List Int → List Int × List (Nat × Nat) → Prop} (h0 : ∀ l, nextT ms l = none → Q l (l, []))
    (h1 : ∀ l r i id t, nextT ms l = some (r, i, id) → joinT ms (stepT l i id) = t → Q (stepT l i id) t → Q l (t.1, (r, i) :: t.2)) : ∀ l, Q l (joinT ms l) := by
  have key : ∀ n l, l.length ≤ n → Q l (joinT ms l) := by
    intro n
    induction n with
    | zero =>
      intro l hl
      have : l = [] := List.length_eq_zero_iff.1 (by omega)
      subst this
      have : nextT ms [] = none := rfl
      rw [joinT_none this]
      exact h0 _ this
    | succ n ih =>
      intro l hl
      cases e : nextT ms l with
      | none => rw [joinT_none e]; exact h0 l e
      | some t =>
        obtain ⟨r, i, id⟩ := t
        rw [joinT_some e]
        have h2 := (nextT_some e).1.lt
        have h3 := stepT_length (l := l) (i := i) (id := id) (by omega)
        exact h1 l r i id _ e rfl (ih _ (by omega))
  exact fun l => key l.length l (Nat.le_refl _)
theorem join_cat {d : Dat} (hd : RightD d) (l : List Int) : cat d (joinT d.ms l).1 = cat d l :=
  join_ind d.ms (Q := fun l t => cat d t.1 = cat d l) (fun _ _ => rfl) (fun l r i id t h e ih => by rw [← step_cat hd (nextT_some h).1]; exact ih) l
theorem join_end (ms : List Mrg) (l : List Int) : nextT ms (joinT ms l).1 = none :=
  join_ind ms (Q := fun l t => nextT ms t.1 = none) (fun _ h => h) (fun l r i id t h e ih => ih) l
theorem join_ok {d : Dat} (hd : RightD d) (l : List Int) : (∀ x ∈ l, okId d x = true) → ∀ x ∈ (joinT d.ms l).1, okId d x = true :=
  join_ind d.ms (Q := fun l t => (∀ x ∈ l, okId d x = true) → ∀ x ∈ t.1, okId d x = true) (fun _ _ h => h) (fun l r i id t h e ih ho => ih (step_ok hd (nextT_some h).1 ho)) l
theorem join_again (ms : List Mrg) (l : List Int) : joinT ms (joinT ms l).1 = ((joinT ms l).1, []) := joinT_none (join_end ms l)
theorem join_len (ms : List Mrg) (l : List Int) : (joinT ms l).1.length + (joinT ms l).2.length = l.length :=
  join_ind ms (Q := fun l t => t.1.length + t.2.length = l.length) (fun _ _ => rfl) (fun l r i id t h e ih => by
    have h2 := (nextT_some h).1.lt
    have h3 := stepT_length (l := l) (i := i) (id := id) (by omega)
    simp only [List.length_cons]
    omega) l
theorem join_le (ms : List Mrg) (l : List Int) : (joinT ms l).1.length ≤ l.length := by have := join_len ms l; omega

/-! ### a text's bytes -/
def bytesL (s : ByteArray) : List Int := s.data.toList.map fun b => (b.toNat : Int)
theorem bytesL_length (s : ByteArray) : (bytesL s).length = s.size := by unfold bytesL; rw [List.length_map, ba_size]
theorem bytesL_get {s : ByteArray} {i : Nat} (h : i < s.size) : (bytesL s)[i]? = some (s.data[i].toNat : Int) := by
  unfold bytesL
  rw [List.getElem?_map, Array.getElem?_toList, Array.getElem?_eq_getElem h]
  rfl
theorem bytes_range {s : ByteArray} {x : Int} (h : x ∈ bytesL s) : 0 ≤ x ∧ x < 256 := by
  unfold bytesL at h
  obtain ⟨b, _, rfl⟩ := List.mem_map.1 h
  have := b.toNat_lt
  omega
theorem bytes_ok (d : Dat) {s : ByteArray} : ∀ x ∈ bytesL s, okId d x = true := fun x h => by
  have := bytes_range h
  exact okId_iff.2 (by omega)
theorem wb_byte (d : Dat) (b : UInt8) : wb d (b.toNat : Int) = [b] := by
  unfold wb
  have := b.toNat_lt
  rw [wordOf_byte (by omega) (by omega)]
  simp
theorem cat_bytes (d : Dat) (s : ByteArray) : cat d (bytesL s) = s.data.toList := by
  unfold cat bytesL
  generalize s.data.toList = l
  induction l with
  | nil => rfl
  | cons b l ih => rw [List.map_cons, List.flatMap_cons, ih, wb_byte]; rfl

/-! ### a cut where no step joined across -/
theorem cat_pos {d : Dat} (hd : RightD d) : ∀ {l : List Int}, (∀ x ∈ l, okId d x = true) → l.length ≤ (cat d l).length := by
  intro l
  induction l with
  | nil => intro _; exact Nat.zero_le _
  | cons x l ih =>
    intro h
    have h1 := wb_pos hd (h x (List.mem_cons_self ..))
    have h2 := ih (fun y hy => h y (List.mem_cons_of_mem _ hy))
    rw [cat_cons, List.length_append, List.length_cons]
    omega
/-- Two beginnings of one list whose words are as long are the same. -/
theorem cat_begin {d : Dat} (hd : RightD d) : ∀ (a b c e : List Int), (∀ x ∈ a ++ b, okId d x = true) → a ++ b = c ++ e → (cat d a).length = (cat d c).length → a = c ∧ b = e := by
  intro a
  induction a with
  | nil =>
    intro b c e ho h hl
    cases c with
    | nil => exact ⟨rfl, h⟩
    | cons y c =>
      exfalso
      rw [List.nil_append] at h ho
      subst h
      have := wb_pos hd (ho y (by simp))
      rw [cat_cons, List.length_append, cat_nil, List.length_nil] at hl
      omega
  | cons x a ih =>
    intro b c e ho h hl
    cases c with
    | nil =>
      exfalso
      have := wb_pos hd (ho x (by simp))
      rw [cat_cons, List.length_append, cat_nil, List.length_nil] at hl
      omega
    | cons y c =>
      rw [List.cons_append, List.cons_append] at h
      injection h with h1 h2
      subst h1
      rw [cat_cons, cat_cons, List.length_append, List.length_append] at hl
      obtain ⟨rfl, rfl⟩ := ih b c e (fun z hz => ho z (List.mem_cons_of_mem _ hz)) h2 (by omega)
      exact ⟨rfl, rfl⟩
/-- Where a token ends: by so many bytes. -/
def Ends (d : Dat) (l : List Int) (n : Nat) : Prop := ∃ a b, l = a ++ b ∧ (cat d a).length = n
theorem Ends.back {d : Dat} (hd : RightD d) {l : List Int} {i r : Nat} {id : Int} (h : At d.ms l i r id) {n : Nat} (he : Ends d (stepT l i id) n) : Ends d l n := by
  obtain ⟨p, u, v, q, rfl, rfl, hm, hs⟩ := h.split
  obtain ⟨a, b, h1, h2⟩ := he
  rw [hs] at h1
  rcases List.append_eq_append_iff.1 h1 with ⟨c, rfl, h3⟩ | ⟨c, rfl, h3⟩
  · cases c with
    | nil =>
      simp at h3
      exact ⟨p, u :: v :: q, rfl, by rw [List.append_nil] at h2; exact h2⟩
    | cons z c =>
      rw [List.cons_append] at h3
      injection h3 with h4 h5
      subst h4 h5
      refine ⟨p ++ u :: v :: c, b, by simp, ?_⟩
      rw [← h2, cat_append, cat_append, cat_cons, cat_cons, cat_cons, (merge_made hd hm).2.1, List.append_assoc]
  · exact ⟨a, c ++ u :: v :: q, by simp, h2⟩
theorem Ends.join {d : Dat} (hd : RightD d) {l : List Int} {n : Nat} : Ends d (joinT d.ms l).1 n → Ends d l n :=
  join_ind d.ms (Q := fun l t => Ends d t.1 n → Ends d l n) (fun _ _ h => h) (fun l r i id t h e ih ho => (ih ho).back hd (nextT_some h).1) l
theorem at_left {ms : List Mrg} {a b : List Int} {i r : Nat} {id : Int} (h : At ms a i r id) : At ms (a ++ b) i r id := by
  obtain ⟨x, y, h1, h2, h3⟩ := h
  exact ⟨x, y, (List.getElem?_append_left (List.getElem?_eq_some_iff.1 h1).1).trans h1, (List.getElem?_append_left (List.getElem?_eq_some_iff.1 h2).1).trans h2, h3⟩
theorem at_right {ms : List Mrg} {a b : List Int} {i r : Nat} {id : Int} (h : At ms b i r id) : At ms (a ++ b) (a.length + i) r id := by
  obtain ⟨x, y, h1, h2, h3⟩ := h
  refine ⟨x, y, ?_, ?_, h3⟩
  · rw [List.getElem?_append_right (by omega), Nat.add_sub_cancel_left]; exact h1
  · rw [List.getElem?_append_right (by omega), show a.length + i + 1 - a.length = i + 1 from by omega]; exact h2
theorem at_cases {ms : List Mrg} {a b : List Int} {i r : Nat} {id : Int} (h : At ms (a ++ b) i r id) : (i + 1 < a.length ∧ At ms a i r id) ∨ i + 1 = a.length ∨ ∃ j, i = a.length + j ∧ At ms b j r id := by
  obtain ⟨x, y, h1, h2, h3⟩ := h
  rcases Nat.lt_trichotomy (i + 1) a.length with hh | hh | hh
  · refine .inl ⟨hh, x, y, ?_, ?_, h3⟩
    · rwa [List.getElem?_append_left (by omega)] at h1
    · rwa [List.getElem?_append_left (by omega)] at h2
  · exact .inr (.inl hh)
  · refine .inr (.inr ⟨i - a.length, by omega, x, y, ?_, ?_, h3⟩)
    · rwa [List.getElem?_append_right (by omega)] at h1
    · rw [List.getElem?_append_right (by omega)] at h2
      rwa [show i + 1 - a.length = i - a.length + 1 from by omega] at h2
theorem step_left {a b : List Int} {i : Nat} {id : Int} (h : i + 1 < a.length) : stepT (a ++ b) i id = stepT a i id ++ b := by
  unfold stepT
  rw [List.set_append_left _ _ (by omega), List.eraseIdx_append_of_lt_length (by rw [List.length_set]; exact h)]
theorem step_right {a b : List Int} {j : Nat} {id : Int} : stepT (a ++ b) (a.length + j) id = a ++ stepT b j id := by
  unfold stepT
  rw [List.set_append_right _ _ (by omega), List.eraseIdx_append_of_length_le (by omega)]
  rw [show a.length + j - a.length = j from by omega, show a.length + j + 1 - a.length = j + 1 from by omega]
theorem cut_join {d : Dat} (hd : RightD d) (l : List Int) : ∀ a b, l = a ++ b → (∀ x ∈ l, okId d x = true) → Ends d (joinT d.ms l).1 (cat d a).length → (joinT d.ms l).1 = (joinT d.ms a).1 ++ (joinT d.ms b).1 := by
  refine join_ind d.ms (Q := fun l t => ∀ a b, l = a ++ b → (∀ x ∈ l, okId d x = true) → Ends d t.1 (cat d a).length → t.1 = (joinT d.ms a).1 ++ (joinT d.ms b).1) ?_ ?_ l
  · intro l hn a b e ho he
    subst e
    have ha : nextT d.ms a = none := nextT_no fun j r id hc => nextT_none hn _ _ _ (at_left hc)
    have hb : nextT d.ms b = none := nextT_no fun j r id hc => nextT_none hn _ _ _ (at_right hc)
    rw [joinT_none ha, joinT_none hb]
  · intro l r i id t hn et ih a b e ho he
    subst e
    have hs := nextT_some hn
    have ho2 := step_ok hd hs.1 ho
    rcases at_cases hs.1 with ⟨hi, hat⟩ | hi | ⟨j, rfl, hat⟩
    · have ha : nextT d.ms a = some (r, i, id) := nextT_is ⟨hat, fun j r' id' hc => hs.2 _ _ _ (at_left hc)⟩
      rw [joinT_some ha]
      rw [step_left hi] at ih ho2
      exact ih _ b rfl ho2 (by rw [step_cat hd hat]; exact he)
    · exfalso
      have he2 := Ends.join hd (n := (cat d a).length) (l := stepT (a ++ b) i id) (by rw [et]; exact he)
      obtain ⟨p, u, v, q, e1, e2, hm, hst⟩ := hs.1.split
      rw [hst] at he2 ho2
      obtain ⟨ok, hw, oku, okv⟩ := merge_made hd hm
      -- a = p ++ [u], b = v :: q
      have hab : a = p ++ [u] ∧ b = v :: q := by
        have : (a ++ b) = (p ++ [u]) ++ (v :: q) := by rw [e1]; simp
        exact List.append_inj this (by simp; omega)
      obtain ⟨rfl, rfl⟩ := hab
      have hu := wb_pos hd oku
      have hv := wb_pos hd okv
      obtain ⟨a1, b1, h1, h2⟩ := he2
      rw [cat_append, cat_cons, cat_nil, List.append_nil, List.length_append] at h2
      rcases List.append_eq_append_iff.1 h1 with ⟨c, rfl, h3⟩ | ⟨c, rfl, h3⟩
      · cases c with
        | nil => rw [List.append_nil] at h2; omega
        | cons z c =>
          rw [List.cons_append] at h3
          injection h3 with h4 h5
          subst h4
          rw [cat_append, cat_cons, List.length_append, List.length_append, hw, List.length_append] at h2
          omega
      · rw [cat_append, List.length_append] at h2
        omega
    · have hb : nextT d.ms b = some (r, j, id) := nextT_is ⟨hat, fun j' r' id' hc => by
        have := hs.2 _ _ _ (at_right (a := a) hc)
        omega⟩
      rw [joinT_some hb]
      rw [step_right] at ih ho2
      exact ih a _ rfl ho2 he
/-! ### ranks rise or stay -/
theorem rank_rise {d : Dat} (hd : RightD d) {l : List Int} {r i r2 i2 : Nat} {id id2 : Int} (h : nextT d.ms l = some (r, i, id)) (h2 : nextT d.ms (stepT l i id) = some (r2, i2, id2)) : r ≤ r2 := by
  have hs := nextT_some h
  obtain ⟨p, a, b, q, rfl, rfl, hm, hst⟩ := hs.1.split
  have hs2 := (nextT_some h2).1
  rw [hst] at hs2
  obtain ⟨p2, a2, b2, q2, e, rfl, hm2, _⟩ := hs2.split
  obtain ⟨x, hx, _, _, hxi, _⟩ := mergeOf_some hm
  obtain ⟨y, hy, hyl, hyr, _, _⟩ := mergeOf_some hm2
  have part : ∀ z, madeB (d.ms.take r2) z = true → z = id → r < r2 := by
    intro z hz ez
    rcases part_cases hz with hh | ⟨j, u, hj, hu, hi⟩
    · have := hd.idr r x hx
      omega
    · have := hd.id_inj hu hx (by rw [hi, ez, hxi])
      omega
  by_cases ha : a2 = id
  · exact Nat.le_of_lt (part a2 (hyl ▸ hd.pl r2 y hy) ha)
  by_cases hb : b2 = id
  · exact Nat.le_of_lt (part b2 (hyr ▸ hd.pr r2 y hy) hb)
  have old : ∀ i', At d.ms (p ++ a :: b :: q) i' r2 id2 → r ≤ r2 := fun i' hc => by
    have := hs.2 _ _ _ hc
    omega
  rcases List.append_eq_append_iff.1 e with ⟨c, rfl, h3⟩ | ⟨c, rfl, h3⟩
  · cases c with
    | nil =>
      rw [List.nil_append] at h3
      injection h3 with h4 h5
      exact absurd h4.symm ha
    | cons z c =>
      rw [List.cons_append] at h3
      injection h3 with h4 h5
      subst h5
      refine old (p.length + 2 + c.length) ?_
      have := At.mk (p := p ++ a :: b :: c) (q := q2) hm2
      rw [List.length_append, List.length_cons, List.length_cons] at this
      simpa [Nat.add_assoc, Nat.add_comm, Nat.add_left_comm] using this
  · cases c with
    | nil =>
      rw [List.nil_append] at h3
      injection h3 with h4 h5
      exact absurd h4 ha
    | cons z c =>
      rw [List.cons_append] at h3
      injection h3 with h4 h5
      subst h4
      cases c with
      | nil =>
        rw [List.nil_append] at h5
        injection h5 with h6 h7
        exact absurd h6 hb
      | cons z c =>
        rw [List.cons_append] at h5
        injection h5 with h6 h7
        subst h6
        refine old p2.length ?_
        have := At.mk (p := p2) (q := c ++ a :: b :: q) hm2
        simpa using this
end Go.Proofs.Ytbepmbihonnkaaa.Bpe
