/- Merged of BpeCatP, BpeMerge, BridgeL, Encode. -/
import Derived.Test.YtigpaaelggnffaaGreatDoorBpeJoined
import Derived.Test.YtigpaaelggnffaaGreatDoorRight
import Derived.Test.YtigpaaelggnffaaGreatDoorHeapBa
import Derived.Sort.CutIn
/- Merging, pure: the words of the ids; what merging keeps of them; a cut where no step joined across. -/
namespace Go.Proofs.YtigpaaelggnffaaGreatDoor.Bpe
open Go.RowKit Go.Proofs.YtigpaaelggnffaaGreatDoor.Lib Go.Proofs.YtigpaaelggnffaaGreatDoor.Sl
set_option linter.unusedVariables false
set_option linter.unusedSimpArgs false

theorem ba_ext {x y : ByteArray} (h : x.data.toList = y.data.toList) : x = y := by
  cases x; cases y
  simp at h
  rw [h]
theorem ba_list (x y : ByteArray) : (x ++ y).data.toList = x.data.toList ++ y.data.toList := by
  rw [ByteArray.data_append]; simp
theorem ba_size (x : ByteArray) : x.data.toList.length = x.size := by rw [Array.length_toList]; rfl

/-- An id's bytes. -/
def wb (d : Dat) (id : Int) : List UInt8 := (wordOf d.ws id).1.data.toList
/-- Ids' bytes, one behind the other. -/
def cat (d : Dat) (l : List Int) : List UInt8 := l.flatMap (wb d)
theorem cat_nil (d : Dat) : cat d [] = [] := rfl
theorem cat_cons (d : Dat) (x : Int) (l : List Int) : cat d (x :: l) = wb d x ++ cat d l := rfl
theorem cat_append (d : Dat) (l m : List Int) : cat d (l ++ m) = cat d l ++ cat d m := by simp [cat]
/-- An id that there is. -/
theorem okId_iff {d : Dat} {id : Int} : okId d id = true ↔ 0 ≤ id ∧ id < 256 + (d.ms.length : Int) := by simp [okId]
theorem wb_pos {d : Dat} (hd : RightD d) {id : Int} (h : okId d id = true) : 0 < (wb d id).length := by
  rw [okId_iff] at h
  unfold wb
  rw [ba_size]
  by_cases h1 : id < 256
  · rw [wordOf_byte h.1 h1]; show 0 < 1; decide
  · obtain ⟨i, hi⟩ : ∃ i : Nat, id = (i : Int) + 256 := ⟨(id - 256).toNat, by omega⟩
    have hl := hd.len
    obtain ⟨s, hs⟩ : ∃ s, d.ws[i]? = some s := ⟨_, List.getElem?_eq_getElem (show i < d.ws.length by omega)⟩
    rw [hi, wordOf_word hs]
    have := hd.words i s hs
    show 0 < s.size
    omega
theorem wb_le {d : Dat} (hd : RightD d) (id : Int) : (wb d id).length ≤ 256 := by
  unfold wb
  rw [ba_size]
  by_cases h : id < 0 ∨ 256 + (d.ws.length : Int) ≤ id
  · rw [wordOf_none h]; decide
  by_cases h1 : id < 256
  · rw [wordOf_byte (by omega) h1]; show 1 ≤ 256; decide
  · obtain ⟨i, hi⟩ : ∃ i : Nat, id = (i : Int) + 256 := ⟨(id - 256).toNat, by omega⟩
    obtain ⟨s, hs⟩ : ∃ s, d.ws[i]? = some s := ⟨_, List.getElem?_eq_getElem (show i < d.ws.length by omega)⟩
    rw [hi, wordOf_word hs]
    exact (hd.words i s hs).2.1
/-- The lists apart at a step's place. -/
theorem At.split {ms : List Mrg} {l : List Int} {i r : Nat} {id : Int} (h : At ms l i r id) : ∃ p a b q, l = p ++ a :: b :: q ∧ p.length = i ∧ mergeOf ms a b = some (r, id) ∧ ∀ y, stepT l i y = p ++ y :: q := by
  obtain ⟨a, b, h1, h2, h3⟩ := h
  obtain ⟨hi, e1⟩ := List.getElem?_eq_some_iff.1 h1
  obtain ⟨hi2, e2⟩ := List.getElem?_eq_some_iff.1 h2
  have e : l = l.take i ++ a :: b :: l.drop (i + 2) := by
    have h4 : l.drop i = a :: l.drop (i + 1) := by rw [← e1]; exact List.drop_eq_getElem_cons hi
    have h5 : l.drop (i + 1) = b :: l.drop (i + 2) := by rw [← e2]; exact List.drop_eq_getElem_cons hi2
    rw [← h5, ← h4, List.take_append_drop]
  have hl : (l.take i).length = i := by rw [List.length_take]; omega
  refine ⟨l.take i, a, b, l.drop (i + 2), e, hl, h3, fun y => ?_⟩
  unfold stepT
  generalize l.take i = p at *
  generalize l.drop (i + 2) = q at *
  subst e
  subst hl
  rw [List.set_append_right _ _ (by omega), Nat.sub_self, List.set_cons_zero, List.eraseIdx_append_of_length_le (by omega)]
  rw [show p.length + 1 - p.length = 1 from by omega]
  rfl
theorem At.mk {ms : List Mrg} {p q : List Int} {a b : Int} {r : Nat} {id : Int} (h : mergeOf ms a b = some (r, id)) : At ms (p ++ a :: b :: q) p.length r id :=
  ⟨a, b, by rw [List.getElem?_append_right (by omega), Nat.sub_self]; rfl, by rw [List.getElem?_append_right (by omega), show p.length + 1 - p.length = 1 from by omega]; rfl, h⟩
/-- What a merge makes. -/
theorem merge_made {d : Dat} (hd : RightD d) {a b : Int} {r : Nat} {id : Int} (h : mergeOf d.ms a b = some (r, id)) :
    okId d id = true ∧ wb d id = wb d a ++ wb d b ∧ okId d a = true ∧ okId d b = true := by
  obtain ⟨x, hx, rfl, rfl, rfl, _⟩ := mergeOf_some h
  have h1 := hd.idr r x hx
  have h2 := hd.wd r x hx
  refine ⟨okId_iff.2 (by omega), ?_, okId_iff.2 (hd.part_range (hd.pl r x hx)), okId_iff.2 (hd.part_range (hd.pr r x hx))⟩
  unfold wb
  rw [h2, ba_list]
theorem step_cat {d : Dat} (hd : RightD d) {l : List Int} {i r : Nat} {id : Int} (h : At d.ms l i r id) : cat d (stepT l i id) = cat d l := by
  obtain ⟨p, a, b, q, rfl, rfl, hm, hs⟩ := h.split
  rw [hs, cat_append, cat_append, cat_cons, cat_cons, cat_cons, (merge_made hd hm).2.1, List.append_assoc]
theorem step_ok {d : Dat} (hd : RightD d) {l : List Int} {i r : Nat} {id : Int} (h : At d.ms l i r id) (ho : ∀ x ∈ l, okId d x = true) : ∀ x ∈ stepT l i id, okId d x = true := by
  obtain ⟨p, a, b, q, rfl, rfl, hm, hs⟩ := h.split
  rw [hs]
  intro x hx
  rw [List.mem_append, List.mem_cons] at hx
  rcases hx with hx | rfl | hx
  · exact ho x (List.mem_append_left _ hx)
  · exact (merge_made hd hm).1
  · exact ho x (List.mem_append_right _ (List.mem_cons_of_mem _ (List.mem_cons_of_mem _ hx)))
/-- By steps. -/
theorem join_ind (ms : List Mrg) {Q : List Int → List Int × List (Nat × Nat) → Prop} (h0 : ∀ l, nextT ms l = none → Q l (l, []))
    (h1 : ∀ l r i id t, nextT ms l = some (r, i, id) → joinT ms (stepT l i id) = t → Q (stepT l i id) t → Q l (t.1, (r, i) :: t.2)) : ∀ l, Q l (joinT ms l) := by
  have key : ∀ n l, l.length ≤ n → Q l (joinT ms l) := by
    intro n
    induction n with
    | zero =>
      intro l hl
      have : l = [] := List.length_eq_zero_iff.1 (by omega)
      subst this
      have : nextT ms [] = none := rfl
      rw [joinT_none this]
      exact h0 _ this
    | succ n ih =>
      intro l hl
      cases e : nextT ms l with
      | none => rw [joinT_none e]; exact h0 l e
      | some t =>
        obtain ⟨r, i, id⟩ := t
        rw [joinT_some e]
        have h2 := (nextT_some e).1.lt
        have h3 := stepT_length (l := l) (i := i) (id := id) (by omega)
        exact h1 l r i id _ e rfl (ih _ (by omega))
  exact fun l => key l.length l (Nat.le_refl _)
theorem join_cat {d : Dat} (hd : RightD d) (l : List Int) : cat d (joinT d.ms l).1 = cat d l :=
  join_ind d.ms (Q := fun l t => cat d t.1 = cat d l) (fun _ _ => rfl) (fun l r i id t h e ih => by rw [← step_cat hd (nextT_some h).1]; exact ih) l
theorem join_end (ms : List Mrg) (l : List Int) : nextT ms (joinT ms l).1 = none :=
  join_ind ms (Q := fun l t => nextT ms t.1 = none) (fun _ h => h) (fun l r i id t h e ih => ih) l
theorem join_ok {d : Dat} (hd : RightD d) (l : List Int) : (∀ x ∈ l, okId d x = true) → ∀ x ∈ (joinT d.ms l).1, okId d x = true :=
  join_ind d.ms (Q := fun l t => (∀ x ∈ l, okId d x = true) → ∀ x ∈ t.1, okId d x = true) (fun _ _ h => h) (fun l r i id t h e ih ho => ih (step_ok hd (nextT_some h).1 ho)) l
theorem join_again (ms : List Mrg) (l : List Int) : joinT ms (joinT ms l).1 = ((joinT ms l).1, []) := joinT_none (join_end ms l)
theorem join_len (ms : List Mrg) (l : List Int) : (joinT ms l).1.length + (joinT ms l).2.length = l.length :=
  join_ind ms (Q := fun l t => t.1.length + t.2.length = l.length) (fun _ _ => rfl) (fun l r i id t h e ih => by
    have h2 := (nextT_some h).1.lt
    have h3 := stepT_length (l := l) (i := i) (id := id) (by omega)
    simp only [List.length_cons]
    omega) l
theorem join_le (ms : List Mrg) (l : List Int) : (joinT ms l).1.length ≤ l.length := by have := join_len ms l; omega

/-! ### a text's bytes -/
def bytesL (s : ByteArray) : List Int := s.data.toList.map fun b => (b.toNat : Int)
theorem bytesL_length (s : ByteArray) : (bytesL s).length = s.size := by unfold bytesL; rw [List.length_map, ba_size]
theorem bytesL_get {s : ByteArray} {i : Nat} (h : i < s.size) : (bytesL s)[i]? = some (s.data[i].toNat : Int) := by
  unfold bytesL
  rw [List.getElem?_map, Array.getElem?_toList, Array.getElem?_eq_getElem h]
  rfl
theorem bytes_range {s : ByteArray} {x : Int} (h : x ∈ bytesL s) : 0 ≤ x ∧ x < 256 := by
  unfold bytesL at h
  obtain ⟨b, _, rfl⟩ := List.mem_map.1 h
  have := b.toNat_lt
  omega
theorem bytes_ok (d : Dat) {s : ByteArray} : ∀ x ∈ bytesL s, okId d x = true := fun x h => by
  have := bytes_range h
  exact okId_iff.2 (by omega)
theorem wb_byte (d : Dat) (b : UInt8) : wb d (b.toNat : Int) = [b] := by
  unfold wb
  have := b.toNat_lt
  rw [wordOf_byte (by omega) (by omega)]
  simp
theorem cat_bytes (d : Dat) (s : ByteArray) : cat d (bytesL s) = s.data.toList := by
  unfold cat bytesL
  generalize s.data.toList = l
  induction l with
  | nil => rfl
  | cons b l ih => rw [List.map_cons, List.flatMap_cons, ih, wb_byte]; rfl

/-! ### a cut where no step joined across -/
theorem cat_pos {d : Dat} (hd : RightD d) : ∀ {l : List Int}, (∀ x ∈ l, okId d x = true) → l.length ≤ (cat d l).length := by
  intro l
  induction l with
  | nil => intro _; exact Nat.zero_le _
  | cons x l ih =>
    intro h
    have h1 := wb_pos hd (h x (List.mem_cons_self ..))
    have h2 := ih (fun y hy => h y (List.mem_cons_of_mem _ hy))
    rw [cat_cons, List.length_append, List.length_cons]
    omega
/-- Two beginnings of one list whose words are as long are the same. -/
theorem cat_begin {d : Dat} (hd : RightD d) : ∀ (a b c e : List Int), (∀ x ∈ a ++ b, okId d x = true) → a ++ b = c ++ e → (cat d a).length = (cat d c).length → a = c ∧ b = e := by
  intro a
  induction a with
  | nil =>
    intro b c e ho h hl
    cases c with
    | nil => exact ⟨rfl, h⟩
    | cons y c =>
      exfalso
      rw [List.nil_append] at h ho
      subst h
      have := wb_pos hd (ho y (by simp))
      rw [cat_cons, List.length_append, cat_nil, List.length_nil] at hl
      omega
  | cons x a ih =>
    intro b c e ho h hl
    cases c with
    | nil =>
      exfalso
      have := wb_pos hd (ho x (by simp))
      rw [cat_cons, List.length_append, cat_nil, List.length_nil] at hl
      omega
    | cons y c =>
      rw [List.cons_append, List.cons_append] at h
      injection h with h1 h2
      subst h1
      rw [cat_cons, cat_cons, List.length_append, List.length_append] at hl
      obtain ⟨rfl, rfl⟩ := ih b c e (fun z hz => ho z (List.mem_cons_of_mem _ hz)) h2 (by omega)
      exact ⟨rfl, rfl⟩
/-- Where a token ends: by so many bytes. -/
def Ends (d : Dat) (l : List Int) (n : Nat) : Prop := ∃ a b, l = a ++ b ∧ (cat d a).length = n
theorem Ends.back {d : Dat} (hd : RightD d) {l : List Int} {i r : Nat} {id : Int} (h : At d.ms l i r id) {n : Nat} (he : Ends d (stepT l i id) n) : Ends d l n := by
  obtain ⟨p, u, v, q, rfl, rfl, hm, hs⟩ := h.split
  obtain ⟨a, b, h1, h2⟩ := he
  rw [hs] at h1
  rcases List.append_eq_append_iff.1 h1 with ⟨c, rfl, h3⟩ | ⟨c, rfl, h3⟩
  · cases c with
    | nil =>
      simp at h3
      exact ⟨p, u :: v :: q, rfl, by rw [List.append_nil] at h2; exact h2⟩
    | cons z c =>
      rw [List.cons_append] at h3
      injection h3 with h4 h5
      subst h4 h5
      refine ⟨p ++ u :: v :: c, b, by simp, ?_⟩
      rw [← h2, cat_append, cat_append, cat_cons, cat_cons, cat_cons, (merge_made hd hm).2.1, List.append_assoc]
  · exact ⟨a, c ++ u :: v :: q, by simp, h2⟩
theorem Ends.join {d : Dat} (hd : RightD d) {l : List Int} {n : Nat} : Ends d (joinT d.ms l).1 n → Ends d l n :=
  join_ind d.ms (Q := fun l t => Ends d t.1 n → Ends d l n) (fun _ _ h => h) (fun l r i id t h e ih ho => (ih ho).back hd (nextT_some h).1) l
theorem at_left {ms : List Mrg} {a b : List Int} {i r : Nat} {id : Int} (h : At ms a i r id) : At ms (a ++ b) i r id := by
  obtain ⟨x, y, h1, h2, h3⟩ := h
  exact ⟨x, y, (List.getElem?_append_left (List.getElem?_eq_some_iff.1 h1).1).trans h1, (List.getElem?_append_left (List.getElem?_eq_some_iff.1 h2).1).trans h2, h3⟩
theorem at_right {ms : List Mrg} {a b : List Int} {i r : Nat} {id : Int} (h : At ms b i r id) : At ms (a ++ b) (a.length + i) r id := by
  obtain ⟨x, y, h1, h2, h3⟩ := h
  refine ⟨x, y, ?_, ?_, h3⟩
  · rw [List.getElem?_append_right (by omega), Nat.add_sub_cancel_left]; exact h1
  · rw [List.getElem?_append_right (by omega), show a.length + i + 1 - a.length = i + 1 from by omega]; exact h2
theorem at_cases {ms : List Mrg} {a b : List Int} {i r : Nat} {id : Int} (h : At ms (a ++ b) i r id) : (i + 1 < a.length ∧ At ms a i r id) ∨ i + 1 = a.length ∨ ∃ j, i = a.length + j ∧ At ms b j r id := by
  obtain ⟨x, y, h1, h2, h3⟩ := h
  rcases Nat.lt_trichotomy (i + 1) a.length with hh | hh | hh
  · refine .inl ⟨hh, x, y, ?_, ?_, h3⟩
    · rwa [List.getElem?_append_left (by omega)] at h1
    · rwa [List.getElem?_append_left (by omega)] at h2
  · exact .inr (.inl hh)
  · refine .inr (.inr ⟨i - a.length, by omega, x, y, ?_, ?_, h3⟩)
    · rwa [List.getElem?_append_right (by omega)] at h1
    · rw [List.getElem?_append_right (by omega)] at h2
      rwa [show i + 1 - a.length = i - a.length + 1 from by omega] at h2
theorem step_left {a b : List Int} {i : Nat} {id : Int} (h : i + 1 < a.length) : stepT (a ++ b) i id = stepT a i id ++ b := by
  unfold stepT
  rw [List.set_append_left _ _ (by omega), List.eraseIdx_append_of_lt_length (by rw [List.length_set]; exact h)]
theorem step_right {a b : List Int} {j : Nat} {id : Int} : stepT (a ++ b) (a.length + j) id = a ++ stepT b j id := by
  unfold stepT
  rw [List.set_append_right _ _ (by omega), List.eraseIdx_append_of_length_le (by omega)]
  rw [show a.length + j - a.length = j from by omega, show a.length + j + 1 - a.length = j + 1 from by omega]
theorem cut_join {d : Dat} (hd : RightD d) (l : List Int) : ∀ a b, l = a ++ b → (∀ x ∈ l, okId d x = true) → Ends d (joinT d.ms l).1 (cat d a).length → (joinT d.ms l).1 = (joinT d.ms a).1 ++ (joinT d.ms b).1 := by
  refine join_ind d.ms (Q := fun l t => ∀ a b, l = a ++ b → (∀ x ∈ l, okId d x = true) → Ends d t.1 (cat d a).length → t.1 = (joinT d.ms a).1 ++ (joinT d.ms b).1) ?_ ?_ l
  · intro l hn a b e ho he
    subst e
    have ha : nextT d.ms a = none := nextT_no fun j r id hc => nextT_none hn _ _ _ (at_left hc)
    have hb : nextT d.ms b = none := nextT_no fun j r id hc => nextT_none hn _ _ _ (at_right hc)
    rw [joinT_none ha, joinT_none hb]
  · intro l r i id t hn et ih a b e ho he
    subst e
    have hs := nextT_some hn
    have ho2 := step_ok hd hs.1 ho
    rcases at_cases hs.1 with ⟨hi, hat⟩ | hi | ⟨j, rfl, hat⟩
    · have ha : nextT d.ms a = some (r, i, id) := nextT_is ⟨hat, fun j r' id' hc => hs.2 _ _ _ (at_left hc)⟩
      rw [joinT_some ha]
      rw [step_left hi] at ih ho2
      exact ih _ b rfl ho2 (by rw [step_cat hd hat]; exact he)
    · exfalso
      have he2 := Ends.join hd (n := (cat d a).length) (l := stepT (a ++ b) i id) (by rw [et]; exact he)
      obtain ⟨p, u, v, q, e1, e2, hm, hst⟩ := hs.1.split
      rw [hst] at he2 ho2
      obtain ⟨ok, hw, oku, okv⟩ := merge_made hd hm
      -- a = p ++ [u], b = v :: q
      have hab : a = p ++ [u] ∧ b = v :: q := by
        have : (a ++ b) = (p ++ [u]) ++ (v :: q) := by rw [e1]; simp
        exact List.append_inj this (by simp; omega)
      obtain ⟨rfl, rfl⟩ := hab
      have hu := wb_pos hd oku
      have hv := wb_pos hd okv
      obtain ⟨a1, b1, h1, h2⟩ := he2
      rw [cat_append, cat_cons, cat_nil, List.append_nil, List.length_append] at h2
      rcases List.append_eq_append_iff.1 h1 with ⟨c, rfl, h3⟩ | ⟨c, rfl, h3⟩
      · cases c with
        | nil => rw [List.append_nil] at h2; omega
        | cons z c =>
          rw [List.cons_append] at h3
          injection h3 with h4 h5
          subst h4
          rw [cat_append, cat_cons, List.length_append, List.length_append, hw, List.length_append] at h2
          omega
      · rw [cat_append, List.length_append] at h2
        omega
    · have hb : nextT d.ms b = some (r, j, id) := nextT_is ⟨hat, fun j' r' id' hc => by
        have := hs.2 _ _ _ (at_right (a := a) hc)
        omega⟩
      rw [joinT_some hb]
      rw [step_right] at ih ho2
      exact ih a _ rfl ho2 he
/-! ### ranks rise or stay -/
theorem rank_rise {d : Dat} (hd : RightD d) {l : List Int} {r i r2 i2 : Nat} {id id2 : Int} (h : nextT d.ms l = some (r, i, id)) (h2 : nextT d.ms (stepT l i id) = some (r2, i2, id2)) : r ≤ r2 := by
  have hs := nextT_some h
  obtain ⟨p, a, b, q, rfl, rfl, hm, hst⟩ := hs.1.split
  have hs2 := (nextT_some h2).1
  rw [hst] at hs2
  obtain ⟨p2, a2, b2, q2, e, rfl, hm2, _⟩ := hs2.split
  obtain ⟨x, hx, _, _, hxi, _⟩ := mergeOf_some hm
  obtain ⟨y, hy, hyl, hyr, _, _⟩ := mergeOf_some hm2
  have part : ∀ z, madeB (d.ms.take r2) z = true → z = id → r < r2 := by
    intro z hz ez
    rcases part_cases hz with hh | ⟨j, u, hj, hu, hi⟩
    · have := hd.idr r x hx
      omega
    · have := hd.id_inj hu hx (by rw [hi, ez, hxi])
      omega
  by_cases ha : a2 = id
  · exact Nat.le_of_lt (part a2 (hyl ▸ hd.pl r2 y hy) ha)
  by_cases hb : b2 = id
  · exact Nat.le_of_lt (part b2 (hyr ▸ hd.pr r2 y hy) hb)
  have old : ∀ i', At d.ms (p ++ a :: b :: q) i' r2 id2 → r ≤ r2 := fun i' hc => by
    have := hs.2 _ _ _ hc
    omega
  rcases List.append_eq_append_iff.1 e with ⟨c, rfl, h3⟩ | ⟨c, rfl, h3⟩
  · cases c with
    | nil =>
      rw [List.nil_append] at h3
      injection h3 with h4 h5
      exact absurd h4.symm ha
    | cons z c =>
      rw [List.cons_append] at h3
      injection h3 with h4 h5
      subst h5
      refine old (p.length + 2 + c.length) ?_
      have := At.mk (p := p ++ a :: b :: c) (q := q2) hm2
      rw [List.length_append, List.length_cons, List.length_cons] at this
      simpa [Nat.add_assoc, Nat.add_comm, Nat.add_left_comm] using this
  · cases c with
    | nil =>
      rw [List.nil_append] at h3
      injection h3 with h4 h5
      exact absurd h4 ha
    | cons z c =>
      rw [List.cons_append] at h3
      injection h3 with h4 h5
      subst h4
      cases c with
      | nil =>
        rw [List.nil_append] at h5
        injection h5 with h6 h7
        exact absurd h6 hb
      | cons z c =>
        rw [List.cons_append] at h5
        injection h5 with h6 h7
        subst h6
        refine old p2.length ?_
        have := At.mk (p := p2) (q := c ++ a :: b :: q) hm2
        simpa using this
end Go.Proofs.YtigpaaelggnffaaGreatDoor.Bpe

/- bpe.bytes, bpe.Merge; the document's Bytes. -/
namespace Go.Proofs.YtigpaaelggnffaaGreatDoor.Bpe
open Go.RowKit Go.Proofs.YtigpaaelggnffaaGreatDoor.Lib Go.Proofs.YtigpaaelggnffaaGreatDoor.Sl Go.Proofs.YtigpaaelggnffaaGreatDoor.Chain Go.Proofs.YtigpaaelggnffaaGreatDoor.ElBpe Go.Proofs.YtigpaaelggnffaaGreatDoor.HeapPure
set_option linter.unusedVariables false
set_option linter.unusedSimpArgs false

theorem bytes_at {s : ByteArray} {k : Nat} (h : k < s.size) : ∃ x : Int, (bytesL s)[k]? = some x ∧ ((s[k]'h).toNat : Int) = x ∧ 0 ≤ x ∧ x < 256 := by
  refine ⟨_, bytesL_get h, rfl, ?_⟩
  have := (s.data[k]'h).toNat_lt
  omega
/-- The first k bytes are there. -/
structure BySt (w wr : World) (s : ByteArray) (k : Nat) : Prop where
  kl : k ≤ s.size
  row : ∃ R, Arr wr 3 1 (some ⟨w.heap.size, 0, none⟩) s.size s.size (Chain.ints ((bytesL s).take k) ++ R)
  ext : Ext (fun _ => False) w wr
theorem BySt.step {w wr : World} {s : ByteArray} {k : Nat} (h : BySt w wr s k) {x : Int} (hx : (bytesL s)[k]? = some x) : BySt w (wr.setCell ⟨w.heap.size, k, none⟩ (.int .i64 x)) s (k + 1) := by
  obtain ⟨R, hR⟩ := h.row
  have hk := (List.getElem?_eq_some_iff.1 hx).1
  have hb := bytesL_length s
  have hl := arr_len hR
  have ht : (Chain.ints ((bytesL s).take k)).length = k := by unfold Chain.ints; rw [List.length_map, List.length_take]; omega
  rw [List.length_append, ht] at hl
  obtain ⟨y, R, rfl⟩ : ∃ y R', R = y :: R' := by
    cases R with
    | nil => simp at hl; omega
    | cons y R => exact ⟨y, R, rfl⟩
  refine ⟨by omega, ⟨R, ?_⟩, h.ext.trans ((Ext.refl (fun j => j = w.heap.size) wr).setCell (p := ⟨w.heap.size, k, none⟩) (fun _ => rfl) _) (fun i hi e => by omega)⟩
  have := arr_set hR k (.int .i64 x)
  rw [List.set_append_right _ _ (by omega), ht, Nat.sub_self, List.set_cons_zero] at this
  rw [List.take_add_one, hx]
  unfold Chain.ints at *
  rw [List.map_append, List.append_assoc]
  exact this
def BytesEnd (w : World) (s : ByteArray) (e : Ending) (w' : World) : Prop :=
  e = .returned (.slice (some ⟨w.heap.size, 0, none⟩) s.size s.size) ∧ Arr w' 3 1 (some ⟨w.heap.size, 0, none⟩) s.size s.size (Chain.ints (bytesL s)) ∧ Ext (fun _ => False) w w'
set_option maxRecDepth 100000 in
set_option maxHeartbeats 1000000 in
theorem bytes_any (w : World) (s : ByteArray) (hs : s.size ≤ 1048576) :
    Calls Tryz.prog 80 #[.string s] w fun e w' => BytesEnd w s e w' := by
  go_enter Tryz.func80, Tryz.ntmps80
  go_wp2_with (at_make; (refine arr_make rfl (.tmp 6) (.tmp 6) 62 3 1 8 (.int .i64 0) rfl Tryz.underlying62 infoI .i64 .i64 _ _ s.size rfl rfl (by omega) (by omega) (by omega) (by decide) rfl ?_); intro w1 hA hx1)
  have HS := Lib.hid (show BySt w w1 s 0 from ⟨by omega, ⟨(madeCells (Value.int .i64 0).cells (s.size * 1)).toList, hA⟩, hx1⟩)
  clear hA hx1
  go_wp2_with fail
  go_loopw [10] (fun i wr => ∃ k : Nat, i = .int .i64 k ∧ BySt w wr s k) (fun i _ => s.size - (intOf i).toNat)
  case atStart => exact ⟨0, rfl, HS.out⟩
  case round =>
    obtain ⟨k, rfl, hst⟩ := hrel
    have HST := Lib.hid hst
    obtain ⟨kl, ⟨R, hR⟩, hx⟩ := hst
    clear hx
    by_cases hlt : k < s.size
    · have i1 : (k : Int) < (s.size : Int) := by omega
      obtain ⟨x, hx, hxx, hx0, hx1⟩ := bytes_at hlt
      have T := Lib.hid (HST.out.step hx)
      obtain ⟨u0, hu0⟩ : ∃ u, wr.cell? ⟨w.heap.size, k, none⟩ = some u := ⟨_, (arr_cell hR _ (by omega)).trans (List.getElem?_eq_getElem (by have := arr_len hR; omega))⟩
      have hf0 := arr_frozen hR k
      clear hR hx
      go_wp2_with fail
      go_roundw
      case rel => exact ⟨k + 1, by go_num, by first | (rw [← hxx] at T; exact T.out) | exact T.out⟩
      case measure => simp [intOf]; omega
    · obtain rfl : k = s.size := by omega
      have hR0 : R = [] := by
        have hl := arr_len hR
        have hb := bytesL_length s
        rw [List.length_append] at hl
        unfold Chain.ints at hl
        rw [List.length_map, List.length_take] at hl
        exact List.eq_nil_of_length_eq_zero (by omega)
      rw [hR0, List.append_nil, List.take_of_length_le (by rw [bytesL_length]; omega)] at hR
      have HR := Lib.hid hR
      clear hR hR0
      go_wp2_with fail
      go_ret
      exact ⟨rfl, HR.out, HST.out.ext⟩
/-- What Merge tells. -/
def mergeT (d : Dat) (s : ByteArray) : List Int × Int := if 1048576 < s.size then ([], 3) else ((joinT d.ms (bytesL s)).1, 0)
set_option maxRecDepth 100000 in
set_option maxHeartbeats 1000000 in
theorem mergeB_any {w : World} {m : Nat} {d : Dat} (hm : IsModel w m d) (hd : RightD d) (s : ByteArray) :
    Calls Tryz.prog 58 #[.pointer (some ⟨m, 0, none⟩), .string s] w fun e w' => JoinedEnd w (mergeT d s).1 (mergeT d s).2 e w' := by
  have hq : ∀ W, (binOp .eql 27 (.pointer (some ⟨m, 0, none⟩)) (.pointer none)).run Tryz.prog W = .ok (.bool false) W := fun W => by kernel_rfl
  have HM := Lib.hid hm
  have HD := Lib.hid hd
  clear hm hd
  by_cases hb : 1048576 < s.size
  · have E := Lib.hid (show mergeT d s = ([], 3) from if_pos hb)
    have i0 : decide ((s.size : Int) > 1048576) = true := decide_eq_true (by omega)
    clear hb
    go_enter Tryz.func58, Tryz.ntmps58
    go_wp2_with fail
    go_ret2
    exact ⟨none, 0, by rw [E.out]; rfl, by rw [E.out]; exact arr_nil _ _ _, by repeat (first | exact Ext.refl _ _ | refine Ext.drew ?_ | refine Ext.drewN ?_ _ | refine Ext.alloc ?_ _), fun j hj => by cases hj⟩
  · have E := Lib.hid (show mergeT d s = joinedT d (bytesL s) from by
      unfold mergeT joinedT
      rw [if_neg hb, bytesL_length, if_neg hb, if_pos (List.all_eq_true.2 (bytes_ok d))])
    have i0 : decide ((s.size : Int) > 1048576) = false := decide_eq_false (by omega)
    have BY := Lib.hid (bytes_any w s (by omega))
    clear hb
    go_enter Tryz.func58, Tryz.ntmps58
    go_wp2_with fail
    refine BY.out.mono ?_
    rintro e w1 ⟨rfl, hA, hx⟩
    have X1 := Lib.hid hx
    have JO := joined_any (HM.out.on hx) HD.out (p := some ⟨w.heap.size, 0, none⟩) (c := s.size) (ids := bytesL s) (ints_rd hA)
    rw [bytesL_length] at JO
    have JO := Lib.hid JO
    clear hA hx BY
    go_wp2_with fail
    refine JO.out.mono ?_
    rintro e w2 ⟨p, c, rfl, hA2, hx2, hf⟩
    have A2 := Lib.hid hA2
    have X2 := Lib.hid hx2
    have F2 := Lib.hid hf
    clear hA2 hx2 hf
    go_wp2_with fail
    go_ret2
    rw [E.out]
    exact ⟨p, c, rfl, A2.out, X1.out.trans X2.out (fun _ _ h => h), fun k hk => by have := F2.out k hk; have := X1.out.size; omega⟩
end Go.Proofs.YtigpaaelggnffaaGreatDoor.Bpe

/- A region that does not draw, within a round in the wide fence: its plain walk serves. -/
namespace Go.Proofs.YtigpaaelggnffaaGreatDoor.Lib
open Go.RowKit Go.Proofs.YtigpaaelggnffaaGreatDoor.Sl
set_option linter.unusedVariables false
set_option linter.unusedSimpArgs false
section
variable {P : Program} {n r : Nat} {Q : Exit → Act → World → Prop} {ops : Array Oper}
theorem list_in (hL : ¬ LetsOut Q) : ∀ (l : List Oper) (a : Act) (w : World), l.all noDefer = true → wpList P ops Q l a w → wpListIn (Fence.wide.inRound r) n P ops Q l a w := by
  intro l
  induction l with
  | nil => intro a w _ h; exact h
  | cons o l ih =>
    intro a w hc h
    simp only [List.all_cons, Bool.and_eq_true] at hc
    unfold wpList at h
    unfold wpListIn
    by_cases hw : Region.wanted o (yielded ops a.tmps) = true
    · rw [if_pos hw] at h ⊢
      rcases h with h | h
      · exact op_in (fun c hd => by
          have := hc.1
          unfold noDefer at this
          rw [hd] at this
          cases this) (fun a w h => ih a w hc.2 h) h
      · exact absurd h.2 hL
    · rw [if_neg hw] at h ⊢
      exact ⟨fun f _ => trivial, ih _ _ hc.2 h⟩
theorem startL_ {id : Nat} {l : List Oper} {a : Act} {w : World} (hc : l.all noDefer = true) (hL : ¬ LetsOut Q) (h : wpList P l.toArray Q l a w) : (Code.region id l.toArray false).wpIn (Fence.wide.inRound r) n P Q a w :=
  wpIn_region_lit (list_in hL l a w hc h)
end
end Go.Proofs.YtigpaaelggnffaaGreatDoor.Lib

/- encode.Encode: a text's ids. -/
namespace Go.Proofs.YtigpaaelggnffaaGreatDoor.Cut
open Go.RowKit Go.Shelf Go.Proofs.YtigpaaelggnffaaGreatDoor.Lib Go.Proofs.YtigpaaelggnffaaGreatDoor.Sl Go.Proofs.YtigpaaelggnffaaGreatDoorW.PrintLast
open Go.Proofs.YtigpaaelggnffaaGreatDoor.Bpe
set_option linter.unusedVariables false
set_option linter.unusedSimpArgs false
attribute [local go_sem] Oper.semAt_some

/-! ### In plain words -/
/-- A pre-token's ids. -/
def pieceT (d : Dat) (s : ByteArray) (x : Tok) : List Int := (joinT d.ms (bytesL (s.extract x.a x.b))).1
def fits (most : Int) (x : Tok) : Bool := decide ((x.b : Int) - x.a ≤ most)
def idsOf (d : Dat) (s : ByteArray) (l : List Tok) : List Int := l.flatMap (pieceT d s)
def encL (d : Dat) (most : Int) (s : ByteArray) : List Tok := (toks d s).takeWhile (fits most)
/-- The ids; whether a pre-token is too long. -/
def encT (d : Dat) (most : Int) (s : ByteArray) : List Int × Bool := (idsOf d s (encL d most s), decide ((encL d most s).length < (toks d s).length))
theorem encT_all {d : Dat} {most : Int} {s : ByteArray} (h : ∀ x ∈ toks d s, fits most x = true) : encT d most s = (idsOf d s (toks d s), false) := by
  have e : encL d most s = toks d s := by
    unfold encL
    generalize toks d s = l at h
    induction l with
    | nil => rfl
    | cons x t ih => rw [List.takeWhile_cons, if_pos (h x (.head _)), ih (fun y hy => h y (.tail _ hy))]
  unfold encT
  rw [e]
  simp
theorem takeWhile_is {α : Type} {p : α → Bool} {l u : List α} {x : α} (h : ∀ y ∈ l, p y = true) (hx : p x = false) : (l ++ x :: u).takeWhile p = l := by
  induction l with
  | nil => simp [List.takeWhile_cons, hx]
  | cons y t ih => rw [List.cons_append, List.takeWhile_cons, if_pos (h y (.head _)), ih (fun z hz => h z (.tail _ hz))]
theorem encT_stop {d : Dat} {most : Int} {s : ByteArray} {l u : List Tok} {x : Tok} (he : toks d s = l ++ x :: u) (h : ∀ y ∈ l, fits most y = true) (hx : fits most x = false) : encT d most s = (idsOf d s l, true) := by
  have e : encL d most s = l := by unfold encL; rw [he]; exact takeWhile_is h hx
  unfold encT
  rw [e, he]
  simp
theorem pieceT_le (d : Dat) (s : ByteArray) (x : Tok) (hx : x.a < x.b) : (pieceT d s x).length ≤ s.size := by
  have := join_le d.ms (bytesL (s.extract x.a x.b))
  rw [bytesL_length, ByteArray.size_extract] at this
  unfold pieceT
  omega
theorem idsOf_le (d : Dat) (s : ByteArray) (hs : s.size ≤ 1048576) (pre : List (Tk s)) : (idsOf d s (pre.map Subtype.val)).length ≤ 1048576 * pre.length := by
  induction pre with
  | nil => exact Nat.zero_le _
  | cons x t ih =>
    have := pieceT_le d s x.1 x.2.1
    simp only [idsOf, List.map_cons, List.flatMap_cons, List.length_append, List.length_cons] at ih ⊢
    omega
theorem idsOf_snoc (d : Dat) (s : ByteArray) (l : List Tok) (x : Tok) : idsOf d s (l ++ [x]) = idsOf d s l ++ pieceT d s x := by simp [idsOf]
theorem toks_le (d : Dat) (s : ByteArray) : (toks d s).length ≤ s.size := by
  have go : ∀ (f k : Nat), (toksGo d s f k).length ≤ f := by
    intro f
    induction f with
    | zero => intro k; exact Nat.le_refl _
    | succ f ih =>
      intro k
      unfold toksGo
      split
      · have := ih (tokAt d s k).b; simp only [List.length_cons]; omega
      · exact Nat.zero_le _
  exact go _ _
/-! ### The walk -/
theorem wrong_any (m : Nat) (most : Int) (n : Nat) (h1 : 1 ≤ most) (h2 : most ≤ 65536) (hn : n ≤ 1048576) (w : World) :
    Calls Tryz.prog 56 #[.pointer (some ⟨m, 0, none⟩), .int .i64 most, .int .i64 n] w fun e w' => e = .returned (.int .i64 0) ∧ w = w' := by
  have d1 : ¬ most < 1 := by omega
  have d2 : ¬ (65536 : Int) < most := by omega
  have d3 : ¬ (1048576 : Int) < (n : Int) := by omega
  go_enter Tryz.func56, Tryz.ntmps56
  go_wp2
  go_ret
  exact ⟨rfl, rfl⟩
def EncEnd (w : World) (l : List Int) (st : Int) (e : Ending) (w' : World) : Prop :=
  ∃ p c, e = .returned (.tuple #[.slice p l.length c, .int .i64 st, .int .i64 0]) ∧ Arr w' 3 1 p l.length c (ints l) ∧ Ext (fun _ => False) w w' ∧ ∀ k, blkOf p = some k → w.heap.size ≤ k
/-- What the loop over the pre-tokens knows. -/
structure EncI (d : Dat) (w : World) (m : Nat) (most : Int) (s : ByteArray) (pre : List (Tk s)) (p : Option Addr) (c : Nat) (W : World) : Prop where
  ext : Ext (fun _ => False) w W
  k0 : Boxed W (w.heap.size) 27 (.pointer (some ⟨m, 0, none⟩))
  k1 : Boxed W (w.heap.size + 1) 3 (.int .i64 most)
  k2 : Boxed W (w.heap.size + 1 + 1) 9 (.string s)
  k3 : ∃ v, Boxed W (w.heap.size + 1 + 1 + 1) 62 v
  k4 : ∃ v, Boxed W (w.heap.size + 1 + 1 + 1 + 1) 77 v
  k5 : ∃ v, Boxed W (w.heap.size + 1 + 1 + 1 + 1 + 1) 34 v
  k6 : Boxed W (w.heap.size + 1 + 1 + 1 + 1 + 1 + 1) 62 (.slice p (idsOf d s (pre.map Subtype.val)).length c)
  k7 : Boxed W (w.heap.size + 1 + 1 + 1 + 1 + 1 + 1 + 1) 27 (.pointer (some ⟨m, 0, none⟩))
  k8 : Boxed W (w.heap.size + 1 + 1 + 1 + 1 + 1 + 1 + 1 + 1) 9 (.string s)
  arr : Arr W 3 1 p (idsOf d s (pre.map Subtype.val)).length c (ints (idsOf d s (pre.map Subtype.val)))
  fr : ∀ k, blkOf p = some k → w.heap.size + 1 + 1 + 1 + 1 + 1 + 1 + 1 + 1 < k
  fit : ∀ x ∈ pre.map Subtype.val, fits most x = true
theorem arr_rowN {A B : World} {row : Option Nat} {e sz n c : Nat} {p : Option Addr} {cs : List Value} (h : Arr A e sz p n c cs) (hg : A.grownBy B row) (hr : ∀ r, row = some r → ∃ o : Obj, A.heap[r]? = some o ∧ o.isCells = false) : Arr B e sz p n c cs :=
  arr_ext h (Ext.of_grown (S := fun k => row = some k) hg (fun k hk _ => hk)) (fun k hk e => by
    obtain ⟨o, ho, hc⟩ := arr_isCells h hk
    obtain ⟨o2, ho2, hc2⟩ := hr k e
    rw [ho] at ho2
    cases ho2
    rw [hc] at hc2
    cases hc2)
theorem EncI.own {d : Dat} {w : World} {m B : Nat} {most : Int} {s : ByteArray} (hB : w.heap.size ≤ B) : OwnFrom B (fun (pre : List (Tk s)) W => ∃ p c, EncI d w m most s pre p c W) := fun pre A C row ⟨p, c, h⟩ hg hr => by
  have hr2 := fun r e => (hr r e).2
  obtain ⟨v3, h3⟩ := h.k3
  obtain ⟨v4, h4⟩ := h.k4
  obtain ⟨v5, h5⟩ := h.k5
  exact ⟨p, c, ext_row h.ext hg (fun r e => Nat.le_trans hB (hr r e).1), boxed_row h.k0 hg hr2, boxed_row h.k1 hg hr2, boxed_row h.k2 hg hr2, ⟨v3, boxed_row h3 hg hr2⟩, ⟨v4, boxed_row h4 hg hr2⟩, ⟨v5, boxed_row h5 hg hr2⟩, boxed_row h.k6 hg hr2, boxed_row h.k7 hg hr2, boxed_row h.k8 hg hr2, arr_rowN h.arr hg hr2, h.fr, h.fit⟩
theorem EncI.on {d : Dat} {w : World} {m : Nat} {most : Int} {s : ByteArray} {pre : List (Tk s)} {p : Option Addr} {c : Nat} {A B : World} (h : EncI d w m most s pre p c A) (hx : Ext (fun _ => False) A B) : EncI d w m most s pre p c B := by
  obtain ⟨v3, h3⟩ := h.k3
  obtain ⟨v4, h4⟩ := h.k4
  obtain ⟨v5, h5⟩ := h.k5
  have f := fun (k : Nat) (h : False) => h
  exact ⟨h.ext.trans hx (fun _ _ h => h), hx.obj h.k0 (fun h => h), hx.obj h.k1 (fun h => h), hx.obj h.k2 (fun h => h), ⟨v3, hx.obj h3 (fun h => h)⟩, ⟨v4, hx.obj h4 (fun h => h)⟩, ⟨v5, hx.obj h5 (fun h => h)⟩, hx.obj h.k6 (fun h => h), hx.obj h.k7 (fun h => h), hx.obj h.k8 (fun h => h), arr_ext h.arr hx (fun _ _ h => h), h.fr, h.fit⟩
theorem EncI.put {d : Dat} {w : World} {m : Nat} {most : Int} {s : ByteArray} {pre : List (Tk s)} {x : Tk s} {p p3 : Option Addr} {c c3 : Nat} {A B : World} {N ys : List Int} (h : EncI d w m most s pre p c A) (hN : idsOf d s (pre.map Subtype.val) = N) (hY : pieceT d s x.1 = ys) (hf : fits most x.1 = true)
    (hx : Ext (fun k => blkOf p = some k) A B) (hm : Moved A p p3) (hA : Arr B 3 1 p3 (N.length + ys.length) c3 (ints N ++ ints ys)) :
    EncI d w m most s (pre ++ [x]) p3 c3 (B.setCell ⟨w.heap.size + 1 + 1 + 1 + 1 + 1 + 1, 0, none⟩ (.slice p3 (N.length + ys.length) c3)) := by
  have hz := h.k8.lt
  have e1 : idsOf d s ((pre ++ [x]).map Subtype.val) = N ++ ys := by rw [List.map_append, List.map_cons, List.map_nil, idsOf_snoc, hN, hY]
  have far : ∀ {k t : Nat} {v : Value}, k ≤ (w.heap.size + 1 + 1 + 1 + 1 + 1 + 1 + 1 + 1) → k ≠ (w.heap.size + 1 + 1 + 1 + 1 + 1 + 1) → Boxed A k t v → Boxed (B.setCell ⟨w.heap.size + 1 + 1 + 1 + 1 + 1 + 1, 0, none⟩ (.slice p3 (N.length + ys.length) c3)) k t v := fun hk hne hb => boxed_far (hx.obj hb (fun e => by have := h.fr _ e; omega)) hne
  obtain ⟨v3, h3⟩ := h.k3
  obtain ⟨v4, h4⟩ := h.k4
  obtain ⟨v5, h5⟩ := h.k5
  have hfr : ∀ k, blkOf p3 = some k → (w.heap.size + 1 + 1 + 1 + 1 + 1 + 1 + 1 + 1) < k := fun k hk => (hm k hk).elim (fun e => h.fr k e) (fun e => by omega)
  refine ⟨(h.ext.trans hx (fun i hi e => by have := h.fr i e; omega)).setCell (fun e => absurd e (show ¬ ((w.heap.size + 1 + 1 + 1 + 1 + 1 + 1) < w.heap.size) by omega)) _, far (by omega) (by omega) h.k0, far (by omega) (by omega) h.k1, far (by omega) (by omega) h.k2, ⟨v3, far (by omega) (by omega) h3⟩, ⟨v4, far (by omega) (by omega) h4⟩, ⟨v5, far (by omega) (by omega) h5⟩, ?_, far (by omega) (by omega) h.k7, far (by omega) (by omega) h.k8, ?_, hfr, ?_⟩
  · rw [e1, List.length_append]
    exact Boxed.set _ (hx.obj h.k6 (fun e => by have := h.fr _ e; omega))
  · rw [e1, List.length_append]
    have := arr_far hA (q := ⟨w.heap.size + 1 + 1 + 1 + 1 + 1 + 1, 0, none⟩) (fun e => by have := hfr _ e; simp at this; omega) (.slice p3 (N.length + ys.length) c3)
    rw [show ints (N ++ ys) = ints N ++ ints ys from by simp [ints]]
    exact this
  · intro y hy
    rw [List.map_append] at hy
    rcases List.mem_append.1 hy with hy | hy
    · exact h.fit y hy
    · obtain rfl : y = x.1 := by simpa using hy
      exact hf
theorem EncI.rets {d : Dat} {w : World} {m : Nat} {most : Int} {s : ByteArray} {pre : List (Tk s)} {p : Option Addr} {c : Nat} {A : World} (h : EncI d w m most s pre p c A) (a b e : Value) :
    EncI d w m most s pre p c (((A.setCell ⟨w.heap.size + 1 + 1 + 1, 0, none⟩ a).setCell ⟨w.heap.size + 1 + 1 + 1 + 1, 0, none⟩ b).setCell ⟨w.heap.size + 1 + 1 + 1 + 1 + 1, 0, none⟩ e) ∧ Boxed (((A.setCell ⟨w.heap.size + 1 + 1 + 1, 0, none⟩ a).setCell ⟨w.heap.size + 1 + 1 + 1 + 1, 0, none⟩ b).setCell ⟨w.heap.size + 1 + 1 + 1 + 1 + 1, 0, none⟩ e) ((w.heap.size + 1 + 1 + 1)) 62 a ∧ Boxed (((A.setCell ⟨w.heap.size + 1 + 1 + 1, 0, none⟩ a).setCell ⟨w.heap.size + 1 + 1 + 1 + 1, 0, none⟩ b).setCell ⟨w.heap.size + 1 + 1 + 1 + 1 + 1, 0, none⟩ e) ((w.heap.size + 1 + 1 + 1 + 1)) 77 b ∧ Boxed (((A.setCell ⟨w.heap.size + 1 + 1 + 1, 0, none⟩ a).setCell ⟨w.heap.size + 1 + 1 + 1 + 1, 0, none⟩ b).setCell ⟨w.heap.size + 1 + 1 + 1 + 1 + 1, 0, none⟩ e) ((w.heap.size + 1 + 1 + 1 + 1 + 1)) 34 e := by
  obtain ⟨v3, h3⟩ := h.k3
  obtain ⟨v4, h4⟩ := h.k4
  obtain ⟨v5, h5⟩ := h.k5
  have far : ∀ {k t : Nat} {v : Value}, k ≠ (w.heap.size + 1 + 1 + 1) → k ≠ (w.heap.size + 1 + 1 + 1 + 1) → k ≠ (w.heap.size + 1 + 1 + 1 + 1 + 1) → Boxed A k t v → Boxed (((A.setCell ⟨w.heap.size + 1 + 1 + 1, 0, none⟩ a).setCell ⟨w.heap.size + 1 + 1 + 1 + 1, 0, none⟩ b).setCell ⟨w.heap.size + 1 + 1 + 1 + 1 + 1, 0, none⟩ e) k t v := fun h1 h2 h3 hb => boxed_far (boxed_far (boxed_far hb h1) h2) h3
  have g3 := boxed_far (b' := (w.heap.size + 1 + 1 + 1 + 1 + 1)) (u := e) (boxed_far (b' := (w.heap.size + 1 + 1 + 1 + 1)) (u := b) (h3.set a) (by omega)) (by omega)
  have g4 := boxed_far (b' := (w.heap.size + 1 + 1 + 1 + 1 + 1)) (u := e) ((boxed_far (b' := (w.heap.size + 1 + 1 + 1)) (u := a) h4 (by omega)).set b) (by omega)
  have g5 := (boxed_far (b' := (w.heap.size + 1 + 1 + 1 + 1)) (u := b) (boxed_far (b' := (w.heap.size + 1 + 1 + 1)) (u := a) h5 (by omega)) (by omega)).set e
  refine ⟨⟨((h.ext.setCell (fun x => absurd x (show ¬ ((w.heap.size + 1 + 1 + 1) < w.heap.size) by omega)) _).setCell (fun x => absurd x (show ¬ ((w.heap.size + 1 + 1 + 1 + 1) < w.heap.size) by omega)) _).setCell (fun x => absurd x (show ¬ ((w.heap.size + 1 + 1 + 1 + 1 + 1) < w.heap.size) by omega)) _, far (by omega) (by omega) (by omega) h.k0, far (by omega) (by omega) (by omega) h.k1, far (by omega) (by omega) (by omega) h.k2, ⟨_, g3⟩, ⟨_, g4⟩, ⟨_, g5⟩, far (by omega) (by omega) (by omega) h.k6, far (by omega) (by omega) (by omega) h.k7, far (by omega) (by omega) (by omega) h.k8, ?_, h.fr, h.fit⟩, g3, g4, g5⟩
  have nr : ∀ k, k ≤ (w.heap.size + 1 + 1 + 1 + 1 + 1 + 1 + 1 + 1) → blkOf p ≠ some k := fun k hk e => by have := h.fr k e; omega
  exact arr_far (arr_far (arr_far h.arr (q := ⟨w.heap.size + 1 + 1 + 1, 0, none⟩) (nr _ (by show (w.heap.size + 1 + 1 + 1) ≤ (w.heap.size + 1 + 1 + 1 + 1 + 1 + 1 + 1 + 1); omega)) _) (q := ⟨w.heap.size + 1 + 1 + 1 + 1, 0, none⟩) (nr _ (by show (w.heap.size + 1 + 1 + 1 + 1) ≤ (w.heap.size + 1 + 1 + 1 + 1 + 1 + 1 + 1 + 1); omega)) _) (q := ⟨w.heap.size + 1 + 1 + 1 + 1 + 1, 0, none⟩) (nr _ (by show (w.heap.size + 1 + 1 + 1 + 1 + 1) ≤ (w.heap.size + 1 + 1 + 1 + 1 + 1 + 1 + 1 + 1); omega)) _
/-- How the loop is left: a pre-token is too long. -/
def EncX (d : Dat) (w : World) (m : Nat) (most : Int) (s : ByteArray) (c : Code) (pre : List (Tk s)) (W : World) : Prop :=
  c = .ret ∧ ∃ p0 x p cc, pre = p0 ++ [x] ∧ EncI d w m most s p0 p cc W ∧ fits most x.1 = false ∧ Boxed W (w.heap.size + 1 + 1 + 1) 62 (.slice p (idsOf d s (p0.map Subtype.val)).length cc) ∧ Boxed W (w.heap.size + 1 + 1 + 1 + 1) 77 (.int .i64 2) ∧ Boxed W (w.heap.size + 1 + 1 + 1 + 1 + 1) 34 (.int .i64 0)
theorem EncX.own {d : Dat} {w : World} {m B : Nat} {most : Int} {s : ByteArray} (hB : w.heap.size ≤ B) (c : Code) : OwnFrom B (EncX d w m most s c) := fun pre A C row ⟨hc, p0, x, p, cc, hp, h, hx, h3, h4, h5⟩ hg hr => by
  have hr2 := fun r e => (hr r e).2
  have h' := EncI.own (d := d) (m := m) (most := most) (s := s) hB p0 A C row ⟨p, cc, h⟩ hg hr
  obtain ⟨v3, g3⟩ := h.k3
  obtain ⟨v4, g4⟩ := h.k4
  obtain ⟨v5, g5⟩ := h.k5
  exact ⟨hc, p0, x, p, cc, hp, ⟨ext_row h.ext hg (fun r e => Nat.le_trans hB (hr r e).1), boxed_row h.k0 hg hr2, boxed_row h.k1 hg hr2, boxed_row h.k2 hg hr2, ⟨v3, boxed_row g3 hg hr2⟩, ⟨v4, boxed_row g4 hg hr2⟩, ⟨v5, boxed_row g5 hg hr2⟩, boxed_row h.k6 hg hr2, boxed_row h.k7 hg hr2, boxed_row h.k8 hg hr2, arr_rowN h.arr hg hr2, h.fr, h.fit⟩, hx, boxed_row h3 hg hr2, boxed_row h4 hg hr2, boxed_row h5 hg hr2⟩
theorem nine_boxes (w : World) (v0 v1 v2 v3 v4 v5 v6 v7 v8 : Value) (t0 t1 t2 t3 t4 t5 t6 t7 t8 : Nat) : ∃ W0, (((((((((w.alloc (.cells #[v0] t0)).alloc (.cells #[v1] t1)).alloc (.cells #[v2] t2)).alloc (.cells #[v3] t3)).alloc (.cells #[v4] t4)).alloc (.cells #[v5] t5)).alloc (.cells #[v6] t6)).alloc (.cells #[v7] t7)).alloc (.cells #[v8] t8)) = W0 ∧ Ext (fun _ => False) w W0 ∧ W0.heap.size = w.heap.size + 1 + 1 + 1 + 1 + 1 + 1 + 1 + 1 + 1 ∧ Boxed W0 (w.heap.size) t0 v0 ∧ Boxed W0 (w.heap.size + 1) t1 v1 ∧ Boxed W0 (w.heap.size + 1 + 1) t2 v2 ∧ Boxed W0 (w.heap.size + 1 + 1 + 1) t3 v3 ∧ Boxed W0 (w.heap.size + 1 + 1 + 1 + 1) t4 v4 ∧ Boxed W0 (w.heap.size + 1 + 1 + 1 + 1 + 1) t5 v5 ∧ Boxed W0 (w.heap.size + 1 + 1 + 1 + 1 + 1 + 1) t6 v6 ∧ Boxed W0 (w.heap.size + 1 + 1 + 1 + 1 + 1 + 1 + 1) t7 v7 ∧ Boxed W0 (w.heap.size + 1 + 1 + 1 + 1 + 1 + 1 + 1 + 1) t8 v8 := by
  have n0 := Boxed.new w t0 v0
  have n1 := Boxed.new (w.alloc (.cells #[v0] t0)) t1 v1
  have n2 := Boxed.new ((w.alloc (.cells #[v0] t0)).alloc (.cells #[v1] t1)) t2 v2
  have n3 := Boxed.new (((w.alloc (.cells #[v0] t0)).alloc (.cells #[v1] t1)).alloc (.cells #[v2] t2)) t3 v3
  have n4 := Boxed.new ((((w.alloc (.cells #[v0] t0)).alloc (.cells #[v1] t1)).alloc (.cells #[v2] t2)).alloc (.cells #[v3] t3)) t4 v4
  have n5 := Boxed.new (((((w.alloc (.cells #[v0] t0)).alloc (.cells #[v1] t1)).alloc (.cells #[v2] t2)).alloc (.cells #[v3] t3)).alloc (.cells #[v4] t4)) t5 v5
  have n6 := Boxed.new ((((((w.alloc (.cells #[v0] t0)).alloc (.cells #[v1] t1)).alloc (.cells #[v2] t2)).alloc (.cells #[v3] t3)).alloc (.cells #[v4] t4)).alloc (.cells #[v5] t5)) t6 v6
  have n7 := Boxed.new (((((((w.alloc (.cells #[v0] t0)).alloc (.cells #[v1] t1)).alloc (.cells #[v2] t2)).alloc (.cells #[v3] t3)).alloc (.cells #[v4] t4)).alloc (.cells #[v5] t5)).alloc (.cells #[v6] t6)) t7 v7
  have n8 := Boxed.new ((((((((w.alloc (.cells #[v0] t0)).alloc (.cells #[v1] t1)).alloc (.cells #[v2] t2)).alloc (.cells #[v3] t3)).alloc (.cells #[v4] t4)).alloc (.cells #[v5] t5)).alloc (.cells #[v6] t6)).alloc (.cells #[v7] t7)) t8 v8
  simp only [World.size_alloc] at n1 n2 n3 n4 n5 n6 n7 n8
  exact ⟨_, rfl, (((((((((Ext.refl _ w).alloc _).alloc _).alloc _).alloc _).alloc _).alloc _).alloc _).alloc _).alloc _, by simp, ((((((((n0.alloc _).alloc _).alloc _).alloc _).alloc _).alloc _).alloc _).alloc _), (((((((n1.alloc _).alloc _).alloc _).alloc _).alloc _).alloc _).alloc _), ((((((n2.alloc _).alloc _).alloc _).alloc _).alloc _).alloc _), (((((n3.alloc _).alloc _).alloc _).alloc _).alloc _), ((((n4.alloc _).alloc _).alloc _).alloc _), (((n5.alloc _).alloc _).alloc _), ((n6.alloc _).alloc _), (n7.alloc _), n8⟩
theorem EncI.end_ {d : Dat} {w : World} {m : Nat} {most : Int} {s : ByteArray} {pre : List (Tk s)} {p : Option Addr} {c D : Nat} {A B : World} {st : Int} (h : EncI d w m most s pre p c A) (g3 : Boxed A (w.heap.size + 1 + 1 + 1) 62 (.slice p (idsOf d s (pre.map Subtype.val)).length c)) (g4 : Boxed A (w.heap.size + 1 + 1 + 1 + 1) 77 (.int .i64 st)) (g5 : Boxed A (w.heap.size + 1 + 1 + 1 + 1 + 1) 34 (.int .i64 0))
    (hDw : w.heap.size ≤ D) (hD : A.heap[D]? = some (.deferred (some []))) (hx : Ext (fun k => k = D) A B) :
    B.cell? ⟨w.heap.size + 1 + 1 + 1, 0, none⟩ = some (.slice p (idsOf d s (pre.map Subtype.val)).length c) ∧ B.cell? ⟨w.heap.size + 1 + 1 + 1 + 1, 0, none⟩ = some (.int .i64 st) ∧ B.cell? ⟨w.heap.size + 1 + 1 + 1 + 1 + 1, 0, none⟩ = some (.int .i64 0) ∧
      EncEnd w (idsOf d s (pre.map Subtype.val)) st (.returned (.tuple #[.slice p (idsOf d s (pre.map Subtype.val)).length c, .int .i64 st, .int .i64 0])) B := by
  have nd : ∀ {k t : Nat} {v : Value}, Boxed A k t v → k ≠ D := fun hb e => by subst e; rw [show A.heap[_]? = _ from hb] at hD; cases hD
  have c3 := Boxed.cell (hx.obj g3 (fun e => nd g3 e))
  have c4 := Boxed.cell (hx.obj g4 (fun e => nd g4 e))
  have c5 := Boxed.cell (hx.obj g5 (fun e => nd g5 e))
  refine ⟨c3, c4, c5, p, c, rfl, arr_ext h.arr hx (fun k hk e => ?_), h.ext.trans hx (fun i hi e => ?_), fun k hk => by have := h.fr k hk; omega⟩
  · obtain ⟨o, ho, hc⟩ := arr_isCells h.arr hk
    rw [e, hD] at ho
    cases ho
    cases hc
  · subst e
    omega
set_option maxRecDepth 100000 in
set_option maxHeartbeats 8000000 in
theorem encode_any {w : World} {m : Nat} {d : Dat} (hm : IsCut w m d) (hd : RightD d) (hT : Tabs w) (most : Int) (hm1 : 1 ≤ most) (hm2 : most ≤ 65536) (s : ByteArray) (hs : s.size ≤ 1048576) :
    Calls Tryz.prog 37 #[.pointer (some ⟨m, 0, none⟩), .int .i64 most, .string s] w fun e w' => EncEnd w (encT d most s).1 (if (encT d most s).2 = true then 2 else 1) e w' := by
  obtain ⟨EL, hEL⟩ : ∃ l, (encT d most s).1 = l := ⟨_, rfl⟩
  obtain ⟨ES, hES⟩ : ∃ st : Int, (if (encT d most s).2 = true then 2 else 1) = st := ⟨_, rfl⟩
  rw [hEL, hES]
  have HE := Lib.hid (And.intro hEL hES)
  clear hEL hES
  refine (callsIn_wide (n := 3)).1 ?_
  refine callsIn_of_wp_marks Tryz.func37 rfl trivial ?_ rfl
  simp only [Tryz.ntmps37, List.size_toArray, List.length_cons, List.length_nil, Nat.reduceAdd, Nat.reduceSub, Array.replicate_succ, Array.replicate_zero, List.push_toArray, List.append_toArray, List.nil_append, List.cons_append]
  gi_wp2
  refine ⟨trivial, (callsIn_wide.2 (wrong_any m most s.size hm1 hm2 hs _)).mono ?_⟩
  rintro e w' ⟨rfl, rfl⟩
  gi_wp2
  refine ⟨trivial, (all_in 2 m s _).mono ?_⟩
  rintro e w' ⟨rfl, rfl⟩
  gi_wp2
  obtain ⟨W0, hW0, X0, SZ, b0, b1, b2, b3, b4, b5, b6, b7, b8⟩ := nine_boxes w (.pointer (some ⟨m, 0, none⟩)) (.int .i64 most) (.string s) (.slice none 0 0) (.int .i64 0) (.int .i64 0) (.slice none 0 0) (.pointer (some ⟨m, 0, none⟩)) (.string s) 27 3 9 62 77 34 62 27 9
  rw [hW0]
  clear hW0
  have I0 : EncI d w m most s [] none 0 W0 := ⟨X0, b0, b1, b2, ⟨_, b3⟩, ⟨_, b4⟩, ⟨_, b5⟩, b6, b7, b8, arr_nil _ _ _, (fun k hk => by cases hk), (fun x hx => by cases hx)⟩
  have HSZ := Lib.hid SZ
  have hwz : w.heap.size ≤ W0.heap.size := X0.size
  refine wpIn_rangeFunc_ownH rfl (by decide) (gf := 77) (lb := #[.pointer (some ⟨w.heap.size + 1 + 1 + 1 + 1 + 1 + 1 + 1, 0, none⟩), .pointer (some ⟨w.heap.size + 1 + 1 + 1 + 1 + 1 + 1 + 1 + 1, 0, none⟩)]) rfl trivial (enters_of Tryz.func77 (by kernel_rfl) rfl)
    (all_stops 2 (by decide) m (w.heap.size + 1 + 1 + 1 + 1 + 1 + 1 + 1) (w.heap.size + 1 + 1 + 1 + 1 + 1 + 1 + 1 + 1) (fun k => k ≠ w.heap.size + 1 + 1 + 1 + 1 + 1 + 1 + 1 ∧ k ≠ w.heap.size + 1 + 1 + 1 + 1 + 1 + 1 + 1 + 1) w W0 d s hs hm hT (fun h => h.1 rfl) (fun h => h.2 rfl) b7.cell b8.cell X0)
    KeepW.trans (fun W l o o' hl h hc _ => keepW_b W l o o' (Nat.le_trans hwz hl) h hc) (Below.refl _ _) (fun _ => rfl)
    (fun pre W => ∃ p c, EncI d w m most s pre p c W) (fun c pre W => EncX d w m most s c pre W) (EncI.own hwz) (fun c => EncX.own hwz c) ⟨none, 0, I0⟩
    (fun x a' W => ∃ Bx, w.heap.size + 1 + 1 + 1 + 1 + 1 + 1 + 1 + 1 < Bx ∧ W.heap[Bx]? = some (.cells #[.int .i64 x.1.a, .int .i64 x.1.b, .int .i64 x.1.so] 117 (0, 0)) ∧ a' = { tmps := #[.pointer (some ⟨m, 0, none⟩), .int .i64 most, .string s, .pointer (some ⟨w.heap.size, 0, none⟩), .pointer (some ⟨w.heap.size + 1, 0, none⟩), .pointer (some ⟨w.heap.size + 1 + 1, 0, none⟩), .pointer (some ⟨w.heap.size + 1 + 1 + 1, 0, none⟩), .pointer (some ⟨w.heap.size + 1 + 1 + 1 + 1, 0, none⟩), .pointer (some ⟨w.heap.size + 1 + 1 + 1 + 1 + 1, 0, none⟩), .int .i64 0, .pointer (some ⟨w.heap.size + 1 + 1 + 1 + 1 + 1 + 1, 0, none⟩), .pointer (some ⟨Bx, 0, none⟩), undef, undef, .pointer (some ⟨m, 0, none⟩), .int .i64 most, .string s, .int .i64 s.size, .int .i64 0, .int .i64 0, .bool false, undef, .pointer (some ⟨m, 0, none⟩), .string s, .func (.func 77) #[] #[.pointer (some ⟨w.heap.size + 1 + 1 + 1 + 1 + 1 + 1 + 1, 0, none⟩), .pointer (some ⟨w.heap.size + 1 + 1 + 1 + 1 + 1 + 1 + 1 + 1, 0, none⟩)], .agg #[.int .i64 x.1.a, .int .i64 x.1.b, .int .i64 x.1.so], undef, undef, undef, undef, undef, undef, undef, undef, undef, undef, undef, undef, undef, undef, undef, undef, undef, undef, undef, undef, undef, undef, undef, undef, undef, undef, undef], defers := [] })
    ?hax ?assign ?body ?done ?stop
  case hax =>
    rintro x a' _ A C row ⟨Bx, h1, h2, h3⟩ hg hr
    exact ⟨Bx, h1, (hg.block Bx (blk_lt h2) (fun e => by obtain ⟨o, ho, hc⟩ := (hr Bx e.symm).2; rw [h2] at ho; cases ho; cases hc)).trans h2, h3⟩
  case assign =>
    rintro l pre x W K ⟨p, c, hI⟩ hK
    simp only [tkV]
    gi_wp2
    exact hK _ _ ((KeepsOthers.alloc _ _).from _) ⟨KeepC.ext ((Ext.refl (fun _ => False) W).alloc _) (fun _ h _ => h.elim), fun h => h.alloc _⟩ ⟨p, c, hI.on ((Ext.refl _ W).alloc _)⟩ ⟨W.heap.size, by have := hI.k8.lt; omega, heap_alloc_new W _, rfl⟩
  case body =>
    rintro l pre x a' W hl ⟨r, hr⟩ ⟨p, c, hI⟩ ⟨Bx, hBx, bX, rfl⟩ hlt
    have hlen := toks_le d s
    have hids := idsOf_le d s hs pre
    have HI := Lib.hid hI
    have BX := Lib.hid bX
    have xab := x.2.1
    have xbs := x.2.2
    have PL := Lib.hid (pieceT_le d s x.1 x.2.1)
    have MG := Lib.hid (fun w' (hx : Ext (fun _ => False) W w') => mergeB_any ((hm.on (hI.ext.trans hx (fun _ _ h => h))).model) hd (s.extract x.1.a x.1.b))
    have hmg : mergeT d (s.extract x.1.a x.1.b) = (pieceT d s x.1, 0) := if_neg (by rw [ByteArray.size_extract]; omega)
    rw [hmg] at MG
    clear hmg
    have FT := Lib.hid (show fits most x.1 = decide ((x.1.b : Int) - x.1.a ≤ most) from rfl)
    obtain ⟨xa, hxa⟩ : ∃ k, x.1.a = k := ⟨_, rfl⟩
    obtain ⟨xb, hxb⟩ : ∃ k, x.1.b = k := ⟨_, rfl⟩
    rw [hxa, hxb] at MG FT xab
    rw [hxa, hxb] at BX
    rw [hxb] at xbs
    rw [hxa, hxb]
    obtain ⟨ys, hys⟩ : ∃ k, pieceT d s x.1 = k := ⟨_, rfl⟩
    rw [hys] at MG PL
    obtain ⟨N, hN⟩ : ∃ N, idsOf d s (pre.map Subtype.val) = N := ⟨_, rfl⟩
    rw [hN] at hids
    have k6 := hI.k6
    have ka := hI.arr
    rw [hN] at k6 ka
    have K6 := Lib.hid k6
    have KA := Lib.hid ka
    have HN := Lib.hid hN
    have HY := Lib.hid hys
    have CE := Lib.hid (show ∀ w', Ext (fun _ => False) W w' → (w'.cell? ⟨w.heap.size, 0, none⟩ = some (.pointer (some ⟨m, 0, none⟩)) ∧ w'.cell? ⟨w.heap.size + 1 + 1, 0, none⟩ = some (.string s) ∧ w'.cell? ⟨Bx, 0, none⟩ = some (.int .i64 xa) ∧ w'.cell? ⟨Bx, 1, none⟩ = some (.int .i64 xb)) from fun w' hx =>
      have bb := hx.obj BX.out (fun h => h)
      ⟨Boxed.cell (hx.obj hI.k0 (fun h => h)), Boxed.cell (hx.obj hI.k2 (fun h => h)), blk_cell bb 0, blk_cell bb 1⟩)
    have x0 := blk_cell BX.out 0
    have x1 := blk_cell BX.out 1
    simp at x0 x1
    have q1 := hI.k1.cell
    have q6 := k6.cell
    obtain ⟨v3, g3⟩ := hI.k3
    obtain ⟨v4, g4⟩ := hI.k4
    obtain ⟨v5, g5⟩ := hI.k5
    have z3 := g3.cell
    have z4 := g4.cell
    have z5 := g5.cell
    have y3 := g3.frozen
    have y4 := g4.frozen
    have y5 := g5.frozen
    have l3 := g3.lt
    have l4 := g4.lt
    have l5 := g5.lt
    have G3 := Lib.hid g3
    have G4 := Lib.hid g4
    have G5 := Lib.hid g5
    have j1 : (xa : Int) ≤ (xb : Int) := by omega
    have j2 : (xb : Int) ≤ (s.size : Int) := by omega
    have j3 : (s.size : Int) ≤ 1048576 := by omega
    clear hxa hxb hys hN hI bX k6 ka g3 g4 g5 X0 SZ b0 b1 b2 b3 b4 b5 b6 b7 b8 I0 hr hm hT
    by_cases hf : (xb : Int) - xa ≤ most
    · have d1 : ¬ most < (xb : Int) - (xa : Int) := by omega
      have FX := Lib.hid (show fits most x.1 = true from by rw [FT.out]; exact decide_eq_true hf)
      clear hf z3 z4 z5 y3 y4 y5 l3 l4 l5
      gi_wp2
      refine startW_ (m := 15) (S := fun w' => w'.cell? ⟨w.heap.size, 0, none⟩ = some (.pointer (some ⟨m, 0, none⟩)) ∧ w'.cell? ⟨w.heap.size + 1 + 1, 0, none⟩ = some (.string s) ∧ w'.cell? ⟨Bx, 0, none⟩ = some (.int .i64 xa) ∧ w'.cell? ⟨Bx, 1, none⟩ = some (.int .i64 xb)) (ds := []) (ls 15 0) (by kernel_rfl) rfl (fun ⟨_, _, h⟩ => h) rfl rfl (CE.out _ ((Ext.refl _ W).drew)) (fun hHeld => ?_)
      refine pure_ (i := 2) (N := some 39) (v := ?_) (a' := ?_) (ls 15 4) rfl rfl (by kernel_rfl) (fun _ _ _ h => h) (Or.inl ⟨by rfl, ?_⟩) ?_ ?_
      rotate_left
      · intro w'; go_simp; with_reducible rfl
      rotate_left
      · simp only [Act.put, List.setIfInBounds_toArray, List.set_cons_zero, List.set_cons_succ, i64_w, i32_w]; rfl
      refine pure_ (i := 3) (N := some 40) (v := ?_) (a' := ?_) (ls 15 12) rfl rfl (by kernel_rfl) (fun _ _ _ h => h) (Or.inl ⟨by rfl, ?_⟩) ?_ ?_
      rotate_left
      · intro w'; go_simp; with_reducible rfl
      rotate_left
      · simp only [Act.put, List.setIfInBounds_toArray, List.set_cons_zero, List.set_cons_succ, i64_w, i32_w]; rfl
      refine pure_ (i := 5) (N := some 42) (v := ?_) (a' := ?_) (ls 15 44) rfl rfl (by kernel_rfl) (fun _ _ _ h => h) (Or.inl ⟨by rfl, ?_⟩) ?_ ?_
      rotate_left
      · intro w'; go_simp; with_reducible rfl
      rotate_left
      · simp only [Act.put, List.setIfInBounds_toArray, List.set_cons_zero, List.set_cons_succ, i64_w, i32_w]; rfl
      refine pure_ (i := 6) (N := some 43) (v := ?_) (a' := ?_) (ls 15 108) rfl rfl (by kernel_rfl) (fun _ _ _ h => h) (Or.inl ⟨by rfl, ?_⟩) ?_ ?_
      rotate_left
      · intro w'; go_simp; with_reducible rfl
      rotate_left
      · simp only [Act.put, List.setIfInBounds_toArray, List.set_cons_zero, List.set_cons_succ, i64_w, i32_w]; rfl
      refine take_ (i := 0) (N := some 37) (v := ?_) (a' := ?_) (ls 15 109) rfl rfl (by kernel_rfl) (fun _ _ _ h => h) (Or.inl ⟨by rfl, ?_⟩) hHeld ?_ ?_
      rotate_left
      · rintro w' ⟨s0, s1, s2, s3⟩; go_simp; with_reducible rfl
      rotate_left
      · simp only [Act.put, List.setIfInBounds_toArray, List.set_cons_zero, List.set_cons_succ, i64_w, i32_w]; rfl
      refine take_ (i := 1) (N := some 38) (v := ?_) (a' := ?_) (ls 15 111) rfl rfl (by kernel_rfl) (fun _ _ _ h => h) (Or.inl ⟨by rfl, ?_⟩) hHeld ?_ ?_
      rotate_left
      · rintro w' ⟨s0, s1, s2, s3⟩; go_simp; with_reducible rfl
      rotate_left
      · simp only [Act.put, List.setIfInBounds_toArray, List.set_cons_zero, List.set_cons_succ, i64_w, i32_w]; rfl
      refine take_ (i := 4) (N := some 41) (v := ?_) (a' := ?_) (ls 15 127) rfl rfl (by kernel_rfl) (fun _ _ _ h => h) (Or.inl ⟨by rfl, ?_⟩) hHeld ?_ ?_
      rotate_left
      · rintro w' ⟨s0, s1, s2, s3⟩; go_simp; with_reducible rfl
      rotate_left
      · simp only [Act.put, List.setIfInBounds_toArray, List.set_cons_zero, List.set_cons_succ, i64_w, i32_w]; rfl
      refine take_ (i := 7) (N := some 44) (v := ?_) (a' := ?_) (ls 15 255) rfl rfl (by kernel_rfl) (fun _ _ _ h => h) (Or.inl ⟨by rfl, ?_⟩) hHeld ?_ ?_
      rotate_left
      · rintro w' ⟨s0, s1, s2, s3⟩; go_simp; with_reducible rfl
      rotate_left
      · simp only [Act.put, List.setIfInBounds_toArray, List.set_cons_zero, List.set_cons_succ, i64_w, i32_w]; rfl
      refine pure_ (i := 8) (N := some 45) (v := ?_) (a' := ?_) (ls 15 511) rfl rfl (by kernel_rfl) (fun _ _ _ h => h) (Or.inl ⟨by rfl, ?_⟩) ?_ ?_
      rotate_left
      · intro w'; go_simp; with_reducible rfl
      rotate_left
      · simp only [Act.put, List.setIfInBounds_toArray, List.set_cons_zero, List.set_cons_succ, i64_w, i32_w]; rfl
      refine one_ (i := 9) (N := some 46) (ls 15 1023) rfl rfl (by kernel_rfl) (by decide) (fun K hK => ?_)
      refine goes_ Tryz.func58 (by kernel_rfl) rfl #[.pointer (some ⟨m, 0, none⟩), .string (s.extract xa xb)] (by rfl) rfl rfl (by (try simp only [List.map_toArray, List.map_cons, List.map_nil]); first | done | rfl) ?_
      refine (MG.out _ ((Ext.refl _ W).drew)).mono ?_
      rintro e w1 ⟨p2, c2, rfl, hA2, hx2, hf2⟩
      have X2 := Lib.hid (show Ext (fun _ => False) W w1 from ((Ext.refl _ W).drew).trans hx2 (fun _ _ h => h))
      have A2 := Lib.hid hA2
      have F2 := Lib.hid hf2
      clear hA2 hx2 hf2
      refine ⟨_, rfl, ?_⟩
      refine hK.out _ _ (CE.out _ X2.out) (fun hHeld => ?_)
      clear hK K
      refine norm_ (a' := ?_) ?_ ?_
      rotate_left
      · simp only [Act.put, List.setIfInBounds_toArray, List.set_cons_zero, List.set_cons_succ, i64_w, i32_w]; rfl
      refine pure_ (i := 10) (N := some 36) (v := ?_) (a' := ?_) (ls 15 2047) rfl rfl (by kernel_rfl) (fun _ _ _ h => h) (Or.inl ⟨by rfl, ?_⟩) ?_ ?_
      rotate_left
      · intro w'; go_simp; with_reducible rfl
      rotate_left
      · simp only [Act.put, List.setIfInBounds_toArray, List.set_cons_zero, List.set_cons_succ, i64_w, i32_w]; rfl
      refine pure_ (i := 11) (N := some 47) (v := ?_) (a' := ?_) (ls 15 4095) rfl rfl (by kernel_rfl) (fun _ _ _ h => h) (Or.inl ⟨by rfl, ?_⟩) ?_ ?_
      rotate_left
      · intro w'; go_simp; with_reducible rfl
      rotate_left
      · simp only [Act.put, List.setIfInBounds_toArray, List.set_cons_zero, List.set_cons_succ, i64_w, i32_w]; rfl
      refine pure_ (i := 12) (N := some 48) (v := ?_) (a' := ?_) (ls 15 8191) rfl rfl (by kernel_rfl) (fun _ _ _ h => h) (Or.inl ⟨by rfl, ?_⟩) ?_ ?_
      rotate_left
      · intro w'; go_simp; with_reducible rfl
      rotate_left
      · simp only [Act.put, List.setIfInBounds_toArray, List.set_cons_zero, List.set_cons_succ, i64_w, i32_w]; rfl
      refine pure_ (i := 13) (N := some 12) (v := ?_) (a' := ?_) (ls 15 16383) rfl rfl (by kernel_rfl) (fun _ _ _ h => h) (Or.inl ⟨by rfl, ?_⟩) ?_ ?_
      rotate_left
      · intro w'; go_simp; with_reducible rfl
      rotate_left
      · simp only [Act.put, List.setIfInBounds_toArray, List.set_cons_zero, List.set_cons_succ, i64_w, i32_w]; rfl
      refine pure_ (i := 14) (N := some 13) (v := ?_) (a' := ?_) (ls 15 32767) rfl rfl (by kernel_rfl) (fun _ _ _ h => h) (Or.inl ⟨by rfl, ?_⟩) ?_ ?_
      rotate_left
      · intro w'; go_simp; with_reducible rfl
      rotate_left
      · simp only [Act.put, List.setIfInBounds_toArray, List.set_cons_zero, List.set_cons_succ, i64_w, i32_w]; rfl
      refine done_ (by kernel_rfl) ?_
      have H2 := Lib.hid (HI.out.on X2.out)
      have K6' := X2.out.obj K6.out (fun h => h)
      have s6 := Boxed.cell K6'
      have KA2 := Lib.hid (arr_ext KA.out X2.out (fun _ _ h => h))
      clear hHeld x0 x1 q1 q6 CE MG
      have pl := PL.out
      gi_upto_region 10 with (fail)
      refine startL_ rfl (fun ⟨_, _, h⟩ => h) ?_
      go_wp2_with (at_builtin; refine arr_append rfl (.tmp 49) (.tmp 50) 62 3 1 8 (.int .i64 0) rfl Tryz.underlying62 infoI rfl (by decide) (by decide) p N.length c (ints N) rfl p2 ys.length c2 rfl (ints ys) (by simp [ints]) (fun ad h j u hu => (ints_rd A2.out).src ad h j u (by rw [ints_flat]; exact hu)) (fun h => by have := A2.out; rw [h] at this; exact (arr_none this).1) (fun u hu => by simp only [ints, List.mem_map] at hu; obtain ⟨z, _, rfl⟩ := hu; rfl) KA2.out (by omega) ?_; intro p3 c3 w3 hA3 hx3 hm3; have PT := Lib.hid (H2.out.put (x := x) HN.out HY.out FX.out hx3 hm3 hA3); have X3 := Lib.hid hx3; have K6w := hx3.obj K6' (fun e => by have := HI.out.fr _ e; omega); have s6 := Boxed.cell K6w; have s7 := Boxed.frozen K6w; have s8 := Boxed.lt K6w; clear hA3 hx3 hm3)
      have NP := Lib.hid (show ∀ k, blkOf p = some k → w.heap.size + 1 + 1 + 1 + 1 + 1 + 1 + 1 + 1 < k from HI.out.fr)
      refine ⟨KeepsOthers.from ⟨?_, fun k o hk ho => ?_⟩ _, ⟨KeepC.ext (S := fun k => blkOf p = some k ∨ k = w.heap.size + 1 + 1 + 1 + 1 + 1 + 1) ?_ (fun k h _ => ?_), fun hx => ?_⟩, p3, c3, PT.out⟩
      · have h1 := X2.out.size
        have h2 := X3.out.size
        simp
        omega
      · refine (KeepsOthers.setCell w3 ⟨w.heap.size + 1 + 1 + 1 + 1 + 1 + 1, 0, none⟩ _).same k o (X3.out.obj (X2.out.obj hk (fun h => h)) (fun e => ?_)) ho
        obtain ⟨o2, ho2, hc2⟩ := arr_isCells KA.out e
        rw [hk] at ho2
        cases ho2
        rw [ho] at hc2
        cases hc2
      · exact ((X2.out.mono (fun _ h => h.elim)).trans (X3.out.mono (fun _ h => .inl h)) (fun _ _ h => h)).setCell (fun _ => .inr rfl) _
      · rcases h with h | h
        · have := NP.out k h; omega
        · omega
      · exact (((hx.trans X2.out (fun _ _ h => h)).trans X3.out (fun i hi h => by have := NP.out i h; omega)).setCell (fun e => absurd e (show ¬ (w.heap.size + 1 + 1 + 1 + 1 + 1 + 1 < w.heap.size) by omega)) _)
    · have d1 : most < (xb : Int) - (xa : Int) := by omega
      have FX := Lib.hid (show fits most x.1 = false from by rw [FT.out]; exact decide_eq_false hf)
      clear hf
      have RT := Lib.hid (HI.out.rets (.slice p N.length c) (.int .i64 2) (.int .i64 0))
      have KO := Lib.hid (show ∀ a b e, KeepsOthers W (((W.setCell ⟨w.heap.size + 1 + 1 + 1, 0, none⟩ a).setCell ⟨w.heap.size + 1 + 1 + 1 + 1, 0, none⟩ b).setCell ⟨w.heap.size + 1 + 1 + 1 + 1 + 1, 0, none⟩ e) from fun a b e => ((KeepsOthers.setCell _ _ _).trans (KeepsOthers.setCell _ _ _)).trans (KeepsOthers.setCell _ _ _))
      gi_wp2
      refine ⟨(KO.out _ _ _).from _, rfl, pre, x, p, c, rfl, RT.out.1, FX.out, ?_, RT.out.2.2.1, RT.out.2.2.2⟩
      rw [HN.out]
      exact RT.out.2.1
  case done =>
    rintro D ys W hBD hys ⟨p, c, hI⟩ hK
    have HE2 := Lib.hid (show idsOf d s (ys.map Subtype.val) = EL ∧ (1 : Int) = ES from by
      have e := encT_all (d := d) (most := most) (s := s) (fun x hx => hI.fit x (by rw [hys]; exact hx))
      have h := HE.out
      rw [e] at h
      exact ⟨by rw [hys]; exact h.1, h.2⟩)
    have q6 := hI.k6.cell
    obtain ⟨v3, g3⟩ := hI.k3
    obtain ⟨v4, g4⟩ := hI.k4
    obtain ⟨v5, g5⟩ := hI.k5
    have z3 := g3.cell
    have z4 := g4.cell
    have z5 := g5.cell
    have y3 := g3.frozen
    have y4 := g4.frozen
    have y5 := g5.frozen
    have l3 := g3.lt
    have l4 := g4.lt
    have l5 := g5.lt
    obtain ⟨N, hN⟩ : ∃ N, (idsOf d s (ys.map Subtype.val)).length = N := ⟨_, rfl⟩
    have RT := Lib.hid (hI.rets (.slice p N c) (.int .i64 1) (.int .i64 0))
    have HNN := Lib.hid hN
    have ND := Lib.hid (show D ≠ w.heap.size + 1 + 1 + 1 ∧ D ≠ w.heap.size + 1 + 1 + 1 + 1 ∧ D ≠ w.heap.size + 1 + 1 + 1 + 1 + 1 from by omega)
    have HK := Lib.hid hK
    have HDW := Lib.hid (show w.heap.size ≤ D from by omega)
    rw [hN] at q6
    clear hN g3 g4 g5 hI hys hK X0 SZ b0 b1 b2 b3 b4 b5 b6 b7 b8 I0 hm hT
    gi_wp2
    have ck := blk_far (p := ⟨w.heap.size + 1 + 1 + 1 + 1 + 1, 0, none⟩) (blk_far (p := ⟨w.heap.size + 1 + 1 + 1 + 1, 0, none⟩) (blk_far (p := ⟨w.heap.size + 1 + 1 + 1, 0, none⟩) HK.out ND.out.1 (.slice p N c)) ND.out.2.1 (.int .i64 1)) ND.out.2.2 (.int .i64 0)
    show LeavesInM Fence.wide 3 _ _ _ _ [{ target := .collected D, args := #[] }] .returning _
    refine leaves_mark1 ck (fun w2 hw => ?_)
    have E := (RT.out.1).end_ (by rw [HNN.out]; exact RT.out.2.1) RT.out.2.2.1 RT.out.2.2.2 HDW.out ck hw
    rw [HE2.out.1, HE2.out.2] at E
    obtain ⟨r3, r4, r5, E⟩ := E
    exact ⟨_, by simp [results, Tryz.f37, go_sem, r3, r4, r5], E⟩
  case stop =>
    rintro D cc pre W hBD hpre ⟨rfl, p0, x, p, c, rfl, hI, hfx, g3, g4, g5⟩ hK
    have HE2 := Lib.hid (show idsOf d s (p0.map Subtype.val) = EL ∧ (2 : Int) = ES from by
      obtain ⟨u, hu⟩ := hpre
      rw [List.map_append, List.append_assoc] at hu
      have e := encT_stop (d := d) (most := most) (s := s) (l := p0.map Subtype.val) (u := u) (x := x.1) hu.symm (fun y hy => hI.fit y hy) hfx
      have h := HE.out
      rw [e] at h
      exact h)
    have ND := Lib.hid hK
    clear hpre X0 SZ b0 b1 b2 b3 b4 b5 b6 b7 b8 I0 hm hT
    gi_wp2
    show LeavesInM Fence.wide 3 _ _ _ _ [{ target := .collected D, args := #[] }] .returning _
    refine leaves_mark1 ND.out (fun w2 hw => ?_)
    have E := hI.end_ g3 g4 g5 (by omega) ND.out hw
    rw [HE2.out.1, HE2.out.2] at E
    obtain ⟨r3, r4, r5, E⟩ := E
    exact ⟨_, by simp [results, Tryz.f37, go_sem, r3, r4, r5], E⟩
end Go.Proofs.YtigpaaelggnffaaGreatDoor.Cut
