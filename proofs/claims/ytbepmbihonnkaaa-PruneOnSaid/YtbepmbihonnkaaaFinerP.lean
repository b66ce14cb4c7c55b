/- Merging by the model with fewer merges, pure. -/
import Derived.Test.YtbepmbihonnkaaaBpeCatP
import Derived.Test.YtbepmbihonnkaaaCutPure
namespace Go.Proofs.Ytbepmbihonnkaaa.Bpe
open Go.RowKit Go.Proofs.Ytbepmbihonnkaaa.Lib Go.Proofs.Ytbepmbihonnkaaa.Sl
set_option linter.unusedVariables false
set_option linter.unusedSimpArgs false

section
variable {d : Dat} {n : Nat}
/-- All ids are bytes or made by the first n merges. -/
def Low (d : Dat) (n : Nat) (l : List Int) : Prop := ∀ x ∈ l, madeB (d.ms.take n) x = true
theorem cut_at {j : Nat} {y : Mrg} (hy : (cutD d n).ms[j]? = some y) : ∃ x : Mrg, d.ms[j]? = some x ∧ j < n ∧ y = ⟨nm d n x.l, nm d n x.r, nm d n x.i⟩ := by
  rw [cutD_ms, List.getElem?_map, List.getElem?_take] at hy
  split at hy
  · rename_i hj
    cases e : d.ms[j]? with
    | none => rw [e] at hy; cases hy
    | some x =>
      rw [e] at hy
      cases hy
      exact ⟨x, rfl, hj, rfl⟩
  · cases hy
theorem at_cut {j : Nat} {x : Mrg} (hx : d.ms[j]? = some x) (hj : j < n) : (cutD d n).ms[j]? = some ⟨nm d n x.l, nm d n x.r, nm d n x.i⟩ := by
  rw [cutD_ms, List.getElem?_map, List.getElem?_take, if_pos hj, hx]
  rfl
theorem merge_cut (hd : RightD d) (hnm : n ≤ d.ms.length) {a b : Int} (ha : madeB (d.ms.take n) a = true) (hb : madeB (d.ms.take n) b = true) {k : Nat} {id : Int} (h : mergeOf d.ms a b = some (k, id)) (hk : k < n) :
    mergeOf (cutD d n).ms (nm d n a) (nm d n b) = some (k, nm d n id) := by
  obtain ⟨x, hx, rfl, rfl, rfl, hno⟩ := mergeOf_some h
  have h1 := at_cut hx hk
  refine mergeOf_at h1 fun j y hj hy hc => ?_
  obtain ⟨z, hz, hzn, rfl⟩ := cut_at hy
  have el := nm_inj hd n hnm (made_le (hd.pl j z hz) (by omega)) ha hc.1
  have er := nm_inj hd n hnm (made_le (hd.pr j z hz) (by omega)) hb hc.2
  exact hno j z hj hz ⟨el, er⟩
theorem cut_merge (hd : RightD d) (hnm : n ≤ d.ms.length) {a b : Int} (ha : madeB (d.ms.take n) a = true) (hb : madeB (d.ms.take n) b = true) {k : Nat} {id : Int} (h : mergeOf (cutD d n).ms (nm d n a) (nm d n b) = some (k, id)) :
    k < n ∧ ∃ id0, mergeOf d.ms a b = some (k, id0) ∧ id = nm d n id0 := by
  obtain ⟨y, hy, h1, h2, h3, hno⟩ := mergeOf_some h
  obtain ⟨x, hx, hk, rfl⟩ := cut_at hy
  have el := nm_inj hd n hnm (made_le (hd.pl k x hx) (by omega)) ha h1
  have er := nm_inj hd n hnm (made_le (hd.pr k x hx) (by omega)) hb h2
  refine ⟨hk, x.i, ?_, h3.symm⟩
  rw [← el, ← er]
  refine mergeOf_at hx fun j z hj hz hc => ?_
  exact hno j _ hj (at_cut hz (by omega)) ⟨by show nm d n z.l = _; rw [hc.1, el], by show nm d n z.r = _; rw [hc.2, er]⟩
theorem low_at {l : List Int} (hl : Low d n l) {i : Nat} {x : Int} (h : l[i]? = some x) : madeB (d.ms.take n) x = true := hl x (List.mem_of_getElem? h)
theorem at_map (hd : RightD d) (hnm : n ≤ d.ms.length) {l : List Int} (hl : Low d n l) {i r : Nat} {id : Int} (h : At d.ms l i r id) (hr : r < n) : At (cutD d n).ms (l.map (nm d n)) i r (nm d n id) := by
  obtain ⟨a, b, h1, h2, h3⟩ := h
  exact ⟨nm d n a, nm d n b, by rw [List.getElem?_map, h1]; rfl, by rw [List.getElem?_map, h2]; rfl, merge_cut hd hnm (low_at hl h1) (low_at hl h2) h3 hr⟩
theorem map_at (hd : RightD d) (hnm : n ≤ d.ms.length) {l : List Int} (hl : Low d n l) {i r : Nat} {id : Int} (h : At (cutD d n).ms (l.map (nm d n)) i r id) : r < n ∧ ∃ id0, At d.ms l i r id0 ∧ id = nm d n id0 := by
  obtain ⟨a, b, h1, h2, h3⟩ := h
  rw [List.getElem?_map, Option.map_eq_some_iff] at h1 h2
  obtain ⟨a0, h1, rfl⟩ := h1
  obtain ⟨b0, h2, rfl⟩ := h2
  obtain ⟨hk, id0, h4, h5⟩ := cut_merge hd hnm (low_at hl h1) (low_at hl h2) h3
  exact ⟨hk, id0, ⟨a0, b0, h1, h2, h4⟩, h5⟩
theorem next_map (hd : RightD d) (hnm : n ≤ d.ms.length) {l : List Int} (hl : Low d n l) {i r : Nat} {id : Int} (h : nextT d.ms l = some (r, i, id)) (hr : r < n) : nextT (cutD d n).ms (l.map (nm d n)) = some (r, i, nm d n id) := by
  have hs := nextT_some h
  refine nextT_is ⟨at_map hd hnm hl hs.1 hr, fun j r' id' hc => ?_⟩
  obtain ⟨_, id0, h0, _⟩ := map_at hd hnm hl hc
  exact hs.2 j r' id0 h0
theorem next_stop (hd : RightD d) (hnm : n ≤ d.ms.length) {l : List Int} (hl : Low d n l) (h : ∀ r i id, nextT d.ms l = some (r, i, id) → n ≤ r) : nextT (cutD d n).ms (l.map (nm d n)) = none := by
  refine nextT_no fun j r id hc => ?_
  obtain ⟨hr, id0, h0, _⟩ := map_at hd hnm hl hc
  cases e : nextT d.ms l with
  | none => exact nextT_none e _ _ _ h0
  | some t =>
    obtain ⟨r1, i1, id1⟩ := t
    have h1 := h _ _ _ e
    have h2 := (nextT_some e).2 _ _ _ h0
    omega
theorem step_map (N : Int → Int) (l : List Int) (i : Nat) (id : Int) : stepT (l.map N) i (N id) = (stepT l i id).map N := by
  unfold stepT
  rw [← List.map_set, List.eraseIdx_eq_take_drop_succ, List.eraseIdx_eq_take_drop_succ, List.map_append, List.map_take, List.map_drop]
theorem step_low (hd : RightD d) (hnm : n ≤ d.ms.length) {l : List Int} (hl : Low d n l) {i r : Nat} {id : Int} (h : At d.ms l i r id) (hr : r < n) : Low d n (stepT l i id) := by
  obtain ⟨p, a, b, q, rfl, rfl, hm, hs⟩ := h.split
  obtain ⟨x, hx, _, _, rfl, _⟩ := mergeOf_some hm
  rw [hs]
  intro y hy
  rw [List.mem_append, List.mem_cons] at hy
  rcases hy with hy | rfl | hy
  · exact hl y (List.mem_append_left _ hy)
  · exact nm_self hd n hnm hx hr
  · exact hl y (List.mem_append_right _ (List.mem_cons_of_mem _ (List.mem_cons_of_mem _ hy)))
/-- The steps of the first n merges come ahead; those are the lesser model's. -/
theorem low_phase (hd : RightD d) (hnm : n ≤ d.ms.length) (l : List Int) : Low d n l → ∃ l1, Low d n l1 ∧ (joinT (cutD d n).ms (l.map (nm d n))).1 = l1.map (nm d n) ∧ (joinT d.ms l).1 = (joinT d.ms l1).1 ∧ ∀ r i id, nextT d.ms l1 = some (r, i, id) → n ≤ r := by
  refine join_ind d.ms (Q := fun l t => Low d n l → ∃ l1, Low d n l1 ∧ (joinT (cutD d n).ms (l.map (nm d n))).1 = l1.map (nm d n) ∧ t.1 = (joinT d.ms l1).1 ∧ ∀ r i id, nextT d.ms l1 = some (r, i, id) → n ≤ r) ?_ ?_ l
  · intro l hn hl
    have h0 : ∀ r i id, nextT d.ms l = some (r, i, id) → n ≤ r := fun r i id h => by rw [hn] at h; cases h
    exact ⟨l, hl, by rw [joinT_none (next_stop hd hnm hl h0)], by rw [joinT_none hn], h0⟩
  · intro l r i id t hn et ih hl
    by_cases hr : r < n
    · obtain ⟨l1, h1, h2, h3, h4⟩ := ih (step_low hd hnm hl (nextT_some hn).1 hr)
      refine ⟨l1, h1, ?_, h3, h4⟩
      rw [joinT_some (next_map hd hnm hl hn hr), step_map]
      exact h2
    · have h0 : ∀ r i id, nextT d.ms l = some (r, i, id) → n ≤ r := fun r' i' id' h => by rw [hn] at h; cases h; omega
      refine ⟨l, hl, by rw [joinT_none (next_stop hd hnm hl h0)], ?_, h0⟩
      rw [joinT_some hn, et]
/-- The steps of the other merges: taken down, they leave what was there. -/
theorem high_phase (hd : RightD d) (l : List Int) : (∀ r i id, nextT d.ms l = some (r, i, id) → n ≤ r) → (joinT d.ms l).1.flatMap (leavesOf d n) = l.flatMap (leavesOf d n) := by
  refine join_ind d.ms (Q := fun l t => (∀ r i id, nextT d.ms l = some (r, i, id) → n ≤ r) → t.1.flatMap (leavesOf d n) = l.flatMap (leavesOf d n)) (fun _ _ _ => rfl) ?_ l
  intro l r i id t hn et ih h
  have hr := h r i id hn
  rw [ih (fun r2 i2 id2 h2 => by have := rank_rise hd hn h2; omega)]
  obtain ⟨p, a, b, q, rfl, rfl, hm, hs⟩ := (nextT_some hn).1.split
  obtain ⟨x, hx, rfl, rfl, rfl, _⟩ := mergeOf_some hm
  rw [hs]
  simp only [List.flatMap_append, List.flatMap_cons]
  rw [leavesOf_at hd hx (by omega), List.append_assoc]
theorem low_leaves (hd : RightD d) (hnm : n ≤ d.ms.length) : ∀ {l : List Int}, Low d n l → l.flatMap (leavesOf d n) = l := by
  intro l
  induction l with
  | nil => intro _; rfl
  | cons x l ih =>
    intro h
    rw [List.flatMap_cons, ih (fun y hy => h y (List.mem_cons_of_mem _ hy))]
    rcases part_cases (h x (List.mem_cons_self ..)) with ⟨h0, h1⟩ | ⟨j, y, hj, hy, rfl⟩
    · rw [leavesOf_byte hd h1]; rfl
    · rw [leavesOf_low hd hy (by omega)]; rfl
theorem low_ok (hd : RightD d) {l : List Int} (h : Low d n l) : ∀ x ∈ l, okId d x = true := fun x hx => okId_iff.2 (hd.part_range (h x hx))
theorem bytes_low (t : ByteArray) : Low d n (bytesL t) := fun x hx => by
  have := bytes_range hx
  unfold madeB
  rw [decide_eq_true this.1, decide_eq_true this.2]; rfl
theorem bytes_nm (t : ByteArray) : (bytesL t).map (nm d n) = bytesL t := by
  have : ∀ x ∈ bytesL t, nm d n x = x := fun x hx => nm_byte n (bytes_range hx).1 (bytes_range hx).2
  rw [List.map_congr_left this, List.map_id']
theorem nameOf_nm (n : Nat) (id : Int) : nameOf d (n : Int) id = nm d n id := by
  unfold nameOf nm renAt
  rw [show mx (n : Int) 0 = (n : Int) from by rw [mx_eq]; omega]
theorem valid_ok (d : Dat) (id : Int) : validId d id = okId d id := rfl
/-- Taken down, a text's ids are those by the lesser model. -/
theorem finer_pure (hd : RightD d) (hnm : n ≤ d.ms.length) (t : ByteArray) : downT d (n : Int) (joinT d.ms (bytesL t)).1 = ((joinT (cutD d n).ms (bytesL t)).1, 0) := by
  obtain ⟨l1, h1, h2, h3, h4⟩ := low_phase hd hnm (bytesL t) (bytes_low t)
  rw [bytes_nm] at h2
  have hall : (joinT d.ms (bytesL t)).1.all (validId d) = true := List.all_eq_true.2 (join_ok hd _ (bytes_ok d))
  unfold downT
  rw [if_pos hall, h3, high_phase hd l1 h4, low_leaves hd hnm h1, h2]
  have e : l1.map (nameOf d (n : Int)) = l1.map (nm d n) := List.map_congr_left (fun x _ => nameOf_nm n x)
  rw [e]
/-- Renamed back and merged on, the lesser model's ids are the model's. -/
theorem on_pure (hd : RightD d) (hnm : n ≤ d.ms.length) (t : ByteArray) : ∃ l1, Low d n l1 ∧ (joinT (cutD d n).ms (bytesL t)).1 = l1.map (nm d n) ∧ (joinT d.ms l1).1 = (joinT d.ms (bytesL t)).1 := by
  obtain ⟨l1, h1, h2, h3, _⟩ := low_phase hd hnm (bytesL t) (bytes_low t)
  rw [bytes_nm] at h2
  exact ⟨l1, h1, h2, h3.symm⟩
end
end Go.Proofs.Ytbepmbihonnkaaa.Bpe
