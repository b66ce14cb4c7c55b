/- Maps of the call's own, whose keys may be met again: a store, and a loop over all entries, in whatever order the tape says. -/
import Derived.Test.YtigpaaelggnffaaGreatDoorModelPairs
import Derived.Maps.RangeRun
namespace Go.Proofs.YtigpaaelggnffaaGreatDoor.Sl
open Go.RowKit Go.Proofs.YtigpaaelggnffaaGreatDoor.Lib
set_option linter.unusedVariables false
set_option linter.unusedSimpArgs false

/-- The map in block b holds l; its stamps are in order. -/
def MapS (w : World) (b : Nat) (l : List (Value × Value)) : Prop := ∃ es clock, w.heap[b]? = some (.map es clock) ∧ es.toList.map (fun e => (e.key, e.val)) = l ∧ MapKept.Stamped es clock
section
variable {P : Program} {w w' : World} {b : Nat} {l : List (Value × Value)} {Ok : Value → Prop} {T k e : TypeId}
theorem MapS.at (h : MapS w b l) : MapAt w b l := by
  obtain ⟨es, c, hb, hl, _⟩ := h
  exact ⟨es, c, hb, hl⟩
theorem MapS.ext {S : Nat → Prop} (h : MapS w b l) (hx : Ext S w w') (hn : ¬ S b) : MapS w' b l := by
  obtain ⟨es, c, hb, hl⟩ := h
  exact ⟨es, c, hx.obj hb hn, hl⟩
theorem MapS.new (w : World) : MapS (w.alloc (.map #[] 0)) w.heap.size [] := ⟨#[], 0, heap_alloc_new w _, rfl, MapKept.stamped_empty 0⟩
theorem MapS.lt (h : MapS w b l) : b < w.heap.size := h.at.lt
theorem MapS.nodup (h : MapS w b l) : l.Pairwise fun x y => x.1 ≠ y.1 := by
  obtain ⟨es, c, hb, rfl, hs⟩ := h
  rw [List.pairwise_map]
  exact ((MapKept.stamped_iff _ _).1 hs).2.2
theorem ext_setIf (w : World) (b : Nat) (o : Obj) : Ext (fun k => k = b) w { w with heap := w.heap.setIfInBounds b o } :=
  ⟨rfl, rfl, rfl, by simp, fun i hi hn => by
    simp [Array.getElem?_setIfInBounds]
    intro h
    exact absurd h.symm hn⟩
theorem run_putS (hT : P.underlying T = some (.map k e)) (F : KeyFit P k Ok) (h : MapS w b l) (hl : ∀ p ∈ l, Ok p.1) (x v : Value) (hx : Ok x) (hst : ∀ w : World, (Instr.keyThatStays x x).run P w = .ok x w) :
    ∃ w', (Instr.mapUpdate T (.map (some b)) x v).run P w = .ok () w' ∧ Ext (fun k => k = b) w w' ∧
      ((∃ i u, l[i]? = some (x, u) ∧ MapS w' b (l.set i (x, v))) ∨ ((∀ p ∈ l, p.1 ≠ x) ∧ MapS w' b (l ++ [(x, v)]))) := by
  obtain ⟨es, c, hb, rfl, hs⟩ := h
  have hes : ∀ y ∈ es.toList, Ok y.key := fun y hy => hl (y.key, y.val) (List.mem_map.2 ⟨y, hy, rfl⟩)
  have hg := MapKept.run_getObj_map (P := P) hb
  have hbl := blk_lt hb
  rcases F.find w x hx es.toList hes with ⟨h1, h2⟩ | ⟨j, y, h1, h2, h3⟩
  · refine ⟨{ w with heap := w.heap.setIfInBounds b (.map (es.push { key := x, val := v, born := c }) (c + 1)) }, by simp [Instr.mapUpdate, run_underlying hT, hg, F.check w _ x hx, h1, MapKept.run_setObj_map (P := P) _ hb], ext_setIf _ _ _, .inr ⟨?_, es.push { key := x, val := v, born := c }, c + 1, ?_, ?_, ?_⟩⟩
    · intro p hp
      obtain ⟨y, hy, rfl⟩ := List.mem_map.1 hp
      exact h2 y hy
    · simp [Array.getElem?_setIfInBounds, hbl]
    · simp
    · exact MapKept.stamped_push hs h2
  · have hj : es[j]? = some y := by simpa using h2
    refine ⟨{ w with heap := w.heap.setIfInBounds b (.map (es.modify j fun e => { e with key := x, val := v }) c) }, by simp [Instr.mapUpdate, run_underlying hT, hg, F.check w _ x hx, h1, hj, h3, hst, MapKept.run_setObj_map (P := P) _ hb], ext_setIf _ _ _, .inl ⟨j, y.val, ?_, es.modify j fun e => { e with key := x, val := v }, c, ?_, ?_, ?_⟩⟩
    · rw [List.getElem?_map, h2]
      simp [h3]
    · simp [Array.getElem?_setIfInBounds, hbl]
    · apply List.ext_getElem?
      intro i
      rw [List.getElem?_map, List.getElem?_set, Array.getElem?_toList, Array.getElem?_modify]
      by_cases hij : j = i
      · subst hij
        have : j < es.size := by
          rcases Nat.lt_or_ge j es.size with h' | h'
          · exact h'
          · rw [Array.getElem?_eq_none h'] at hj; cases hj
        simp [hj, this]
      · simp [hij]
    · exact MapKept.stamped_modify hs _ _ (fun _ _ => rfl) (fun e' _ he' => by rw [hj] at he'; cases he'; exact h3.symm)

/-- A loop over the map in block b, its iterator in block r: all entries are l; those of L are still to come. -/
def Rng (w : World) (b r : Nat) (l L : List (Value × Value)) : Prop :=
  ∃ es clock since seen c0, w.heap[b]? = some (.map es clock) ∧ es.toList.map (fun e => (e.key, e.val)) = l ∧ MapKept.Stamped es clock ∧ (∀ x ∈ es.toList, x.born < since) ∧ (since ≤ c0 ∧ since ≤ clock) ∧
    w.heap[r]? = some (.mapIter (some b) since seen c0) ∧ (leftOf es seen).toList.map (fun e => (e.key, e.val)) = L
theorem Rng.ext {r : Nat} {L : List (Value × Value)} {S : Nat → Prop} (h : Rng w b r l L) (hx : Ext S w w') (hb : ¬ S b) (hr : ¬ S r) : Rng w' b r l L := by
  obtain ⟨es, c, s, q, c0, h1, h2, h3, h4, h5, h6, h7⟩ := h
  exact ⟨es, c, s, q, c0, hx.obj h1 hb, h2, h3, h4, h5, hx.obj h6 hr, h7⟩
theorem run_rangeS (hT : P.underlying T = some (.map k e)) (h : MapS w b l) :
    ∃ o, (Instr.range T (.map (some b))).run P w = .ok (.pointer (some ⟨w.heap.size, 0, none⟩)) (w.alloc o) ∧ Rng (w.alloc o) b w.heap.size l l := by
  obtain ⟨es, c, hb, rfl, hs⟩ := h
  refine ⟨.mapIter (some b) c #[] c, run_range_map w T k e b es c hT hb, es, c, c, #[], c, ?_, rfl, hs, ((MapKept.stamped_iff _ _).1 hs).1, ⟨Nat.le_refl _, Nat.le_refl _⟩, heap_alloc_new w _, ?_⟩
  · rw [heap_alloc_old w _ (blk_lt hb)]; exact hb
  · congr 1
    unfold leftOf
    simp
theorem run_nextS {r : Nat} {L : List (Value × Value)} (h : Rng w b r l L) (hbr : b ≠ r) (ty : TypeId) :
    (L = [] ∧ (Instr.next (.pointer (some ⟨r, 0, none⟩)) false ty).run P w = .ok (.tuple #[.bool false]) w) ∨
    ∃ pre x post w', L = pre ++ x :: post ∧ (Instr.next (.pointer (some ⟨r, 0, none⟩)) false ty).run P w = .ok (.tuple #[.bool true, x.1, x.2]) w' ∧ Rng w' b r l (pre ++ post) ∧ Ext (fun k => k = r) w w' ∧
      ∀ w'' : World, w''.heap[b]? = w'.heap[b]? → w''.heap[r]? = w'.heap[r]? → (Instr.entry (.pointer (some ⟨r, 0, none⟩))).run P w'' = .ok (.tuple #[x.1, x.2]) w'' := by
  obtain ⟨es, c, s, q, c0, h1, h2, h3, h4, h5, h6, h7⟩ := h
  have hn := ((MapKept.stamped_iff _ _).1 h3).2.1
  have hcl := ((MapKept.stamped_iff _ _).1 h3).1
  rcases run_next_at (P := P) w ty r b s c0 q es c h6 h1 h4 h5.1 with ⟨e1, e2⟩ | ⟨y, hy, w1, hw1, e2⟩
  · refine .inl ⟨?_, e2⟩
    rw [← h7, List.map_eq_nil_iff, Array.toList_eq_nil_iff]
    exact Array.eq_empty_of_size_eq_zero e1
  · obtain ⟨pre, post, hpp⟩ := List.append_of_mem hy
    have hyes := (mem_left hy).1
    have hb1 : w1.heap = w.heap := by rcases hw1 with rfl | rfl <;> rfl
    have hrlt := blk_lt h6
    have hblt := blk_lt h1
    have hx : Ext (fun k => k = r) w (ChangeMaps.setBlock w1 r (.mapIter (some b) s (q.push y.born) c)) := by
      have e3 := ext_setIf w1 r (.mapIter (some b) s (q.push y.born) c)
      rcases hw1 with rfl | rfl
      · exact e3
      · exact ((Ext.refl (fun k => k = r) w).drew).trans e3 (fun _ _ h => h)
    have hbs : (ChangeMaps.setBlock w1 r (.mapIter (some b) s (q.push y.born) c)).heap[b]? = some (.map es c) := by
      simp [ChangeMaps.setBlock, hb1, Array.getElem?_setIfInBounds, Ne.symm hbr, h1]
    have hrs : (ChangeMaps.setBlock w1 r (.mapIter (some b) s (q.push y.born) c)).heap[r]? = some (.mapIter (some b) s (q.push y.born) c) := by
      simp [ChangeMaps.setBlock, hb1, Array.getElem?_setIfInBounds, hrlt]
    refine .inr ⟨pre.map (fun e => (e.key, e.val)), (y.key, y.val), post.map (fun e => (e.key, e.val)), _, ?_, e2, ⟨es, c, s, q.push y.born, c, hbs, h2, h3, h4, ?_, hrs, ?_⟩, hx, ?_⟩
    · rw [← h7, hpp]; simp
    · exact ⟨h5.2, h5.2⟩
    · rw [← List.map_append]
      congr 1
      have e4 : (leftOf es (q.push y.born)).toList = (leftOf es q).toList.filter (fun x => !(x.born == y.born)) := by
        unfold leftOf
        rw [Array.toList_filter, Array.toList_filter, List.filter_filter]
        congr 1
        funext x
        rw [contains_push]
        cases q.contains x.born <;> cases (x.born == y.born) <;> rfl
      have hnl : ((leftOf es q).toList.map (·.born)).Nodup := by
        unfold leftOf
        rw [Array.toList_filter]
        exact hn.sublist (List.Sublist.map _ List.filter_sublist)
      rw [e4, hpp, List.filter_append, List.filter_cons]
      rw [hpp] at hnl
      simp only [List.map_append, List.map_cons, List.nodup_append, List.nodup_cons] at hnl
      rw [if_neg (by simp)]
      congr 1
      · refine List.filter_eq_self.2 fun x hx => ?_
        simp only [Bool.not_eq_true', beq_eq_false_iff_ne, ne_eq]
        intro he
        exact hnl.2.2 x.born (List.mem_map.2 ⟨x, hx, rfl⟩) y.born (.head _) he
      · refine List.filter_eq_self.2 fun x hx => ?_
        simp only [Bool.not_eq_true', beq_eq_false_iff_ne, ne_eq]
        intro he
        exact hnl.2.1.1 (List.mem_map.2 ⟨x, hx, he⟩)
    · intro w'' hb2 hr2
      exact run_entry_at w'' r b s q es c y (hr2.trans hrs) (hb2.trans hbs) hyes hn
end
end Go.Proofs.YtigpaaelggnffaaGreatDoor.Sl
