/- (*model.Model).Merge: the rank of two ids' merge. -/
import Derived.Test.YtbepmbihonnkaaaRight
import Derived.Test.YtbepmbihonnkaaaBpeInv
import Derived.BigQuiet
namespace Go.Proofs.Ytbepmbihonnkaaa.Bpe
open Go.RowKit Go.Proofs.Ytbepmbihonnkaaa.Lib Go.Proofs.Ytbepmbihonnkaaa.Sl
set_option linter.unusedVariables false
set_option linter.unusedSimpArgs false

/-- No pair has two merges. -/
def OnePair (ms : List Mrg) : Prop := ∀ (k : Nat) (x : Mrg), ms[k]? = some x → hasPair (ms.take k) x.l x.r = false
/-- What Merge tells. -/
def mergeV (ms : List Mrg) (l r : Int) : Value := match mergeOf ms l r with
  | some (k, id) => .tuple #[.int .i64 (k : Int), .int .i64 id, .bool true]
  | none => .tuple #[.int .i64 0, .int .i64 0, .bool false]
theorem ents_pair {ms : List Mrg} (hp : OnePair ms) {l r : Int} {v : Value} (h : ((.agg #[.int .i64 l, .int .i64 r] : Value), v) ∈ entsM 0 ms) : ∃ (k : Nat) (id : Int), mergeOf ms l r = some (k, id) ∧ v = .agg #[.int .i64 (k : Int), .int .i64 id] := by
  obtain ⟨j, y, hy, ev⟩ := entsM_mem h
  simp at ev
  obtain ⟨⟨rfl, rfl⟩, rfl⟩ := ev
  refine ⟨j, y.i, mergeOf_at hy fun i z hi hz hc => ?_, by simp⟩
  have := hp j y hy
  unfold hasPair at this
  rw [List.any_eq_false] at this
  have hm : z ∈ ms.take j := List.mem_of_getElem? (i := i) (by rw [List.getElem?_take, if_pos hi]; exact hz)
  have := this z hm
  simp [hc] at this
theorem ents_no {ms : List Mrg} {l r : Int} (h : ∀ p ∈ entsM 0 ms, p.1 ≠ .agg #[.int .i64 l, .int .i64 r]) : mergeOf ms l r = none := by
  cases e : mergeOf ms l r with
  | none => rfl
  | some t =>
    obtain ⟨k, id⟩ := t
    obtain ⟨x, hx, h1, h2, _⟩ := mergeOf_some e
    have : hasPair ms l r = true := by
      unfold hasPair
      rw [List.any_eq_true]
      exact ⟨x, List.mem_of_getElem? hx, by simp [h1, h2]⟩
    obtain ⟨p, hp, he⟩ := entsM_has (i := 0) this
    exact absurd he (h p hp)
set_option maxRecDepth 100000 in
set_option maxHeartbeats 1000000 in
theorem merge_any {w : World} {a : Nat} {d : Dat} (h : IsModel w a d) (hp : OnePair d.ms) (l r : Int) :
    Calls Try.prog 83 #[.pointer (some ⟨a, 0, none⟩), .int .i64 l, .int .i64 r] w fun e w' => e = .returned (mergeV d.ms l r) ∧ Ext (fun _ => False) w w' := by
  obtain ⟨L, tp, mp, q0, q1, q2, d0, d1, d2, hm⟩ := h
  have c6 := hm.blk.c6
  have ha := blk_lt hm.blk.blk
  have HM := hm.map
  have hmp := HM.lt
  have hok : ∀ p ∈ entsM 0 d.ms, ∃ a b : Int, p.1 = .agg #[.int .i64 a, .int .i64 b] := fun p hp => by
    obtain ⟨j, y, _, e⟩ := entsM_mem hp
    exact ⟨y.l, y.r, by rw [e]⟩
  have HP := Lib.hid hp
  go_enter Try.func83, Try.ntmps83
  rcases run_look_u (P := Try.prog) Try.underlying90 pairFit pairFind HM hok (.agg #[.int .i64 l, .int .i64 r]) (.agg #[.int .i64 0, .int .i64 0]) ⟨_, _, rfl⟩ (fun W => by kernel_rfl) with ⟨v, hv, hrun⟩ | ⟨hno, hrun⟩
  · obtain ⟨k, id, e1, rfl⟩ := ents_pair hp hv
    have E := Lib.hid (show mergeV d.ms l r = .tuple #[.int .i64 (k : Int), .int .i64 id, .bool true] from by unfold mergeV; rw [e1])
    have hr1 := hrun w rfl
    have hr2 := hrun (w.alloc (.cells #[.int .i64 0, .int .i64 0] 142)) (Below.heap_alloc _ _ _ hmp)
    clear hrun hok HM hv e1 hm hp
    go_wp2_with fail
    go_quiet (fail)
    go_wp2_with fail
    exact bodyPost_ret (v := .tuple #[.int .i64 (k : Int), .int .i64 id, .bool true]) (by simp [results, Try.results83, go_sem]) rfl ⟨by rw [E.out], by repeat (first | exact Ext.refl _ _ | refine Ext.drew ?_ | refine Ext.drewN ?_ _ | refine Ext.alloc ?_ _ | refine Ext.setCell ?_ (fun h => by simp at h) _)⟩
  · have E := Lib.hid (show mergeV d.ms l r = .tuple #[.int .i64 0, .int .i64 0, .bool false] from by unfold mergeV; rw [ents_no hno])
    have hr1 := hrun w rfl
    have hr2 := hrun (w.alloc (.cells #[.int .i64 0, .int .i64 0] 142)) (Below.heap_alloc _ _ _ hmp)
    clear hrun hok HM hno hm hp
    go_wp2_with fail
    go_quiet (fail)
    go_wp2_with fail
    exact bodyPost_ret (v := .tuple #[.int .i64 0, .int .i64 0, .bool false]) (by simp [results, Try.results83, go_sem]) rfl ⟨by rw [E.out], by repeat (first | exact Ext.refl _ _ | refine Ext.drew ?_ | refine Ext.drewN ?_ _ | refine Ext.alloc ?_ _ | refine Ext.setCell ?_ (fun h => by simp at h) _)⟩
end Go.Proofs.Ytbepmbihonnkaaa.Bpe
