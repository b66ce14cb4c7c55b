/- heap.Heap[tessera/bpe.pair]: New, Len, Least. -/
import Derived.Test.YtbepmbihonnkaaaHeapBa
namespace Go.Proofs.Ytbepmbihonnkaaa.HeapB
open Go.RowKit Go.Proofs.Ytbepmbihonnkaaa.Lib Go.Proofs.Ytbepmbihonnkaaa.HeapPure Go.Proofs.Ytbepmbihonnkaaa.ElBpe
set_option linter.unusedVariables false
set_option linter.unusedSimpArgs false

theorem new_any (w : World) :
    Calls Try.prog 66 #[.func (.func 67) #[] #[]] w fun e w' => e = .returned (.pointer (some ⟨w.heap.size, 0, none⟩)) ∧ Mem w' w.heap.size none 0 [] ∧ Ext (fun _ => False) w w' := by
  have hq : ∀ W, (binOp .eql 124 (.func (.func 67) #[] #[]) Value.nilFunc).run Try.prog W = .ok (.bool false) W := fun W => by kernel_rfl
  go_enter Try.func66, Try.ntmps66
  go_wp2
  go_ret
  exact ⟨rfl, ⟨heap_alloc_new _ _, arr_nil _ _ _, by simp⟩, (Ext.refl _ _).alloc _⟩

theorem least_none {w : World} {g : Nat} {p : Option Addr} {c : Nat} (hM : Mem w g p c []) :
    Calls Try.prog 85 #[.pointer (some ⟨g, 0, none⟩)] w fun e w' => e = .returned (.tuple #[.agg #[.int .i64 0, .int .i64 0, .int .i64 0, .int .i64 0, .int .i64 0, .int .i64 0], .bool false]) ∧ Ext (fun _ => False) w w' := by
  have r1 := hM.cell1.1
  simp at r1
  have g1 := blk_lt hM.blk
  go_enter Try.func85, Try.ntmps85
  go_wp2
  exact bodyPost_ret (v := .tuple #[.agg #[.int .i64 0, .int .i64 0, .int .i64 0, .int .i64 0, .int .i64 0, .int .i64 0], .bool false]) (by simp [results, Try.results85, go_sem]) rfl ⟨rfl, by repeat (first | exact Ext.refl _ _ | refine Ext.drew ?_ | refine Ext.alloc ?_ _ | refine Ext.setCell ?_ (fun h => by simp at h) _)⟩

set_option maxHeartbeats 400000 in
theorem least_some {w : World} {g : Nat} {p : Option Addr} {c : Nat} {xs : List El} (hM : Mem w g p c xs) (hne : xs ≠ []) (X : El) (hX : at_ xs 0 = X) :
    Calls Try.prog 85 #[.pointer (some ⟨g, 0, none⟩)] w fun e w' => e = .returned (.tuple #[.agg #[.int .i64 X.f0, .int .i64 X.f1, .int .i64 X.f2, .int .i64 X.f3, .int .i64 X.f4, .int .i64 X.f5], .bool true]) ∧ Ext (fun _ => False) w w' := by
  have hl : 0 < xs.length := List.length_pos_iff.2 hne
  have r1 := hM.cell1.1
  have g1 := blk_lt hM.blk
  obtain ⟨a, rfl⟩ := arr_some hM.row hl
  have al := arr_lt hM.row (k := a) rfl
  have E := hM.elem 0 hl X hX
  (try simp at E)
  obtain ⟨e0, e1, e2, e3, e4, e5, ef0, ef1, ef2, ef3, ef4, ef5⟩ := E
  have i1 : (0 : Int) < (xs.length : Int) := by omega
  have hz : ((xs.length : Int) == 0) = false := by simp; exact hne
  clear hne hX
  go_enter Try.func85, Try.ntmps85
  go_wp2
  exact bodyPost_ret (v := .tuple #[.agg #[.int .i64 X.f0, .int .i64 X.f1, .int .i64 X.f2, .int .i64 X.f3, .int .i64 X.f4, .int .i64 X.f5], .bool true]) (by simp [results, Try.results85, go_sem]) rfl ⟨rfl, by repeat (first | exact Ext.refl _ _ | refine Ext.drew ?_ | refine Ext.alloc ?_ _ | refine Ext.setCell ?_ (fun h => by simp at h) _)⟩
end Go.Proofs.Ytbepmbihonnkaaa.HeapB
