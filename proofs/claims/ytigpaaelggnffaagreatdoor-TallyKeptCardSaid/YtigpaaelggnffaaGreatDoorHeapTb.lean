/- heap.Heap[tessera/tally.Row]: New, Len, Least. -/
import Derived.Test.YtigpaaelggnffaaGreatDoorHeapTa
namespace Go.Proofs.YtigpaaelggnffaaGreatDoor.HeapT
open Go.RowKit Go.Proofs.YtigpaaelggnffaaGreatDoor.Lib Go.Proofs.YtigpaaelggnffaaGreatDoor.HeapPure Go.Proofs.YtigpaaelggnffaaGreatDoor.ElTal
set_option linter.unusedVariables false
set_option linter.unusedSimpArgs false

theorem new_any (w : World) :
    Calls Tryz.prog 74 #[.func (.func 51) #[] #[]] w fun e w' => e = .returned (.pointer (some ⟨w.heap.size, 0, none⟩)) ∧ Mem w' w.heap.size none 0 [] ∧ Ext (fun _ => False) w w' := by
  have hq : ∀ W, (binOp .eql 104 (.func (.func 51) #[] #[]) Value.nilFunc).run Tryz.prog W = .ok (.bool false) W := fun W => by kernel_rfl
  go_enter Tryz.func74, Tryz.ntmps74
  go_wp2
  go_ret
  exact ⟨rfl, ⟨heap_alloc_new _ _, arr_nil _ _ _, by simp⟩, (Ext.refl _ _).alloc _⟩

theorem least_none {w : World} {g : Nat} {p : Option Addr} {c : Nat} (hM : Mem w g p c []) :
    Calls Tryz.prog 76 #[.pointer (some ⟨g, 0, none⟩)] w fun e w' => e = .returned (.tuple #[.agg #[.int .i64 0, .int .i64 0], .bool false]) ∧ Ext (fun _ => False) w w' := by
  have r1 := hM.cell1.1
  simp at r1
  have g1 := blk_lt hM.blk
  go_enter Tryz.func76, Tryz.ntmps76
  go_wp2
  exact bodyPost_ret (v := .tuple #[.agg #[.int .i64 0, .int .i64 0], .bool false]) (by simp [results, Tryz.results76, go_sem]) rfl ⟨rfl, by repeat (first | exact Ext.refl _ _ | refine Ext.drew ?_ | refine Ext.alloc ?_ _ | refine Ext.setCell ?_ (fun h => by simp at h) _)⟩

set_option maxHeartbeats 400000 in
theorem least_some {w : World} {g : Nat} {p : Option Addr} {c : Nat} {xs : List El} (hM : Mem w g p c xs) (hne : xs ≠ []) (X : El) (hX : at_ xs 0 = X) :
    Calls Tryz.prog 76 #[.pointer (some ⟨g, 0, none⟩)] w fun e w' => e = .returned (.tuple #[.agg #[.int .i64 X.f0, .int .i64 X.f1], .bool true]) ∧ Ext (fun _ => False) w w' := by
  have hl : 0 < xs.length := List.length_pos_iff.2 hne
  have r1 := hM.cell1.1
  have g1 := blk_lt hM.blk
  obtain ⟨a, rfl⟩ := arr_some hM.row hl
  have al := arr_lt hM.row (k := a) rfl
  have E := hM.elem 0 hl X hX
  (try simp at E)
  obtain ⟨e0, e1, ef0, ef1⟩ := E
  have i1 : (0 : Int) < (xs.length : Int) := by omega
  have hz : ((xs.length : Int) == 0) = false := by simp; exact hne
  clear hne hX
  go_enter Tryz.func76, Tryz.ntmps76
  go_wp2
  exact bodyPost_ret (v := .tuple #[.agg #[.int .i64 X.f0, .int .i64 X.f1], .bool true]) (by simp [results, Tryz.results76, go_sem]) rfl ⟨rfl, by repeat (first | exact Ext.refl _ _ | refine Ext.drew ?_ | refine Ext.alloc ?_ _ | refine Ext.setCell ?_ (fun h => by simp at h) _)⟩
end Go.Proofs.YtigpaaelggnffaaGreatDoor.HeapT
