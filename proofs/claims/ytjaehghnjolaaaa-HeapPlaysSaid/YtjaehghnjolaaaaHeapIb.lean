/- heap.Heap[int]: New, Len, Least. -/
import Derived.Test.YtjaehghnjolaaaaHeapIa
namespace Go.Proofs.Ytjaehghnjolaaaa.HeapI
open Go.RowKit Go.Proofs.Ytjaehghnjolaaaa.Lib Go.Proofs.Ytjaehghnjolaaaa.HeapPure Go.Proofs.Ytjaehghnjolaaaa.ElInt
set_option linter.unusedVariables false
set_option linter.unusedSimpArgs false

theorem len_any {w : World} {g : Nat} {p : Option Addr} {c : Nat} {xs : List El} (hM : Mem w g p c xs) :
    Calls Try.prog 23 #[.pointer (some ⟨g, 0, none⟩)] w fun e w' => e = .returned (.int .i64 xs.length) ∧ w = w' := by
  have r1 := hM.cell1.1
  go_enter Try.func23, Try.ntmps23
  go_wp2
  go_ret
  exact ⟨rfl, rfl⟩

theorem new_any (w : World) :
    Calls Try.prog 18 #[.func (.func 19) #[] #[]] w fun e w' => e = .returned (.pointer (some ⟨w.heap.size, 0, none⟩)) ∧ Mem w' w.heap.size none 0 [] ∧ Ext (fun _ => False) w w' := by
  have hq : ∀ W, (binOp .eql 36 (.func (.func 19) #[] #[]) Value.nilFunc).run Try.prog W = .ok (.bool false) W := fun W => by kernel_rfl
  go_enter Try.func18, Try.ntmps18
  go_wp2
  go_ret
  exact ⟨rfl, ⟨heap_alloc_new _ _, arr_nil _ _ _, by simp⟩, (Ext.refl _ _).alloc _⟩

theorem least_none {w : World} {g : Nat} {p : Option Addr} {c : Nat} (hM : Mem w g p c []) :
    Calls Try.prog 20 #[.pointer (some ⟨g, 0, none⟩)] w fun e w' => e = .returned (.tuple #[.int .i64 0, .bool false]) ∧ Ext (fun _ => False) w w' := by
  have r1 := hM.cell1.1
  simp at r1
  have g1 := blk_lt hM.blk
  go_enter Try.func20, Try.ntmps20
  go_wp2
  exact bodyPost_ret (v := .tuple #[.int .i64 0, .bool false]) (by simp [results, Try.results20, go_sem]) rfl ⟨rfl, by repeat (first | exact Ext.refl _ _ | refine Ext.drew ?_ | refine Ext.alloc ?_ _ | refine Ext.setCell ?_ (fun h => by simp at h) _)⟩

set_option maxHeartbeats 400000 in
theorem least_some {w : World} {g : Nat} {p : Option Addr} {c : Nat} {xs : List El} (hM : Mem w g p c xs) (hne : xs ≠ []) (X : El) (hX : at_ xs 0 = X) :
    Calls Try.prog 20 #[.pointer (some ⟨g, 0, none⟩)] w fun e w' => e = .returned (.tuple #[.int .i64 X.f0, .bool true]) ∧ Ext (fun _ => False) w w' := by
  have hl : 0 < xs.length := List.length_pos_iff.2 hne
  have r1 := hM.cell1.1
  have g1 := blk_lt hM.blk
  obtain ⟨a, rfl⟩ := arr_some hM.row hl
  have al := arr_lt hM.row (k := a) rfl
  have E := hM.elem 0 hl X hX
  (try simp at E)
  obtain ⟨e0, ef0⟩ := E
  have i1 : (0 : Int) < (xs.length : Int) := by omega
  have hz : ((xs.length : Int) == 0) = false := by simp; exact hne
  clear hne hX
  go_enter Try.func20, Try.ntmps20
  go_wp2
  exact bodyPost_ret (v := .tuple #[.int .i64 X.f0, .bool true]) (by simp [results, Try.results20, go_sem]) rfl ⟨rfl, by repeat (first | exact Ext.refl _ _ | refine Ext.drew ?_ | refine Ext.alloc ?_ _ | refine Ext.setCell ?_ (fun h => by simp at h) _)⟩
end Go.Proofs.Ytjaehghnjolaaaa.HeapI
