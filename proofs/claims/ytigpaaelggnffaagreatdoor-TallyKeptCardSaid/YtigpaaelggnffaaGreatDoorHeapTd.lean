/- heap.Heap[tessera/tally.Row]: Of. -/
import Derived.Test.YtigpaaelggnffaaGreatDoorHeapTc
namespace Go.Proofs.YtigpaaelggnffaaGreatDoor.HeapT
open Go.RowKit Go.Proofs.YtigpaaelggnffaaGreatDoor.Lib Go.Proofs.YtigpaaelggnffaaGreatDoor.HeapPure Go.Proofs.YtigpaaelggnffaaGreatDoor.ElTal
set_option linter.unusedVariables false
set_option linter.unusedSimpArgs false

def OfSt (W w : World) (X : Nat → El) (k : Nat) : Prop := ∃ p1 c1, Mem w W.heap.size p1 c1 (pushAll less ((List.range k).map X)) ∧ Ext (fun _ => False) W w ∧ ∀ b, blkOf p1 = some b → W.heap.size ≤ b
theorem OfSt.step {W w w1 w2 : World} {X : Nat → El} {k : Nat} {p : Option Addr} {c : Nat} (hM : Mem w W.heap.size p c (pushAll less ((List.range k).map X))) (hx : Ext (fun _ => False) W w) (hb : ∀ b, blkOf p = some b → W.heap.size ≤ b)
    (h1 : Ext (fun _ => False) w w1) {e : Ending} (h2 : PushEnd w1 W.heap.size p (pushAll less ((List.range k).map X)) (X k) e w2) : OfSt W w2 X (k + 1) := by
  obtain ⟨v, p1, c1, _, hM2, hx2, hm⟩ := h2
  have hs := h1.size
  have hs2 := hx.size
  refine ⟨p1, c1, ?_, (hx.trans h1 (fun _ _ h => h)).trans hx2 ?_, fun b hb2 => ?_⟩
  · rw [List.range_succ, List.map_append, List.map_singleton, pushAll_snoc]; exact hM2
  · rintro i hi (rfl | h)
    · omega
    · have := hb i h; omega
  · rcases hm b hb2 with h | h
    · exact hb b h
    · omega

set_option maxHeartbeats 1000000 in
set_option maxRecDepth 100000 in
/-- Of. -/
theorem of_any (W : World) (p : Option Addr) (n c : Nat) (X : Nat → El) (hn : n < 100000000) (hR : Reads W 2 p n (fun i => (X i).cells)) :
    Calls Tryz.prog 50 #[.func (.func 51) #[] #[], .slice p n c] W fun e w' => e = .returned (.pointer (some ⟨W.heap.size, 0, none⟩)) ∧ OfSt W w' X n := by
  go_enter Tryz.func50, Tryz.ntmps50
  go_wp2_with fail
  refine (new_any W).mono ?_
  rintro e w1 ⟨rfl, hM, hx⟩
  have H1 := Lib.hid (show OfSt W w1 X 0 from ⟨none, 0, hM, hx, by simp⟩)
  have HR := Lib.hid hR
  clear hM hx hR
  go_wp2_with fail
  go_loopw [12] (fun i wr => ∃ k : Nat, k ≤ n ∧ i = .int .i64 k ∧ OfSt W wr X k) (fun i _ => n - (intOf i).toNat)
  case atStart => exact ⟨0, Nat.zero_le _, rfl, H1.out⟩
  case round =>
    obtain ⟨k, hk, rfl, hst⟩ := hrel
    have HS := Lib.hid hst
    obtain ⟨p1, c1, hM, hx, hb⟩ := hst
    by_cases hlt : k < n
    · obtain ⟨b, o, rfl, hbl, hc⟩ := (HR.out.ext hx (fun _ _ _ h => h)) k hlt
      have t0 := hc 0 (by omega)
      simp [El.cells] at t0
      have t1 := hc 1 (by omega)
      simp [El.cells] at t1
      have i1 : (k : Int) < (n : Int) := by omega
      have HP := Lib.hid (push_any (wr.alloc (.cells #[.int .i64 (X k).f0, .int .i64 (X k).f1] 45)) W.heap.size p1 c1 _ (X k) (hM.ext ((Ext.refl (fun _ => False) wr).alloc (.cells #[.int .i64 (X k).f0, .int .i64 (X k).f1] 45)) (fun h => h) (fun _ _ h => h)) (by rw [pushAll_length]; simp; omega))
      have HM := Lib.hid hM
      have HX := Lib.hid hx
      have HB := Lib.hid hb
      clear hM hx hb hc
      go_wp2_with fail
      refine HP.out.mono ?_
      rintro e w2 h2
      have T := Lib.hid (OfSt.step HM.out HX.out HB.out ((Ext.refl (fun _ => False) wr).alloc (.cells #[.int .i64 (X k).f0, .int .i64 (X k).f1] 45)) h2)
      obtain ⟨v, _, _, rfl, _⟩ := h2
      clear HP
      go_wp2_with fail
      go_roundw
      case rel => exact ⟨k + 1, by omega, by go_num, T.out⟩
      case measure => simp [intOf]; omega
    · obtain rfl : k = n := by omega
      clear hM hx hb
      go_wp2_with fail
      go_ret
      exact ⟨rfl, HS.out⟩
end Go.Proofs.YtigpaaelggnffaaGreatDoor.HeapT
