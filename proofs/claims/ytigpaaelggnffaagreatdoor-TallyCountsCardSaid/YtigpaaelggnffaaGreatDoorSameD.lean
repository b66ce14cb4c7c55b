/- tesserabook.Same at strings, merges, spans; tesserakeep.Same of equal data. -/
import Derived.Test.YtigpaaelggnffaaGreatDoorModelPairs
import Derived.BigQuiet
import Derived.Deep.QuietTactic
import Derived.WalkLawsBesides
namespace Go.Proofs.YtigpaaelggnffaaGreatDoor.Sl
open Go.Proofs.YtigpaaelggnffaaGreatDoor.Lib
open Go.RowKit
set_option linter.unusedVariables false
set_option linter.unusedSimpArgs false

theorem mrg_equalIn (d : Nat) (w : World) (x y : Mrg) : (Op.equalIn (d + 2) 125 (.agg #[.int .i64 x.l, .int .i64 x.r, .int .i64 x.i]) (.agg #[.int .i64 y.l, .int .i64 y.r, .int .i64 y.i])).run Tryz.prog w = .ok (decide (x = y)) w := by
  have hu := Tryz.underlying125
  have hi0 := Tryz.underlying3
  rw [run_equalIn_struct w (d + 1) _ _ _ (by kernel_rfl) (by kernel_rfl)]
  by_cases e0 : x.l = y.l
  · by_cases e1 : x.r = y.r
    · by_cases e2 : x.i = y.i
      · obtain rfl : x = y := by cases x; cases y; simp_all
        simp [go_sem, hu, hi0, run_equalIn_int, run_equalIn_string, run_equalIn_bool']
      · have hne : x ≠ y := fun h => e2 (by rw [h])
        simp [go_sem, hu, hi0, run_equalIn_int, run_equalIn_string, run_equalIn_bool', e0, e1, e2, hne]
    · have hne : x ≠ y := fun h => e1 (by rw [h])
      simp [go_sem, hu, hi0, run_equalIn_int, run_equalIn_string, run_equalIn_bool', e0, e1, hne]
  · have hne : x ≠ y := fun h => e0 (by rw [h])
    simp [go_sem, hu, hi0, run_equalIn_int, run_equalIn_string, run_equalIn_bool', e0, hne]
theorem mrg_neq (x y : Mrg) (w : World) : (binOp .neq 125 (.agg #[.int .i64 x.l, .int .i64 x.r, .int .i64 x.i]) (.agg #[.int .i64 y.l, .int .i64 y.r, .int .i64 y.i])).run Tryz.prog w = .ok (.bool (!decide (x = y))) w := by
  have h := mrg_equalIn 9998 w x y
  simp only [binOp]
  simp [Op.equal, Op.maxDepth, h]
theorem spn_equalIn (d : Nat) (w : World) (x y : Spn) : (Op.equalIn (d + 2) 127 (.agg #[.int .i32 x.lo, .int .i32 x.hi]) (.agg #[.int .i32 y.lo, .int .i32 y.hi])).run Tryz.prog w = .ok (decide (x = y)) w := by
  have hu := Tryz.underlying127
  have hi0 := Tryz.underlying21
  rw [run_equalIn_struct w (d + 1) _ _ _ (by kernel_rfl) (by kernel_rfl)]
  by_cases e0 : x.lo = y.lo
  · by_cases e1 : x.hi = y.hi
    · obtain rfl : x = y := by cases x; cases y; simp_all
      simp [go_sem, hu, hi0, run_equalIn_int, run_equalIn_string, run_equalIn_bool']
    · have hne : x ≠ y := fun h => e1 (by rw [h])
      simp [go_sem, hu, hi0, run_equalIn_int, run_equalIn_string, run_equalIn_bool', e0, e1, hne]
  · have hne : x ≠ y := fun h => e0 (by rw [h])
    simp [go_sem, hu, hi0, run_equalIn_int, run_equalIn_string, run_equalIn_bool', e0, hne]
theorem spn_neq (x y : Spn) (w : World) : (binOp .neq 127 (.agg #[.int .i32 x.lo, .int .i32 x.hi]) (.agg #[.int .i32 y.lo, .int .i32 y.hi])).run Tryz.prog w = .ok (.bool (!decide (x = y))) w := by
  have h := spn_equalIn 9998 w x y
  simp only [binOp]
  simp [Op.equal, Op.maxDepth, h]
theorem str_neq_t {x y : ByteArray} (h : x ≠ y) : (x.toList != y.toList) = true ∧ (x.toList == y.toList) = false := by
  have e : (x.toList == y.toList) = false := by rw [str_beq]; exact decide_eq_false h
  exact ⟨by unfold bne; rw [e]; rfl, e⟩
theorem str_neq_f (x : ByteArray) : (x.toList != x.toList) = false ∧ (x.toList == x.toList) = true := by
  have e : (x.toList == x.toList) = true := by rw [str_beq]; exact decide_eq_true rfl
  exact ⟨by unfold bne; rw [e]; rfl, e⟩
set_option maxRecDepth 100000 in
set_option maxHeartbeats 2000000 in
theorem sameS_any (w : World) (p q : Option Addr) (c c2 : Nat) (xs ys : List ByteArray) (hx : Rd eS w p xs) (hy : Rd eS w q ys) (hl : xs.length ≤ 1125899906842624) :
    Calls Tryz.prog 44 #[.slice p xs.length c, .slice q ys.length c2] w fun e w' => e = .returned (.bool (decide (xs = ys))) ∧ Ext (fun _ => False) w w' := by
  have HX := Lib.hid hx
  have HY := Lib.hid hy
  clear hx hy
  by_cases hlen : xs.length = ys.length
  · have LE := Lib.hid hlen
    rw [← hlen]
    clear hlen
    go_enter Tryz.func44, Tryz.ntmps44
    go_wp2_with fail
    go_loopw [5] (fun i wr => ∃ n : Nat, i = .int .i64 n ∧ n ≤ xs.length ∧ xs.take n = ys.take n ∧ Ext (fun _ => False) w wr) (fun i _ => xs.length - (intOf i).toNat)
    case atStart => exact ⟨0, rfl, Nat.zero_le _, rfl, Ext.refl _ _⟩
    case round =>
      obtain ⟨n, rfl, hn, hsame, hx⟩ := hrel
      have SM := Lib.hid hsame
      have EX := Lib.hid hx
      clear hsame hx
      by_cases hlt : n < xs.length
      · have i1 : (n : Int) < (xs.length : Int) := by omega
        obtain ⟨x, hx⟩ : ∃ x, xs[n]? = some x := ⟨_, List.getElem?_eq_getElem hlt⟩
        obtain ⟨y, hy⟩ : ∃ y, ys[n]? = some y := ⟨_, List.getElem?_eq_getElem (by have := LE.out; omega)⟩
        obtain ⟨b, o, hp, hb, cx⟩ := (HX.out.on EX.out).cellS hx
        obtain ⟨b', o', hq, hb', cy⟩ := (HY.out.on EX.out).cellS hy
        have XN := Lib.hid hx
        have YN := Lib.hid hy
        clear hx hy
        rw [hp, hq]
        by_cases he : x = y
        · subst he
          have hq := str_neq_f x
          have NX := Lib.hid (show xs.take (n + 1) = ys.take (n + 1) from by rw [List.take_add_one, List.take_add_one, SM.out, XN.out, YN.out])
          go_wp2_with fail
          go_quiet (fail)
          go_wp2_with fail
          go_roundw
          case rel => exact ⟨n + 1, by go_num, by omega, NX.out, EX.out.drewN _⟩
          case measure => simp [intOf]; omega
        · obtain ⟨hq1, hq2⟩ := str_neq_t he; have hq := hq1
          have NE := Lib.hid (show decide (xs = ys) = false from decide_eq_false (fun h => by subst h; have := XN.out.symm.trans YN.out; injection this with h; exact he h))
          go_wp2_with fail
          go_quiet (fail)
          go_wp2_with fail
          go_ret
          exact ⟨by rw [NE.out]; rfl, EX.out.drewN _⟩
      · have i1 : ¬ ((n : Int) < (xs.length : Int)) := by omega
        have EQ := Lib.hid (show decide (xs = ys) = true from decide_eq_true (by
          have := SM.out
          rwa [List.take_of_length_le (by omega), List.take_of_length_le (by have := LE.out; omega)] at this))
        go_wp2_with fail
        go_ret
        exact ⟨by rw [EQ.out]; rfl, EX.out⟩
  · have NE := Lib.hid (show decide (xs = ys) = false from decide_eq_false (fun h => hlen (by rw [h])))
    have hne : (xs.length : Int) ≠ (ys.length : Int) := by omega
    go_enter Tryz.func44, Tryz.ntmps44
    go_wp2_with fail
    go_ret
    exact ⟨by rw [NE.out]; rfl, Ext.refl _ _⟩
theorem two_boxes (w : World) (o p : Obj) : ∃ W, (w.alloc o).alloc p = W ∧ Ext (fun _ => False) w W ∧ W.heap[w.heap.size]? = some o ∧ W.heap[w.heap.size + 1]? = some p := by
  refine ⟨_, rfl, ((Ext.refl _ _).alloc _).alloc _, blk_alloc (heap_alloc_new w _) _, ?_⟩
  have := heap_alloc_new (w.alloc o) p
  rwa [World.size_alloc] at this
end Go.Proofs.YtigpaaelggnffaaGreatDoor.Sl
