/- Merged of ModelNew, Book, Ref5. -/
import Derived.Test.YtigpaaelggnffaaGreatDoorModelPairs
import Derived.Test.YtigpaaelggnffaaGreatDoorCutP
import Derived.Test.YtigpaaelggnffaaGreatDoorSpanPure
import Derived.Test.YtigpaaelggnffaaGreatDoorProg
import Derived.Deep.DeepCutAuto
import Derived.Deep.RegionHeld3
/- model.New; a model in memory. -/
namespace Go.Proofs.YtigpaaelggnffaaGreatDoor.Sl
open Go.Proofs.YtigpaaelggnffaaGreatDoor.Lib
open Go.RowKit
set_option linter.unusedVariables false
set_option linter.unusedSimpArgs false

/-- What is wrong with data: why, list, row. -/
def check5 (d : Dat) : Int × Int × Int :=
  if 4096 < d.ms.length then (4, 5, 4096)
  else if d.ws.length ≠ d.ms.length then (4, 4, mn d.ws.length d.ms.length)
  else if (check4 d.ls d.ns d.ss).1 ≠ 0 then check4 d.ls d.ns d.ss
  else if (wordsGo 0 [] d.ws).2 ≠ 0 then ((wordsGo 0 [] d.ws).2, 4, (wordsGo 0 [] d.ws).1)
  else if (pairsGo d.ws 0 [] d.ms).2 ≠ 0 then ((pairsGo d.ws 0 [] d.ms).2, 5, (pairsGo d.ws 0 [] d.ms).1)
  else (0, 0, 0)
/-- A right model's data at a. -/
structure ModelAt (w : World) (a : Nat) (d : Dat) (L : Pl) (tp mp : Nat) (q0 q1 q2 : Option Addr) (d0 d1 d2 : Nat) : Prop where
  blk : MB w a L d tp mp (longest d.ws)
  rd : DR w L d
  tab : TabAt 512 w tp q0 q1 q2 d0 d1 d2 d.ls d.ns d.ss
  map : MapAt w mp (entsM 0 d.ms)
theorem ModelAt.on {w w' : World} {a : Nat} {d : Dat} {L : Pl} {tp mp : Nat} {q0 q1 q2 : Option Addr} {d0 d1 d2 : Nat} (h : ModelAt w a d L tp mp q0 q1 q2 d0 d1 d2) (hx : Ext (fun _ => False) w w') : ModelAt w' a d L tp mp q0 q1 q2 d0 d1 d2 :=
  ⟨h.blk.on hx (fun h => h), h.rd.on hx, h.tab.on hx, h.map.ext hx (fun h => h)⟩
def IsModel (w : World) (a : Nat) (d : Dat) : Prop := ∃ L tp mp q0 q1 q2 d0 d1 d2, ModelAt w a d L tp mp q0 q1 q2 d0 d1 d2
theorem IsModel.on {w w' : World} {a : Nat} {d : Dat} (h : IsModel w a d) (hx : Ext (fun _ => False) w w') : IsModel w' a d := by
  obtain ⟨L, tp, mp, q0, q1, q2, d0, d1, d2, h⟩ := h
  exact ⟨L, tp, mp, q0, q1, q2, d0, d1, d2, h.on hx⟩
def NewEnd (w : World) (d : Dat) (e : Ending) (w' : World) : Prop :=
  Ext (fun _ => False) w w' ∧ (((check5 d).1 ≠ 0 ∧ e = .returned (.tuple #[.pointer none, .agg #[.int .i64 (check5 d).1, .int .i64 (check5 d).2.1, .int .i64 (check5 d).2.2]])) ∨
    ((check5 d).1 = 0 ∧ ∃ a, e = .returned (.tuple #[.pointer (some ⟨a, 0, none⟩), .agg #[.int .i64 0, .int .i64 0, .int .i64 0]]) ∧ IsModel w' a d ∧ w.heap.size ≤ a))
theorem NewEnd.drew {w w' : World} {d : Dat} {e : Ending} (h : NewEnd w d e w') : NewEnd w d e w'.drew :=
  ⟨h.1.drew, h.2.imp id (fun ⟨h1, a, h2, h3, h4⟩ => ⟨h1, a, h2, h3.on (Ext.refl _ _).drew, h4⟩)⟩
/-- Where the call stands: the box of d, the fault's cells. -/
structure New5 (w W : World) (L : Pl) (d : Dat) : Prop where
  ext : Ext (fun _ => False) w W
  box : W.heap[w.heap.size]? = some (.cells #[.slice L.p0 d.ws.length L.c0, .slice L.p1 d.ms.length L.c1, .slice L.p2 d.ls.length L.c2, .slice L.p3 d.ns.length L.c3, .slice L.p4 d.ss.length L.c4] 26 (0, 0))
  res : W.heap[w.heap.size + 1]? = some (.cells #[.int .i64 0, .int .i64 0, .int .i64 0] 87 (0, 0))
theorem New5.on {w W W' : World} {L : Pl} {d : Dat} (h : New5 w W L d) (hx : Ext (fun _ => False) W W') : New5 w W' L d := ⟨h.ext.trans hx (fun _ _ h => h), hx.obj h.box (fun h => h), hx.obj h.res (fun h => h)⟩
theorem New5.facts {w W : World} {L : Pl} {d : Dat} (h : New5 w W L d) :
    W.cell? ⟨w.heap.size, 0, none⟩ = some (.slice L.p0 d.ws.length L.c0) ∧ W.cell? ⟨w.heap.size, 1, none⟩ = some (.slice L.p1 d.ms.length L.c1) ∧ W.cell? ⟨w.heap.size, 2, none⟩ = some (.slice L.p2 d.ls.length L.c2) ∧ W.cell? ⟨w.heap.size, 3, none⟩ = some (.slice L.p3 d.ns.length L.c3) ∧ W.cell? ⟨w.heap.size, 4, none⟩ = some (.slice L.p4 d.ss.length L.c4) ∧
    W.cell? ⟨w.heap.size + 1, 0, none⟩ = some (.int .i64 0) ∧ W.cell? ⟨w.heap.size + 1, 1, none⟩ = some (.int .i64 0) ∧ W.cell? ⟨w.heap.size + 1, 2, none⟩ = some (.int .i64 0) ∧
    W.frozen? ⟨w.heap.size + 1, 0, none⟩ = false ∧ W.frozen? ⟨w.heap.size + 1, 1, none⟩ = false ∧ W.frozen? ⟨w.heap.size + 1, 2, none⟩ = false :=
  ⟨blk_cell h.box 0, blk_cell h.box 1, blk_cell h.box 2, blk_cell h.box 3, blk_cell h.box 4, blk_cell h.res 0, blk_cell h.res 1, blk_cell h.res 2, blk_frozen h.res 0, blk_frozen h.res 1, blk_frozen h.res 2⟩
theorem New5.bad {w W : World} {L : Pl} {d : Dat} (h : New5 w W L d) {u0 u1 u2 : Value} {y l r : Int} (hc : check5 d = (y, l, r)) (hy : y ≠ 0) :
    NewEnd w d (.returned (.tuple #[.pointer none, .agg #[.int .i64 y, .int .i64 l, .int .i64 r]])) (((W.setCell ⟨w.heap.size + 1, 0, none⟩ u0).setCell ⟨w.heap.size + 1, 1, none⟩ u1).setCell ⟨w.heap.size + 1, 2, none⟩ u2) :=
  ⟨(((h.ext.setCell (p := ⟨w.heap.size + 1, 0, none⟩) (fun h => absurd h (by show ¬ (w.heap.size + 1 < w.heap.size); omega)) _).setCell (p := ⟨w.heap.size + 1, 1, none⟩) (fun h => absurd h (by show ¬ (w.heap.size + 1 < w.heap.size); omega)) _).setCell (p := ⟨w.heap.size + 1, 2, none⟩) (fun h => absurd h (by show ¬ (w.heap.size + 1 < w.heap.size); omega)) _), .inl ⟨by rw [hc]; exact hy, by rw [hc]⟩⟩

theorem same3 {w : World} {b : Nat} {u0 u1 u2 : Value} (h0 : w.cell? ⟨b, 0, none⟩ = some u0) (h1 : w.cell? ⟨b, 1, none⟩ = some u1) (h2 : w.cell? ⟨b, 2, none⟩ = some u2) : Ext (fun _ => False) w (((w.setCell ⟨b, 0, none⟩ u0).setCell ⟨b, 1, none⟩ u1).setCell ⟨b, 2, none⟩ u2) := by
  have hb := World.block_lt_of_cell? w _ h0
  have x1 := ext_same h0
  have x2 := ext_same ((x1.cell (p := ⟨b, 1, none⟩) hb (fun h => h)).trans h1)
  have x12 := x1.trans x2 (fun _ _ h => h)
  exact x12.trans (ext_same ((x12.cell (p := ⟨b, 2, none⟩) hb (fun h => h)).trans h2)) (fun _ _ h => h)

set_option maxRecDepth 100000 in
set_option maxHeartbeats 4000000 in
theorem new5_any (w : World) (L : Pl) (d : Dat) (h : DR w L d) :
    Calls Tryz.prog 42 #[.agg #[.slice L.p0 d.ws.length L.c0, .slice L.p1 d.ms.length L.c1, .slice L.p2 d.ls.length L.c2, .slice L.p3 d.ns.length L.c3, .slice L.p4 d.ss.length L.c4]] w fun e w' => NewEnd w d e w' := by
  have R := Lib.hid h
  have hb0 := h.b0
  have hb1 := h.b1
  clear h
  have hmm := @run_makeMap Tryz.prog
  go_enter Tryz.func42, Tryz.ntmps42
  have NB0 := Lib.hid (show New5 w ((w.alloc (.cells #[.slice L.p0 d.ws.length L.c0, .slice L.p1 d.ms.length L.c1, .slice L.p2 d.ls.length L.c2, .slice L.p3 d.ns.length L.c3, .slice L.p4 d.ss.length L.c4] 26)).alloc (.cells #[.int .i64 0, .int .i64 0, .int .i64 0] 87)) L d from by
    refine ⟨((Ext.refl _ _).alloc _).alloc _, blk_alloc (heap_alloc_new w _) _, ?_⟩
    have := heap_alloc_new (w.alloc (.cells #[.slice L.p0 d.ws.length L.c0, .slice L.p1 d.ms.length L.c1, .slice L.p2 d.ls.length L.c2, .slice L.p3 d.ns.length L.c3, .slice L.p4 d.ss.length L.c4] 26)) (.cells #[.int .i64 0, .int .i64 0, .int .i64 0] 87)
    rw [World.size_alloc] at this
    exact this)
  by_cases hA : 4096 < d.ms.length
  · have i0 : (d.ms.length : Int) > 4096 := by omega
    go_wp2_with fail
    refine bodyPost_ret (v := .tuple #[.pointer none, .agg #[.int .i64 4, .int .i64 5, .int .i64 4096]]) (by simp [results, Tryz.f42, go_sem]) rfl ?_
    have hc : check5 d = (4, 5, 4096) := by unfold check5; rw [if_pos hA]
    exact ⟨((Ext.refl _ _).alloc _).alloc _, .inl ⟨by rw [hc]; decide, by rw [hc]⟩⟩
  · have i0 : (d.ms.length : Int) ≤ 4096 := by omega
    by_cases hB : d.ws.length = d.ms.length
    rotate_left
    · have i1 : ((d.ws.length : Int) != (d.ms.length : Int)) = true := by simp; omega
      go_wp2_with fail
      go_region
      all_goals
        go_wp2_with fail
        refine bodyPost_ret (v := .tuple #[.pointer none, .agg #[.int .i64 4, .int .i64 4, .int .i64 (mn d.ws.length d.ms.length)]]) (by simp [results, Tryz.f42, go_sem]) rfl ?_
        have hc : check5 d = (4, 4, mn d.ws.length d.ms.length) := by unfold check5; rw [if_neg hA, if_pos hB]
        refine ⟨?_, .inl ⟨by rw [hc]; simp, by rw [hc]⟩⟩
        repeat (first | exact Ext.refl _ _ | refine Ext.drew ?_ | refine Ext.alloc ?_ _)
    · have i1 : ((d.ws.length : Int) != (d.ms.length : Int)) = false := by simp; omega
      have NA := Lib.hid (And.intro hA hB)
      clear hA
      have HB := Lib.hid hB
      clear hB
      go_wp2_with fail
      have C := new4_any _ L.p2 L.p3 L.p4 L.c2 L.c3 L.c4 d.ls d.ns d.ss (R.out.on NB0.out.ext).r2 (R.out.on NB0.out.ext).r3 (R.out.on NB0.out.ext).r4 R.out.b2 R.out.b3 R.out.b4
      refine C.mono ?_
      clear C
      rintro e W1 ⟨hx, ⟨hy, rfl⟩ | ⟨hy, tp, q0, q1, q2, d0, d1, d2, rfl, hT, hnew⟩⟩
      · have S := Lib.hid (NB0.out.on hx)
        clear hx
        obtain ⟨e0, e1, e2, e3, e4, f0, f1, f2, g0, g1, g2⟩ := S.out.facts
        obtain ⟨y, hy1⟩ : ∃ y, (check4 d.ls d.ns d.ss).1 = y := ⟨_, rfl⟩
        obtain ⟨l, hl1⟩ : ∃ y, (check4 d.ls d.ns d.ss).2.1 = y := ⟨_, rfl⟩
        obtain ⟨r, hr1⟩ : ∃ y, (check4 d.ls d.ns d.ss).2.2 = y := ⟨_, rfl⟩
        rw [hy1] at hy ⊢
        rw [hl1, hr1]
        have HC := Lib.hid (show check5 d = (y, l, r) from by
          unfold check5
          rw [if_neg NA.out.1, if_neg (Decidable.not_not.2 NA.out.2), if_pos (by rw [hy1]; exact hy), ← hy1, ← hl1, ← hr1])
        clear hy1 hl1 hr1
        go_wp2_with fail
        obtain ⟨W2, hW2⟩ : ∃ W2, W1.alloc (.cells #[.int .i64 y, .int .i64 l, .int .i64 r] 128) = W2 := ⟨_, rfl⟩
        have S := Lib.hid (show New5 w W2 L d from by rw [← hW2]; exact S.out.on ((Ext.refl _ _).alloc _))
        have bk : W2.heap[W1.heap.size]? = some (.cells #[.int .i64 y, .int .i64 l, .int .i64 r] 128 (0, 0)) := by rw [← hW2]; exact heap_alloc_new _ _
        rw [hW2]
        have b0 := blk_cell bk 0
        have b1 := blk_cell bk 1
        have b2 := blk_cell bk 2
        simp at b0 b1 b2
        clear hW2 bk e0 e1 e2 e3 e4 f0 f1 f2 g0 g1 g2
        obtain ⟨e0, e1, e2, e3, e4, f0, f1, f2, g0, g1, g2⟩ := S.out.facts
        go_region
        all_goals
          go_wp2_with fail
          exact bodyPost_ret (v := .tuple #[.pointer none, .agg #[.int .i64 y, .int .i64 l, .int .i64 r]]) (by simp [results, Tryz.f42, go_sem, f0, f1, f2]) rfl (S.out.bad HC.out hy).drew
      · have T := Lib.hid hT
        have S := Lib.hid (NB0.out.on hx)
        have NC := Lib.hid hy
        clear hx hT hy
        have ls1 : w.heap.size + 1 < W1.heap.size := blk_lt S.out.res
        have ls0 : w.heap.size < W1.heap.size := by omega
        obtain ⟨e0, e1, e2, e3, e4, f0, f1, f2, g0, g1, g2⟩ := S.out.facts
        go_wp2_with fail
        have XA : Ext (fun _ => False) W1 (W1.alloc (.cells #[.int .i64 0, .int .i64 0, .int .i64 0] 128)) := (Ext.refl _ _).alloc _
        have C := copied_any (W1.alloc (.cells #[.int .i64 0, .int .i64 0, .int .i64 0] 128)) L d (R.out.on (S.out.ext.trans XA (fun _ _ h => h)))
        have XA := Lib.hid XA
        refine C.mono ?_
        clear C
        rintro e W2 ⟨L2, rfl, hD, hx2⟩
        have S := Lib.hid (S.out.on (XA.out.trans hx2 (fun _ _ h => h)))
        have T := Lib.hid (T.out.on (XA.out.trans hx2 (fun _ _ h => h)))
        have D := Lib.hid hD
        have s1 := XA.out.size
        have s2 := hx2.size
        clear hx2 hD e0 e1 e2 e3 e4 f0 f1 f2 g0 g1 g2
        obtain ⟨e0, e1, e2, e3, e4, f0, f1, f2, g0, g1, g2⟩ := S.out.facts
        go_wp2_with fail
        obtain ⟨W3, hW3⟩ : ∃ W3, (W2.alloc (.map #[] 0)).alloc (.cells #[.slice L2.p0 d.ws.length L2.c0, .slice L2.p1 d.ms.length L2.c1, .slice L2.p2 d.ls.length L2.c2, .slice L2.p3 d.ns.length L2.c3, .slice L2.p4 d.ss.length L2.c4, .pointer (some ⟨tp, 0, none⟩), .map (some W2.heap.size), .int .i64 1] 123) = W3 := ⟨_, rfl⟩
        have X23 : Ext (fun _ => False) W2 W3 := by rw [← hW3]; exact ((Ext.refl _ _).alloc _).alloc _
        have M3 : MB W3 (W2.heap.size + 1) L2 d tp W2.heap.size 1 := ⟨by
          rw [← hW3]
          have := heap_alloc_new (W2.alloc (.map #[] 0)) (.cells #[.slice L2.p0 d.ws.length L2.c0, .slice L2.p1 d.ms.length L2.c1, .slice L2.p2 d.ls.length L2.c2, .slice L2.p3 d.ns.length L2.c3, .slice L2.p4 d.ss.length L2.c4, .pointer (some ⟨tp, 0, none⟩), .map (some W2.heap.size), .int .i64 1] 123)
          rw [World.size_alloc] at this
          exact this⟩
        have P3 : MapAt W3 W2.heap.size [] := by rw [← hW3]; exact (MapAt.new W2).ext ((Ext.refl (fun _ => False) _).alloc _) (fun h => h)
        have D3 := (D.out.reads R.out).on X23
        have F0 : ∀ k, blkOf L2.p0 = some k → k < W2.heap.size := fun k hk => arr_lt D.out.a0 hk
        have F1 : ∀ k, blkOf L2.p1 = some k → k < W2.heap.size := fun k hk => arr_lt D.out.a1 hk
        rw [hW3]
        have C := words_any W3 (W2.heap.size + 1) L2 d tp W2.heap.size M3 D3 (fun k hk => by have := F0 k hk; omega)
        have X23 := Lib.hid X23
        have P3 := Lib.hid P3
        have F0 := Lib.hid F0
        have F1 := Lib.hid F1
        refine C.mono ?_
        clear C hW3 M3 D3
        rintro e W4 ⟨rfl, hx4, hm4⟩
        have X24 := Lib.hid (show Ext (fun _ => False) W2 W4 from (X23.out.trans hx4 (fun i hi (h : i = W2.heap.size + 1) => by omega)))
        have S2 := S
        have T2 := T
        have S := Lib.hid (S2.out.on X24.out)
        have P4 := Lib.hid (P3.out.ext hx4 (by omega))
        have M4 := Lib.hid hm4
        clear hx4 hm4 e0 e1 e2 e3 e4 f0 f1 f2 g0 g1 g2
        obtain ⟨e0, e1, e2, e3, e4, f0, f1, f2, g0, g1, g2⟩ := S.out.facts
        obtain ⟨y, hy⟩ : ∃ y, (wordsGo 0 [] d.ws).2 = y := ⟨_, rfl⟩
        obtain ⟨r, hr⟩ : ∃ y, (wordsGo 0 [] d.ws).1 = y := ⟨_, rfl⟩
        rw [hy, hr]
        have YR := Lib.hid (And.intro hy hr)
        clear hy hr
        by_cases hy0 : y = 0
        rotate_left
        · have hne : (y != 0) = true := by simpa using hy0
          go_wp2_with fail
          refine bodyPost_ret (v := .tuple #[.pointer none, .agg #[.int .i64 y, .int .i64 4, .int .i64 r]]) (by simp [results, Tryz.f42, go_sem, f0, f1, f2]) rfl (S.out.bad ?_ hy0)
          unfold check5
          rw [if_neg NA.out.1, if_neg (Decidable.not_not.2 NA.out.2), if_neg (by rw [NC.out]; simp), if_pos (by rw [YR.out.1]; exact hy0), YR.out.1, YR.out.2]
        · subst hy0
          go_wp2_with fail
          have C := pairs_any W4 (W2.heap.size + 1) L2 d tp W2.heap.size (longest d.ws) (M4.out YR.out.1) ((D.out.reads R.out).on X24.out) P4.out (by omega) (fun k hk => by have := F0.out k hk; omega) (fun k hk => by have := F1.out k hk; omega) (by have := NA.out.2; omega)
          refine C.mono ?_
          clear C
          rintro e W5 ⟨rfl, hx5, hm5⟩
          have X25 := Lib.hid (show Ext (fun _ => False) W2 W5 from (X24.out.trans hx5 (fun i hi (h : i = W2.heap.size) => by omega)))
          have S := Lib.hid (S2.out.on X25.out)
          have T5 := Lib.hid (T2.out.on X25.out)
          have D5 := Lib.hid ((D.out.reads R.out).on X25.out)
          have B5 := Lib.hid ((M4.out YR.out.1).on hx5 (by omega))
          have M5 := Lib.hid hm5
          have SZ5 := Lib.hid X25.out.size
          clear hx5 hm5 e0 e1 e2 e3 e4 f0 f1 f2 g0 g1 g2
          obtain ⟨e0, e1, e2, e3, e4, f0, f1, f2, g0, g1, g2⟩ := S.out.facts
          obtain ⟨z, hz⟩ : ∃ y, (pairsGo d.ws 0 [] d.ms).2 = y := ⟨_, rfl⟩
          obtain ⟨t, ht⟩ : ∃ y, (pairsGo d.ws 0 [] d.ms).1 = y := ⟨_, rfl⟩
          rw [hz, ht]
          have ZT := Lib.hid (And.intro hz ht)
          clear hz ht
          by_cases hz0 : z = 0
          rotate_left
          · have hne : (z != 0) = true := by simpa using hz0
            go_wp2_with fail
            refine bodyPost_ret (v := .tuple #[.pointer none, .agg #[.int .i64 z, .int .i64 5, .int .i64 t]]) (by simp [results, Tryz.f42, go_sem, f0, f1, f2]) rfl (S.out.bad ?_ hz0)
            unfold check5
            rw [if_neg NA.out.1, if_neg (Decidable.not_not.2 NA.out.2), if_neg (by rw [NC.out]; simp), if_neg (by rw [YR.out.1]; simp), if_pos (by rw [ZT.out.1]; exact hz0), ZT.out.1, ZT.out.2]
          · subst hz0
            have hs2 : w.heap.size ≤ W2.heap.size := S2.out.ext.size
            go_wp2_with fail
            refine bodyPost_ret (v := .tuple #[.pointer (some ⟨W2.heap.size + 1, 0, none⟩), .agg #[.int .i64 0, .int .i64 0, .int .i64 0]]) (by simp [results, Tryz.f42, go_sem, f0, f1, f2]) rfl ?_
            have X := same3 f0 f1 f2
            refine ⟨S.out.ext.trans X (fun _ _ h => h), .inr ⟨?_, W2.heap.size + 1, rfl, ⟨L2, tp, W2.heap.size, q0, q1, q2, d0, d1, d2, ModelAt.on ⟨B5.out, D5.out, T5.out, M5.out ZT.out.1⟩ X⟩, by omega⟩⟩
            unfold check5
            rw [if_neg NA.out.1, if_neg (Decidable.not_not.2 NA.out.2), if_neg (by rw [NC.out]; simp), if_neg (by rw [YR.out.1]; simp), if_neg (by rw [ZT.out.1]; simp)]
end Go.Proofs.YtigpaaelggnffaaGreatDoor.Sl

/- tesserabook.Within: a number brought into lo .. hi. -/
namespace Go.Proofs.YtigpaaelggnffaaGreatDoor.Book
open Go.RowKit Go.Proofs.YtigpaaelggnffaaGreatDoor.Lib
set_option linter.unusedVariables false
set_option linter.unusedSimpArgs false

def within (n lo hi : Int) : Int := lo + n % (hi - lo + 1)
theorem within_bd (n lo hi : Int) (h : lo ≤ hi) : lo ≤ within n lo hi ∧ within n lo hi ≤ hi := by
  unfold within
  have h1 := Int.emod_nonneg n (show hi - lo + 1 ≠ 0 by omega)
  have h2 := Int.emod_lt_of_pos n (show 0 < hi - lo + 1 by omega)
  omega
theorem tmod_emod (n m : Int) (hm : 0 < m) : n % m = if n.tmod m < 0 then n.tmod m + m else n.tmod m := by
  rcases Int.le_total 0 n with h | h
  · have h1 := Int.tmod_nonneg (b := m) (a := n) h
    rw [if_neg (by omega), Int.tmod_eq_emod_of_nonneg h]
  · have h1 := Int.emod_nonneg n (show m ≠ 0 by omega)
    have h2 := Int.emod_lt_of_pos n hm
    rw [Int.tmod_eq_emod]
    by_cases hd : 0 ≤ n ∨ m ∣ n
    · rw [if_pos hd]; rw [if_neg (by omega)]; omega
    · rw [if_neg hd]
      have : n % m ≠ 0 := fun e => hd (.inr (Int.dvd_of_emod_eq_zero e))
      have ha : m.natAbs = m := by omega
      rw [if_pos (by omega)]; omega

set_option maxHeartbeats 400000 in
theorem within_any (n lo hi : Int) (w : World) (h : lo ≤ hi) (h1 : -1099511627776 ≤ lo) (h2 : hi ≤ 1099511627776) :
    Calls Tryz.prog 18 #[.int .i64 n, .int .i64 lo, .int .i64 hi] w fun e w' => e = .returned (.int .i64 (within n lo hi)) ∧ w = w' := by
  have hm : 0 < hi - lo + 1 := by omega
  have ht := tmod_emod n (hi - lo + 1) hm
  have b1 := Int.emod_nonneg n (show hi - lo + 1 ≠ 0 by omega)
  have b2 := Int.emod_lt_of_pos n hm
  have E : within n lo hi = lo + n % (hi - lo + 1) := rfl
  have b3 : n.tmod (hi - lo + 1) < hi - lo + 1 := by split at ht <;> omega
  have b4 : -(hi - lo + 1) ≤ n.tmod (hi - lo + 1) := by split at ht <;> omega
  have HE := Lib.hid E
  have HT := Lib.hid ht
  clear E ht b1 b2
  by_cases hc : n.tmod (hi - lo + 1) < 0
  · go_enter Tryz.func18, Tryz.ntmps18
    go_wp2
    go_ret
    exact ⟨ret_int (by rw [HE.out, HT.out, if_pos hc]; omega), rfl⟩
  · go_enter Tryz.func18, Tryz.ntmps18
    go_wp2
    go_ret
    exact ⟨ret_int (by rw [HE.out, HT.out, if_neg (by omega)]), rfl⟩
end Go.Proofs.YtigpaaelggnffaaGreatDoor.Book

/- The document's chapters 4, 5 over a model's data: contracts. -/
namespace Go.Proofs.YtigpaaelggnffaaGreatDoor.Sl
open Go.Proofs.YtigpaaelggnffaaGreatDoor.Lib
open Go.RowKit
set_option linter.unusedVariables false
set_option linter.unusedSimpArgs false

/-- The box of d, and the result's cells behind it. -/
structure Bx (t : Nat) (w W : World) (L : Pl) (d : Dat) : Prop where
  ext : Ext (fun _ => False) w W
  box : W.heap[w.heap.size]? = some (.cells #[.slice L.p0 d.ws.length L.c0, .slice L.p1 d.ms.length L.c1, .slice L.p2 d.ls.length L.c2, .slice L.p3 d.ns.length L.c3, .slice L.p4 d.ss.length L.c4] 26 (0, 0))
  res : W.heap[w.heap.size + 1]? = some (.cells #[.int .i64 0, .int .i64 0, .int .i64 0] t (0, 0))
theorem Bx.on {t : Nat} {w W W' : World} {L : Pl} {d : Dat} (h : Bx t w W L d) (hx : Ext (fun _ => False) W W') : Bx t w W' L d := ⟨h.ext.trans hx (fun _ _ h => h), hx.obj h.box (fun h => h), hx.obj h.res (fun h => h)⟩
theorem Bx.new (t : Nat) (w : World) (L : Pl) (d : Dat) : Bx t w ((w.alloc (.cells #[.slice L.p0 d.ws.length L.c0, .slice L.p1 d.ms.length L.c1, .slice L.p2 d.ls.length L.c2, .slice L.p3 d.ns.length L.c3, .slice L.p4 d.ss.length L.c4] 26)).alloc (.cells #[.int .i64 0, .int .i64 0, .int .i64 0] t)) L d := by
  refine ⟨((Ext.refl _ _).alloc _).alloc _, blk_alloc (heap_alloc_new w _) _, ?_⟩
  have := heap_alloc_new (w.alloc (.cells #[.slice L.p0 d.ws.length L.c0, .slice L.p1 d.ms.length L.c1, .slice L.p2 d.ls.length L.c2, .slice L.p3 d.ns.length L.c3, .slice L.p4 d.ss.length L.c4] 26)) (.cells #[.int .i64 0, .int .i64 0, .int .i64 0] t)
  rw [World.size_alloc] at this
  exact this
theorem Bx.facts {t : Nat} {w W : World} {L : Pl} {d : Dat} (h : Bx t w W L d) :
    W.cell? ⟨w.heap.size, 0, none⟩ = some (.slice L.p0 d.ws.length L.c0) ∧ W.cell? ⟨w.heap.size, 1, none⟩ = some (.slice L.p1 d.ms.length L.c1) ∧ W.cell? ⟨w.heap.size, 2, none⟩ = some (.slice L.p2 d.ls.length L.c2) ∧ W.cell? ⟨w.heap.size, 3, none⟩ = some (.slice L.p3 d.ns.length L.c3) ∧ W.cell? ⟨w.heap.size, 4, none⟩ = some (.slice L.p4 d.ss.length L.c4) ∧
    W.cell? ⟨w.heap.size + 1, 0, none⟩ = some (.int .i64 0) ∧ W.cell? ⟨w.heap.size + 1, 1, none⟩ = some (.int .i64 0) ∧ W.cell? ⟨w.heap.size + 1, 2, none⟩ = some (.int .i64 0) ∧
    W.frozen? ⟨w.heap.size + 1, 0, none⟩ = false ∧ W.frozen? ⟨w.heap.size + 1, 1, none⟩ = false ∧ W.frozen? ⟨w.heap.size + 1, 2, none⟩ = false ∧ w.heap.size + 1 < W.heap.size ∧ w.heap.size < W.heap.size :=
  ⟨blk_cell h.box 0, blk_cell h.box 1, blk_cell h.box 2, blk_cell h.box 3, blk_cell h.box 4, blk_cell h.res 0, blk_cell h.res 1, blk_cell h.res 2, blk_frozen h.res 0, blk_frozen h.res 1, blk_frozen h.res 2, blk_lt h.res, blk_lt h.box⟩
theorem Bx.set {t : Nat} {w W : World} {L : Pl} {d : Dat} (h : Bx t w W L d) (u0 u1 u2 : Value) : Ext (fun _ => False) w (((W.setCell ⟨w.heap.size + 1, 0, none⟩ u0).setCell ⟨w.heap.size + 1, 1, none⟩ u1).setCell ⟨w.heap.size + 1, 2, none⟩ u2) :=
  (((h.ext.setCell (p := ⟨w.heap.size + 1, 0, none⟩) (fun h => absurd h (by show ¬ (w.heap.size + 1 < w.heap.size); omega)) _).setCell (p := ⟨w.heap.size + 1, 1, none⟩) (fun h => absurd h (by show ¬ (w.heap.size + 1 < w.heap.size); omega)) _).setCell (p := ⟨w.heap.size + 1, 2, none⟩) (fun h => absurd h (by show ¬ (w.heap.size + 1 < w.heap.size); omega)) _)

def dataCells (L : Pl) (d : Dat) : Array Value := #[.slice L.p0 d.ws.length L.c0, .slice L.p1 d.ms.length L.c1, .slice L.p2 d.ls.length L.c2, .slice L.p3 d.ns.length L.c3, .slice L.p4 d.ss.length L.c4]
/-- The box of data alone. -/
theorem isId_mem {l : List Mrg} {y : Mrg} {id : Int} (h : y ∈ l) (e : y.i = id) : isId l id = true := List.any_eq_true.2 ⟨y, h, decide_eq_true e⟩
theorem isId_none {l : List Mrg} {id : Int} (h : ∀ y ∈ l, y.i ≠ id) : isId l id = false := by
  unfold isId
  rw [List.any_eq_false]
  intro y hy hc
  exact h y hy (of_decide_eq_true hc)
theorem dbox (w : World) (L : Pl) (d : Dat) : ∃ W, w.alloc (.cells #[.slice L.p0 d.ws.length L.c0, .slice L.p1 d.ms.length L.c1, .slice L.p2 d.ls.length L.c2, .slice L.p3 d.ns.length L.c3, .slice L.p4 d.ss.length L.c4] 26) = W ∧ Ext (fun _ => False) w W ∧
    W.cell? ⟨w.heap.size, 0, none⟩ = some (.slice L.p0 d.ws.length L.c0) ∧ W.cell? ⟨w.heap.size, 1, none⟩ = some (.slice L.p1 d.ms.length L.c1) ∧ W.heap.size = w.heap.size + 1 :=
  ⟨_, rfl, (Ext.refl _ _).alloc _, blk_cell (heap_alloc_new w _) 0, blk_cell (heap_alloc_new w _) 1, by simp⟩
set_option maxHeartbeats 1000000 in
theorem ref5word_any (w : World) (L : Pl) (d : Dat) (id : Int) (h : DR w L d) (hid : (Lit.int .i64 id).wf = true) (hw : d.ws.length ≤ 1099511627776) :
    Calls Tryz.prog 55 #[.agg #[.slice L.p0 d.ws.length L.c0, .slice L.p1 d.ms.length L.c1, .slice L.p2 d.ls.length L.c2, .slice L.p3 d.ns.length L.c3, .slice L.p4 d.ss.length L.c4], .int .i64 id] w fun e w' => e = .returned (.tuple #[.string (wordOf d.ws id).1, .bool (wordOf d.ws id).2]) ∧ Ext (fun _ => False) w w' := by
  obtain ⟨W, hW, hX, b0, b1, hs⟩ := dbox w L d
  have X := Lib.hid hX
  have R := Lib.hid (h.on hX)
  have HW := Lib.hid hW
  have HS := Lib.hid hs
  have ii : -9223372036854775808 ≤ id ∧ id ≤ 9223372036854775807 := by
    simp [Lit.wf, IntKind.min, IntKind.max, IntKind.signed, IntKind.bits] at hid
    omega
  obtain ⟨ii0, ii1⟩ := ii
  clear h hX hW hs hid
  by_cases h0 : id < 0
  · have E := Lib.hid (wordOf_none (ws := d.ws) (.inl h0))
    go_enter Tryz.func55, Tryz.ntmps55
    go_wp2_with fail
    rw [HW.out]
    go_ret2
    exact ⟨by rw [E.out]; rfl, X.out⟩
  · by_cases h1 : 256 + (d.ws.length : Int) ≤ id
    · have E := Lib.hid (wordOf_none (ws := d.ws) (.inr h1))
      have g1 : ¬ id < 256 := by omega
      have g2 : id - 256 ≥ (d.ws.length : Int) := by omega
      go_enter Tryz.func55, Tryz.ntmps55
      go_wp2_with fail
      rw [HW.out]
      go_ret2
      exact ⟨by rw [E.out]; rfl, X.out⟩
    · by_cases h2 : id < 256
      · have E := Lib.hid (wordOf_byte (ws := d.ws) (by omega : 0 ≤ id) h2)
        have hcv := byte_str W id
        have k0 : 0 ≤ id := by omega
        go_enter Tryz.func55, Tryz.ntmps55
        go_upto_region 2 with (fail)
        rw [HW.out]
        go_wp2_with fail
        go_ret2
        exact ⟨by rw [E.out]; rfl, X.out.alloc _⟩
      · obtain ⟨i, ei⟩ : ∃ i : Nat, (id - 256).toNat = i := ⟨_, rfl⟩
        obtain ⟨x, e⟩ : ∃ x, d.ws[i]? = some x := ⟨_, List.getElem?_eq_getElem (by omega)⟩
        obtain ⟨b, o, hp, hb, e0⟩ := R.out.r0.cellS e
        have E := Lib.hid (show wordOf d.ws id = (x, true) from by rw [← wordOf_word e]; congr 1; omega)
        have i1 : id - 256 < (d.ws.length : Int) := by omega
        have i0 : 0 ≤ id - 256 := by omega
        rw [← ei] at e0
        rw [hp] at b0
        have HP := Lib.hid hp
        clear ei e hp
        go_enter Tryz.func55, Tryz.ntmps55
        go_upto_region 3 with (fail)
        rw [HW.out]
        go_wp2_with fail
        go_ret2
        exact ⟨by rw [E.out]; rfl, X.out⟩
set_option maxHeartbeats 1000000 in
theorem ref5made_any (w : World) (L : Pl) (d : Dat) (n : Nat) (id : Int) (h : DR w L d) (hn : n ≤ d.ms.length) (hw : d.ms.length ≤ 1099511627776) :
    Calls Tryz.prog 91 #[.agg #[.slice L.p0 d.ws.length L.c0, .slice L.p1 d.ms.length L.c1, .slice L.p2 d.ls.length L.c2, .slice L.p3 d.ns.length L.c3, .slice L.p4 d.ss.length L.c4], .int .i64 n, .int .i64 id] w fun e w' => e = .returned (.bool (madeB (d.ms.take n) id)) ∧ Ext (fun _ => False) w w' := by
  obtain ⟨W, hW, hX, b0, b1, hs⟩ := dbox w L d
  have X := Lib.hid hX
  have R := Lib.hid (h.on hX)
  have HW := Lib.hid hW
  clear h hX hW hs b0
  by_cases hby : 0 ≤ id ∧ id < 256
  · have E := Lib.hid (show madeB (d.ms.take n) id = true from by unfold madeB; rw [decide_eq_true hby.1, decide_eq_true hby.2]; rfl)
    obtain ⟨h0, h1⟩ := hby
    go_enter Tryz.func91, Tryz.ntmps91
    go_wp2_with fail
    rw [HW.out]
    go_ret
    exact ⟨by rw [E.out]; rfl, X.out⟩
  · have EB := Lib.hid (show madeB (d.ms.take n) id = (decide (256 ≤ id) && isId (d.ms.take n) id) from by
      unfold madeB
      rw [show (decide (0 ≤ id) && decide (id < 256)) = false from by
        by_cases h : 0 ≤ id
        · rw [decide_eq_false (show ¬ id < 256 by omega), Bool.and_false]
        · rw [decide_eq_false h, Bool.false_and], Bool.false_or])
    have hh : id < 0 ∨ 256 ≤ id := by omega
    clear hby
    go_enter Tryz.func91, Tryz.ntmps91
    go_upto_region 1 with (fail)
    rw [HW.out]
    go_cut [13] (fun v wc => W = wc ∧ v = .bool false)
    case first =>
      rcases hh with h | h
      · go_wp2_with fail
        go_meet
        exact ⟨rfl, rfl⟩
      · have g : ¬ id < 256 := by omega
        go_wp2_with fail
        go_meet
        exact ⟨rfl, rfl⟩
    case rest =>
      obtain ⟨rfl, rfl⟩ := hcut
      go_wp2_with fail
      go_loop [7] (fun i => ∃ k : Nat, i = .int .i64 k ∧ k ≤ n ∧ ∀ y ∈ d.ms.take k, y.i ≠ id) (fun i => n - (intOf i).toNat)
      case atStart => exact ⟨0, rfl, Nat.zero_le _, by simp⟩
      case round =>
        obtain ⟨k, rfl, hk, hno⟩ := hrel
        have NO := Lib.hid hno
        clear hno
        by_cases hlt : k < n
        · have i1 : (k : Int) < (n : Int) := by omega
          obtain ⟨y, hy⟩ : ∃ y, d.ms[k]? = some y := ⟨_, List.getElem?_eq_getElem (by omega)⟩
          obtain ⟨mb, mo, hp, hmb, c0, c1, c2⟩ := R.out.r1.cellM hy
          rw [hp] at b1
          have HY := Lib.hid hy
          have j1 : (k : Int) < (d.ms.length : Int) := by omega
          clear hy hp hmb
          by_cases he : y.i = id
          · have d1 : (y.i == id) = true := beq_iff_eq.2 he
            have E := Lib.hid (show madeB (d.ms.take n) id = decide (256 ≤ id) from by
              rw [EB.out, isId_mem (List.mem_of_getElem? (show (d.ms.take n)[k]? = some y from by rw [List.getElem?_take, if_pos hlt]; exact HY.out)) he, Bool.and_true])
            clear he
            go_wp2_with fail
            go_ret
            exact ⟨by rw [E.out]; rfl, X.out⟩
          · have d1 : (y.i == id) = false := beq_eq_false_iff_ne.2 he
            have N2 := Lib.hid (show ∀ z ∈ d.ms.take (k + 1), z.i ≠ id from fun z hz => by
              rw [List.take_add_one, HY.out] at hz
              rcases List.mem_append.1 hz with h | h
              · exact NO.out z h
              · simp at h; rw [h]; exact he)
            clear he
            go_wp2_with fail
            go_round
            case rel => exact ⟨k + 1, by go_num, by omega, N2.out⟩
            case measure => simp [intOf]; omega
        · have i1 : ¬ ((k : Int) < (n : Int)) := by omega
          have E := Lib.hid (show madeB (d.ms.take n) id = false from by
            obtain rfl : k = n := by omega
            rw [EB.out, isId_none NO.out, Bool.and_false])
          go_wp2_with fail
          go_ret
          exact ⟨by rw [E.out]; rfl, X.out⟩
/-- More merges than are worked out here. -/
def large (d : Dat) : Bool := decide (300 < d.ms.length) && decide (d.ms.length ≤ 4096)
set_option maxHeartbeats 1000000 in
theorem large_any (w : World) (L : Pl) (d : Dat) (h : DR w L d) :
    Calls Tryz.prog 41 #[.agg #[.slice L.p0 d.ws.length L.c0, .slice L.p1 d.ms.length L.c1, .slice L.p2 d.ls.length L.c2, .slice L.p3 d.ns.length L.c3, .slice L.p4 d.ss.length L.c4]] w fun e w' => e = .returned (.bool (large d)) ∧ Ext (fun _ => False) w w' := by
  have hb1 := h.b1
  have X := Lib.hid ((Ext.refl (fun _ => False) w).alloc (.cells #[.slice L.p0 d.ws.length L.c0, .slice L.p1 d.ms.length L.c1, .slice L.p2 d.ls.length L.c2, .slice L.p3 d.ns.length L.c3, .slice L.p4 d.ss.length L.c4] 26))
  clear h
  by_cases h1 : 300 < d.ms.length
  · have i1 : (d.ms.length : Int) > 300 := by omega
    by_cases h2 : d.ms.length ≤ 4096
    · have i2 : (d.ms.length : Int) ≤ 4096 := by omega
      have E := Lib.hid (show large d = true from by unfold large; rw [decide_eq_true h1, decide_eq_true h2]; rfl)
      go_enter Tryz.func41, Tryz.ntmps41
      go_wp2_with fail
      go_ret
      exact ⟨by rw [E.out]; rfl, X.out⟩
    · have i2 : ¬ (d.ms.length : Int) ≤ 4096 := by omega
      have E := Lib.hid (show large d = false from by unfold large; rw [decide_eq_true h1, decide_eq_false h2]; rfl)
      go_enter Tryz.func41, Tryz.ntmps41
      go_wp2_with fail
      go_ret
      exact ⟨by rw [E.out]; rfl, X.out⟩
  · have i1 : ¬ (d.ms.length : Int) > 300 := by omega
    have E := Lib.hid (show large d = false from by unfold large; rw [decide_eq_false h1]; rfl)
    go_enter Tryz.func41, Tryz.ntmps41
    go_wp2_with fail
    go_ret
    exact ⟨by rw [E.out]; rfl, X.out⟩

/-! ### the words -/
def faultW (r : Int × Int) : Int × Int × Int := if r.2 = 0 then (0, 0, 0) else (r.2, 4, r.1)
structure Wd5St (w wr : World) (L : Pl) (d : Dat) (k : Nat) : Prop where
  kl : k ≤ d.ws.length
  eq : wordsGo 0 [] d.ws = wordsGo k (d.ws.take k) (d.ws.drop k)
  bx : Bx 91 w wr L d
def Wd5End (w : World) (d : Dat) (e : Ending) (w' : World) : Prop :=
  e = .returned (.agg #[.int .i64 (faultW (wordsGo 0 [] d.ws)).1, .int .i64 (faultW (wordsGo 0 [] d.ws)).2.1, .int .i64 (faultW (wordsGo 0 [] d.ws)).2.2]) ∧ Ext (fun _ => False) w w'
theorem Wd5St.bad {w wr W : World} {L : Pl} {d : Dat} {k : Nat} (h : Wd5St w wr L d k) {s : ByteArray} {y : Int} (hs : d.ws[k]? = some s) (hy : ((s.size < 2 ∨ 256 < s.size) ∧ y = 21) ∨ (¬ (s.size < 2 ∨ 256 < s.size) ∧ s ∈ d.ws.take k ∧ y = 22)) (hx : Ext (fun _ => False) w W) :
    Wd5End w d (.returned (.agg #[.int .i64 y, .int .i64 4, .int .i64 k])) W := by
  have e2 : wordsGo 0 [] d.ws = ((k : Int), y) := by
    rw [h.eq, drop_cons hs, wordsGo]
    rcases hy with ⟨h1, rfl⟩ | ⟨h1, h2, rfl⟩
    · rw [if_pos h1]
    · rw [if_neg h1, if_pos (had_iff.2 h2)]
  have hy0 : y ≠ 0 := by rcases hy with ⟨_, rfl⟩ | ⟨_, _, rfl⟩ <;> decide
  exact ⟨by rw [e2]; unfold faultW; rw [if_neg hy0], hx⟩
theorem Wd5St.step {w wr W : World} {L : Pl} {d : Dat} {k : Nat} (h : Wd5St w wr L d k) {s : ByteArray} (hs : d.ws[k]? = some s) (h1 : ¬ (s.size < 2 ∨ 256 < s.size)) (h2 : s ∉ d.ws.take k) (hB : Bx 91 w W L d) : Wd5St w W L d (k + 1) := by
  refine ⟨(List.getElem?_eq_some_iff.1 hs).1, ?_, hB⟩
  rw [h.eq, drop_cons hs, wordsGo, if_neg h1, if_neg (fun h => h2 (had_iff.1 h)), List.take_add_one, hs]
  rfl
theorem Bx.drewN {t : Nat} {w W : World} {L : Pl} {d : Dat} (h : Bx t w W L d) (n : Nat) : Bx t w (W.drewN n) L d := h.on ((Ext.refl _ _).drewN n)
set_option maxRecDepth 100000 in
set_option maxHeartbeats 4000000 in
theorem ref5words_end (w : World) (L : Pl) (d : Dat) (h : DR w L d) (hw : d.ws.length ≤ 1099511627776) :
    Calls Tryz.prog 64 #[.agg #[.slice L.p0 d.ws.length L.c0, .slice L.p1 d.ms.length L.c1, .slice L.p2 d.ls.length L.c2, .slice L.p3 d.ns.length L.c3, .slice L.p4 d.ss.length L.c4]] w fun e w' => Wd5End w d e w' := by
  have R := Lib.hid h
  have Z := Lib.hid h.z0
  clear h
  go_enter Tryz.func64, Tryz.ntmps64
  go_wp2_with fail
  have B0 := Lib.hid (Bx.new 91 w L d)
  go_loopw [3] (fun i wr => ∃ k : Nat, i = .int .i64 k ∧ Wd5St w wr L d k) (fun i _ => d.ws.length - (intOf i).toNat)
  case atStart => exact ⟨0, rfl, ⟨Nat.zero_le _, rfl, B0.out⟩⟩
  case round =>
    obtain ⟨k, rfl, hst⟩ := hrel
    have ST := Lib.hid hst
    have hk := hst.kl
    clear hst B0
    obtain ⟨e0, e1, e2, e3, e4, f0, f1, f2, g0, g1, g2, l1, l0⟩ := ST.out.bx.facts
    by_cases hlt : k < d.ws.length
    · have i1 : (k : Int) < (d.ws.length : Int) := by omega
      obtain ⟨s, hs⟩ : ∃ s, d.ws[k]? = some s := ⟨_, List.getElem?_eq_getElem hlt⟩
      have HS := Lib.hid hs
      have hz := Z.out s (List.mem_of_getElem? hs)
      obtain ⟨b, o, hp, hb, c0⟩ := (R.out.on ST.out.bx.ext).r0.cellS hs
      rw [hp] at e0
      have HP := Lib.hid hp
      clear hs hp
      by_cases h1 : s.size < 2
      · have E := Lib.hid (fun W hx => ST.out.bad (W := W) HS.out (.inl ⟨.inl h1, rfl⟩) hx)
        have SX := Lib.hid (fun u0 u1 u2 => ST.out.bx.set u0 u1 u2)
        go_wp2_with fail
        exact bodyPost_ret (v := .agg #[.int .i64 21, .int .i64 4, .int .i64 k]) (by simp [results, Tryz.f64, go_sem, f0, f1, f2]) rfl (E.out _ (SX.out _ _ _))
      · by_cases h2 : 256 < s.size
        · have E := Lib.hid (fun W hx => ST.out.bad (W := W) HS.out (.inl ⟨.inr h2, rfl⟩) hx)
          have SX := Lib.hid (fun u0 u1 u2 => ST.out.bx.set u0 u1 u2)
          go_wp2_with fail
          exact bodyPost_ret (v := .agg #[.int .i64 21, .int .i64 4, .int .i64 k]) (by simp [results, Tryz.f64, go_sem, f0, f1, f2]) rfl (E.out _ (SX.out _ _ _))
        · have OK := Lib.hid (show ¬ (s.size < 2 ∨ 256 < s.size) from by omega)
          go_wp2_with fail
          clear e0 e1 e2 e3 e4 f0 f1 f2 g0 g1 g2 l1 l0 c0 hb
          go_loopw [4] (fun i w2 => ∃ j : Nat, i = .int .i64 j ∧ j ≤ k ∧ (∀ t ∈ d.ws.take j, t ≠ s) ∧ Wd5St w w2 L d k) (fun i _ => k - (intOf i).toNat)
          case atStart => exact ⟨0, rfl, Nat.zero_le _, by simp, ST.out⟩
          case round =>
            clear ST
            obtain ⟨j, rfl, hj, hno, hst⟩ := hrel
            have NO := Lib.hid hno
            have ST := Lib.hid hst
            clear hno hst
            by_cases hlt2 : j < k
            · have i2 : (j : Int) < (k : Int) := by omega
              have i3 : (j : Int) < (d.ws.length : Int) := by omega
              obtain ⟨e0, e1, e2, e3, e4, f0, f1, f2, g0, g1, g2, l1, l0⟩ := ST.out.bx.facts
              obtain ⟨t, ht⟩ : ∃ t, d.ws[j]? = some t := ⟨_, List.getElem?_eq_getElem (by omega)⟩
              have HT := Lib.hid ht
              obtain ⟨b2, o2, hp2, hb2, c0⟩ := (R.out.on ST.out.bx.ext).r0.cellS HS.out
              obtain ⟨b3, o3, hp3, hb3, c1⟩ := (R.out.on ST.out.bx.ext).r0.cellS ht
              rw [hp2] at hp3
              injection hp3 with hp3
              injection hp3 with hp4 hp5
              subst hp4 hp5
              rw [hp2] at e0
              have SX := Lib.hid (fun n u0 u1 u2 => (ST.out.bx.drewN n).set u0 u1 u2)
              clear hp2 ht
              by_cases he : t = s
              · have d1 : (t.toList == s.toList) = true := by rw [str_beq]; exact decide_eq_true he
                have E := Lib.hid (fun W hx => ST.out.bad (W := W) HS.out (.inr ⟨OK.out, by
                  have := HT.out
                  rw [he] at this
                  exact List.mem_of_getElem? (show (d.ws.take k)[j]? = some s from by rw [List.getElem?_take, if_pos hlt2]; exact this), rfl⟩) hx)
                clear he
                go_wp2_with fail
                go_quiet (fail)
                go_wp2_with fail
                exact bodyPost_ret (v := .agg #[.int .i64 22, .int .i64 4, .int .i64 k]) (by simp [results, Tryz.f64, go_sem, f0, f1, f2]) rfl (E.out _ (SX.out _ _ _ _))
              · have d1 : (t.toList == s.toList) = false := by rw [str_beq]; exact decide_eq_false he
                have N2 := Lib.hid (show ∀ z ∈ d.ws.take (j + 1), z ≠ s from fun z hz => by
                  rw [List.take_add_one, HT.out] at hz
                  rcases List.mem_append.1 hz with h | h
                  · exact NO.out z h
                  · simp at h; rw [h]; exact he)
                clear he
                go_wp2_with fail
                go_quiet (fail)
                go_wp2_with fail
                go_roundw
                case rel => exact ⟨j + 1, by go_num, by omega, N2.out, { ST.out with bx := ST.out.bx.drewN _ }⟩
                case measure => simp [intOf]; omega
            · have i2 : ¬ ((j : Int) < (k : Int)) := by omega
              have NX := Lib.hid (show Wd5St w wr L d (k + 1) from ST.out.step HS.out OK.out (fun h => by
                obtain rfl : j = k := by omega
                exact NO.out s h rfl) ST.out.bx)
              go_wp2_with fail
              go_roundw
              case rel => exact ⟨k + 1, by go_num, NX.out⟩
              case measure => simp [intOf]; omega
    · have i1 : ¬ ((k : Int) < (d.ws.length : Int)) := by omega
      have E := Lib.hid (show ∀ W, Ext (fun _ => False) w W → Wd5End w d (.returned (.agg #[.int .i64 0, .int .i64 0, .int .i64 0])) W from fun W hx => by
        have := ST.out.eq
        rw [List.drop_of_length_le (by omega)] at this
        exact ⟨by rw [this]; rfl, hx⟩)
      have SX := Lib.hid (fun u0 u1 u2 => ST.out.bx.set u0 u1 u2)
      go_wp2_with fail
      exact bodyPost_ret (v := .agg #[.int .i64 0, .int .i64 0, .int .i64 0]) (by simp [results, Tryz.f64, go_sem, f0, f1, f2]) rfl (E.out _ (SX.out _ _ _))
theorem ref5words_any (w : World) (L : Pl) (d : Dat) (h : DR w L d) (hw : d.ws.length ≤ 1099511627776) :
    Calls Tryz.prog 64 #[.agg #[.slice L.p0 d.ws.length L.c0, .slice L.p1 d.ms.length L.c1, .slice L.p2 d.ls.length L.c2, .slice L.p3 d.ns.length L.c3, .slice L.p4 d.ss.length L.c4]] w fun e w' => e = .returned (.agg #[.int .i64 (faultW (wordsGo 0 [] d.ws)).1, .int .i64 (faultW (wordsGo 0 [] d.ws)).2.1, .int .i64 (faultW (wordsGo 0 [] d.ws)).2.2]) ∧ Ext (fun _ => False) w w' := ref5words_end w L d h hw

/-! ### the classes -/
/-- The result's cells at the head, the three lists behind them. -/
structure C4 (w W : World) (p0 p1 p2 : Option Addr) (c0 c1 c2 n0 n1 n2 : Nat) : Prop where
  ext : Ext (fun _ => False) w W
  res : W.heap[w.heap.size]? = some (.cells #[.int .i64 0, .int .i64 0, .int .i64 0] 133 (0, 0))
  lst : W.heap[w.heap.size + 1]? = some (.cells #[.slice p0 n0 c0, .slice p1 n1 c1, .slice p2 n2 c2] 24 (0, 0))
section
variable {w W W' : World} {p0 p1 p2 : Option Addr} {c0 c1 c2 n0 n1 n2 : Nat}
theorem C4.on (h : C4 w W p0 p1 p2 c0 c1 c2 n0 n1 n2) (hx : Ext (fun _ => False) W W') : C4 w W' p0 p1 p2 c0 c1 c2 n0 n1 n2 := ⟨h.ext.trans hx (fun _ _ h => h), hx.obj h.res (fun h => h), hx.obj h.lst (fun h => h)⟩
theorem C4.facts (h : C4 w W p0 p1 p2 c0 c1 c2 n0 n1 n2) : W.cell? ⟨w.heap.size, 0, none⟩ = some (.int .i64 0) ∧ W.cell? ⟨w.heap.size, 1, none⟩ = some (.int .i64 0) ∧ W.cell? ⟨w.heap.size, 2, none⟩ = some (.int .i64 0) ∧ W.frozen? ⟨w.heap.size, 0, none⟩ = false ∧ W.frozen? ⟨w.heap.size, 1, none⟩ = false ∧ W.frozen? ⟨w.heap.size, 2, none⟩ = false ∧
    W.cell? ⟨w.heap.size + 1, 0, none⟩ = some (.slice p0 n0 c0) ∧ W.cell? ⟨w.heap.size + 1, 1, none⟩ = some (.slice p1 n1 c1) ∧ W.cell? ⟨w.heap.size + 1, 2, none⟩ = some (.slice p2 n2 c2) :=
  ⟨blk_cell h.res 0, blk_cell h.res 1, blk_cell h.res 2, blk_frozen h.res 0, blk_frozen h.res 1, blk_frozen h.res 2, blk_cell h.lst 0, blk_cell h.lst 1, blk_cell h.lst 2⟩
theorem C4.set (h : C4 w W p0 p1 p2 c0 c1 c2 n0 n1 n2) (u0 u1 u2 : Value) : Ext (fun _ => False) w (((W.setCell ⟨w.heap.size, 0, none⟩ u0).setCell ⟨w.heap.size, 1, none⟩ u1).setCell ⟨w.heap.size, 2, none⟩ u2) :=
  ((h.ext.setCell (p := ⟨w.heap.size, 0, none⟩) (fun h => absurd h (Nat.lt_irrefl _)) _).setCell (p := ⟨w.heap.size, 1, none⟩) (fun h => absurd h (Nat.lt_irrefl _)) _).setCell (p := ⟨w.heap.size, 2, none⟩) (fun h => absurd h (Nat.lt_irrefl _)) _
end
def MA4 (r1 : Int) (b1 : Bool) (C : World → Prop) (v i : Value) (W : World) : Prop := ∃ n F : Int, i = .int .i64 n ∧ v = .int .i64 F ∧ ((n = 0 ∧ F = -1) ∨ (n = 1 ∧ F = if b1 then r1 else -1)) ∧ C W
def MB4 (r2 : Int) (b2 : Bool) (r3 : Int) (b3 : Bool) (C : World → Prop) (v i : Value) (W : World) : Prop := ∃ n F : Int, i = .int .i64 n ∧ v = .int .i64 F ∧ ((n = 0 ∧ F = -1) ∨ (n = 1 ∧ F = if b2 then r2 else -1) ∨ (n = 2 ∧ F = if b2 then (if b3 then min r2 r3 else r2) else (if b3 then r3 else -1))) ∧ C W
def MO4 (b1 b2 b3 : Bool) (C : World → Prop) (i : Value) (W : World) : Prop := ∃ k : Int, i = .int .i64 k ∧ 1 ≤ k ∧ k ≤ 3 ∧ (1 < k → b1 = false) ∧ (2 < k → b2 = false ∧ b3 = false) ∧ C W
theorem meet_row (a b : List Spn) : 0 ≤ (meet a b).1 := by
  unfold meet
  rcases firstGo_cases (fun x => b.any (touch x)) 0 a with h | ⟨k, _, h⟩
  · rw [h]; decide
  · rw [h]; show (0 : Int) ≤ ((0 + k : Nat) : Int); omega
def C4End (w : World) (ls ns ss : List Spn) (e : Ending) (w' : World) : Prop :=
  e = .returned (.agg #[.int .i64 (check4 ls ns ss).1, .int .i64 (check4 ls ns ss).2.1, .int .i64 (check4 ls ns ss).2.2]) ∧ Ext (fun _ => False) w w'
theorem C4End.mk {w w' : World} {ls ns ss : List Spn} {y l r : Int} (h : check4 ls ns ss = (y, l, r)) (hx : Ext (fun _ => False) w w') : C4End w ls ns ss (.returned (.agg #[.int .i64 y, .int .i64 l, .int .i64 r])) w' := ⟨by rw [h], hx⟩

set_option maxRecDepth 100000 in
set_option maxHeartbeats 8000000 in
theorem ref4_end (w : World) (p0 p1 p2 : Option Addr) (c0 c1 c2 : Nat) (ls ns ss : List Spn) (r0 : Rd eP w p0 ls) (r1 : Rd eP w p1 ns) (r2 : Rd eP w p2 ss)
    (b0 : ls.length * 8 ≤ 140737488351232) (b1 : ns.length * 8 ≤ 140737488351232) (b2 : ss.length * 8 ≤ 140737488351232) :
    Calls Tryz.prog 63 #[.slice p0 ls.length c0, .slice p1 ns.length c1, .slice p2 ss.length c2] w fun e w' => C4End w ls ns ss e w' := by
  have R0 := Lib.hid r0
  have R1 := Lib.hid r1
  have R2 := Lib.hid r2
  clear r0 r1 r2
  go_enter Tryz.func63, Tryz.ntmps63
  go_wp2_with fail
  have S0 := Lib.hid (show C4 w ((w.alloc (.cells #[.int .i64 0, .int .i64 0, .int .i64 0] 133)).alloc (.cells #[.slice p0 ls.length c0, .slice p1 ns.length c1, .slice p2 ss.length c2] 24)) p0 p1 p2 c0 c1 c2 ls.length ns.length ss.length from by
    refine ⟨((Ext.refl _ _).alloc _).alloc _, blk_alloc (heap_alloc_new w _) _, ?_⟩
    have := heap_alloc_new (w.alloc (.cells #[.int .i64 0, .int .i64 0, .int .i64 0] 133)) (.cells #[.slice p0 ls.length c0, .slice p1 ns.length c1, .slice p2 ss.length c2] 24)
    rwa [World.size_alloc] at this)
  generalize (w.alloc (.cells #[.int .i64 0, .int .i64 0, .int .i64 0] 133)).alloc (.cells #[.slice p0 ls.length c0, .slice p1 ns.length c1, .slice p2 ss.length c2] 24) = W0 at S0 ⊢
  obtain ⟨e0, e1, e2, f0, f1, f2, a0, a1, a2⟩ := S0.out.facts
  have SX := Lib.hid (fun u0 u1 u2 => S0.out.set u0 u1 u2)
  go_loop [8] (fun i => ∃ k : Int, i = .int .i64 k ∧ 0 ≤ k ∧ k ≤ 3 ∧ (0 < k → ls.length ≤ 512) ∧ (1 < k → ns.length ≤ 512) ∧ (2 < k → ss.length ≤ 512)) (fun i => 3 - (intOf i).toNat)
  case atStart => exact ⟨0, rfl, by omega, by omega, by omega, by omega, by omega⟩
  case round =>
    obtain ⟨k, rfl, hk0, hk, h0, h1, h2⟩ := hrel
    rcases (show k = 0 ∨ k = 1 ∨ k = 2 ∨ k = 3 by omega) with rfl | rfl | rfl | rfl
    · by_cases hl : 512 < ls.length
      · have E := Lib.hid (show check4 ls ns ss = (4, 1, 512) from by unfold check4; rw [if_pos hl])
        go_wp2_with fail
        exact bodyPost_ret (v := .agg #[.int .i64 4, .int .i64 1, .int .i64 512]) (by simp [results, Tryz.f63, go_sem, e0, e1, e2]) rfl (C4End.mk E.out (SX.out _ _ _))
      · go_wp2_with fail
        go_round
        case rel => exact ⟨1, rfl, by omega, by omega, by omega, by omega, by omega⟩
        case measure => simp [intOf]
    · have g0 := h0 (by omega)
      by_cases hl : 512 < ns.length
      · have E := Lib.hid (show check4 ls ns ss = (4, 2, 512) from by unfold check4; rw [if_neg (by omega), if_pos hl])
        go_wp2_with fail
        exact bodyPost_ret (v := .agg #[.int .i64 4, .int .i64 2, .int .i64 512]) (by simp [results, Tryz.f63, go_sem, e0, e1, e2]) rfl (C4End.mk E.out (SX.out _ _ _))
      · go_wp2_with fail
        go_round
        case rel => exact ⟨2, rfl, by omega, by omega, by omega, by omega, by omega⟩
        case measure => simp [intOf]
    · have g0 := h0 (by omega)
      have g1 := h1 (by omega)
      by_cases hl : 512 < ss.length
      · have E := Lib.hid (show check4 ls ns ss = (4, 3, 512) from by unfold check4; rw [if_neg (by omega), if_neg (by omega), if_pos hl])
        go_wp2_with fail
        exact bodyPost_ret (v := .agg #[.int .i64 4, .int .i64 3, .int .i64 512]) (by simp [results, Tryz.f63, go_sem, e0, e1, e2]) rfl (C4End.mk E.out (SX.out _ _ _))
      · go_wp2_with fail
        go_round
        case rel => exact ⟨3, rfl, by omega, by omega, by omega, by omega, by omega⟩
        case measure => simp [intOf]
    · have g0 := h0 (by omega)
      have g1 := h1 (by omega)
      have g2 := h2 (by omega)
      have EC := Lib.hid (show check4 ls ns ss = if (right ls).2 ≠ 0 then ((right ls).2, 1, (right ls).1) else if (right ns).2 ≠ 0 then ((right ns).2, 2, (right ns).1) else if (right ss).2 ≠ 0 then ((right ss).2, 3, (right ss).1)
          else if (meet ns ls).2 = true then (16, 2, (meet ns ls).1)
          else if (meet ss ls).2 = true then (if (meet ss ns).2 = true then (16, 3, min (meet ss ls).1 (meet ss ns).1) else (16, 3, (meet ss ls).1))
          else if (meet ss ns).2 = true then (16, 3, (meet ss ns).1)
          else if inn ss 32 = false ∨ inn ls 39 = true ∨ inn ns 39 = true ∨ inn ss 39 = true then (20, 3, 0) else (0, 0, 0) from by
        unfold check4
        rw [if_neg (by omega), if_neg (by omega), if_neg (by omega)])
      clear h0 h1 h2 hk hk0
      go_wp2_with fail
      clear e0 e1 e2 f0 f1 f2 a0 a1 a2 SX
      go_loopw [9] (fun i wr => ∃ k : Int, i = .int .i64 k ∧ 0 ≤ k ∧ k ≤ 3 ∧ (0 < k → (right ls).2 = 0) ∧ (1 < k → (right ns).2 = 0) ∧ (2 < k → (right ss).2 = 0) ∧ C4 w wr p0 p1 p2 c0 c1 c2 ls.length ns.length ss.length) (fun i _ => 3 - (intOf i).toNat)
      case atStart => exact ⟨0, rfl, by omega, by omega, by omega, by omega, by omega, S0.out⟩
      case round =>
        clear S0
        obtain ⟨k, rfl, hk0, hk, h0, h1, h2, hst⟩ := hrel
        have ST := Lib.hid hst
        obtain ⟨e0, e1, e2, f0, f1, f2, a0, a1, a2⟩ := hst.facts
        clear hst
        rcases (show k = 0 ∨ k = 1 ∨ k = 2 ∨ k = 3 by omega) with rfl | rfl | rfl | rfl
        · go_wp2_with fail
          refine (right3_any wr p0 c0 ls (R0.out.on ST.out.ext) (by omega)).mono ?_
          rintro e W1 ⟨rfl, hx1⟩
          have S1 := Lib.hid (ST.out.on hx1)
          clear hx1 e0 e1 e2 f0 f1 f2 a0 a1 a2
          obtain ⟨e0, e1, e2, f0, f1, f2, a0, a1, a2⟩ := S1.out.facts
          obtain ⟨⟨rr, re⟩, hr⟩ : ∃ t, right ls = t := ⟨_, rfl⟩
          have HR := Lib.hid hr
          rw [hr]
          clear hr
          by_cases hz : re = 0
          · have z := Lib.hid (show (right ls).2 = 0 from by rw [HR.out]; exact hz)
            subst hz
            go_wp2_with fail
            go_roundw
            case rel => exact ⟨1, rfl, by omega, by omega, fun _ => z.out, by omega, by omega, S1.out⟩
            case measure => simp [intOf]
          · have nz := Lib.hid (show (right ls).2 ≠ 0 from by rw [HR.out]; exact hz)
            have d1 : (re != 0) = true := by simpa using hz
            have E := Lib.hid (show check4 ls ns ss = (re, 1, rr) from by
              rw [EC.out, if_pos nz.out]
              rw [HR.out])
            have SX := Lib.hid (fun u0 u1 u2 => S1.out.set u0 u1 u2)
            clear hz
            go_wp2_with fail
            exact bodyPost_ret (v := .agg #[.int .i64 re, .int .i64 1, .int .i64 rr]) (by simp [results, Tryz.f63, go_sem, e0, e1, e2]) rfl (C4End.mk E.out (SX.out _ _ _))
        · go_wp2_with fail
          refine (right3_any wr p1 c1 ns (R1.out.on ST.out.ext) (by omega)).mono ?_
          rintro e W1 ⟨rfl, hx1⟩
          have S1 := Lib.hid (ST.out.on hx1)
          clear hx1 e0 e1 e2 f0 f1 f2 a0 a1 a2
          obtain ⟨e0, e1, e2, f0, f1, f2, a0, a1, a2⟩ := S1.out.facts
          obtain ⟨⟨rr, re⟩, hr⟩ : ∃ t, right ns = t := ⟨_, rfl⟩
          have HR := Lib.hid hr
          rw [hr]
          clear hr
          by_cases hz : re = 0
          · have z := Lib.hid (show (right ns).2 = 0 from by rw [HR.out]; exact hz)
            subst hz
            go_wp2_with fail
            go_roundw
            case rel => exact ⟨2, rfl, by omega, by omega, fun _ => h0 (by omega), fun _ => z.out, by omega, S1.out⟩
            case measure => simp [intOf]
          · have nz := Lib.hid (show (right ns).2 ≠ 0 from by rw [HR.out]; exact hz)
            have d1 : (re != 0) = true := by simpa using hz
            have E := Lib.hid (show check4 ls ns ss = (re, 2, rr) from by
              rw [EC.out, if_neg (by rw [h0 (by omega)]; decide), if_pos nz.out]
              rw [HR.out])
            have SX := Lib.hid (fun u0 u1 u2 => S1.out.set u0 u1 u2)
            clear hz
            go_wp2_with fail
            exact bodyPost_ret (v := .agg #[.int .i64 re, .int .i64 2, .int .i64 rr]) (by simp [results, Tryz.f63, go_sem, e0, e1, e2]) rfl (C4End.mk E.out (SX.out _ _ _))
        · go_wp2_with fail
          refine (right3_any wr p2 c2 ss (R2.out.on ST.out.ext) (by omega)).mono ?_
          rintro e W1 ⟨rfl, hx1⟩
          have S1 := Lib.hid (ST.out.on hx1)
          clear hx1 e0 e1 e2 f0 f1 f2 a0 a1 a2
          obtain ⟨e0, e1, e2, f0, f1, f2, a0, a1, a2⟩ := S1.out.facts
          obtain ⟨⟨rr, re⟩, hr⟩ : ∃ t, right ss = t := ⟨_, rfl⟩
          have HR := Lib.hid hr
          rw [hr]
          clear hr
          by_cases hz : re = 0
          · have z := Lib.hid (show (right ss).2 = 0 from by rw [HR.out]; exact hz)
            subst hz
            go_wp2_with fail
            go_roundw
            case rel => exact ⟨3, rfl, by omega, by omega, fun _ => h0 (by omega), fun _ => h1 (by omega), fun _ => z.out, S1.out⟩
            case measure => simp [intOf]
          · have nz := Lib.hid (show (right ss).2 ≠ 0 from by rw [HR.out]; exact hz)
            have d1 : (re != 0) = true := by simpa using hz
            have E := Lib.hid (show check4 ls ns ss = (re, 3, rr) from by
              rw [EC.out, if_neg (by rw [h0 (by omega)]; decide), if_neg (by rw [h1 (by omega)]; decide), if_pos nz.out]
              rw [HR.out])
            have SX := Lib.hid (fun u0 u1 u2 => S1.out.set u0 u1 u2)
            clear hz
            go_wp2_with fail
            exact bodyPost_ret (v := .agg #[.int .i64 re, .int .i64 3, .int .i64 rr]) (by simp [results, Tryz.f63, go_sem, e0, e1, e2]) rfl (C4End.mk E.out (SX.out _ _ _))
        · have O0 := Lib.hid (right_ok (h0 (by omega)))
          have O1 := Lib.hid (right_ok (h1 (by omega)))
          have O2 := Lib.hid (right_ok (h2 (by omega)))
          have EM := Lib.hid (show check4 ls ns ss = if (meet ns ls).2 = true then (16, 2, (meet ns ls).1)
              else if (meet ss ls).2 = true then (if (meet ss ns).2 = true then (16, 3, min (meet ss ls).1 (meet ss ns).1) else (16, 3, (meet ss ls).1))
              else if (meet ss ns).2 = true then (16, 3, (meet ss ns).1)
              else if inn ss 32 = false ∨ inn ls 39 = true ∨ inn ns 39 = true ∨ inn ss 39 = true then (20, 3, 0) else (0, 0, 0) from by
            rw [EC.out, if_neg (by rw [h0 (by omega)]; decide), if_neg (by rw [h1 (by omega)]; decide), if_neg (by rw [h2 (by omega)]; decide)])
          clear h0 h1 h2 hk hk0 EC
          have M10 := Lib.hid (meet_row ns ls)
          have M20 := Lib.hid (meet_row ss ls)
          have M21 := Lib.hid (meet_row ss ns)
          have MT10 := Lib.hid (fun W (hx : Ext (fun _ => False) w W) => meet3_any W p1 p0 c1 c0 ns ls (R1.out.on hx) (R0.out.on hx) O1.out O0.out (by omega) (by omega))
          have MT20 := Lib.hid (fun W (hx : Ext (fun _ => False) w W) => meet3_any W p2 p0 c2 c0 ss ls (R2.out.on hx) (R0.out.on hx) O2.out O0.out (by omega) (by omega))
          have MT21 := Lib.hid (fun W (hx : Ext (fun _ => False) w W) => meet3_any W p2 p1 c2 c1 ss ns (R2.out.on hx) (R1.out.on hx) O2.out O1.out (by omega) (by omega))
          obtain ⟨⟨r1, b1⟩, hm1⟩ : ∃ t, meet ns ls = t := ⟨_, rfl⟩
          obtain ⟨⟨r2, b2⟩, hm2⟩ : ∃ t, meet ss ls = t := ⟨_, rfl⟩
          obtain ⟨⟨r3, b3⟩, hm3⟩ : ∃ t, meet ss ns = t := ⟨_, rfl⟩
          rw [hm1] at M10 MT10 EM
          rw [hm2] at M20 MT20 EM
          rw [hm3] at M21 MT21 EM
          clear hm1 hm2 hm3 e0 e1 e2 f0 f1 f2 a0 a1 a2
          go_wp2_with fail
          go_loopw [12] (fun i w2 => MO4 b1 b2 b3 (fun W => C4 w W p0 p1 p2 c0 c1 c2 ls.length ns.length ss.length) i w2) (fun i _ => 3 - (intOf i).toNat)
          case atStart => exact ⟨1, rfl, by omega, by omega, by omega, by omega, ST.out⟩
          case round =>
            clear ST
            obtain ⟨k, rfl, hk1, hk, h0, h1, hst⟩ := hrel
            have ST := Lib.hid hst
            clear hst
            rcases (show k = 1 ∨ k = 2 ∨ k = 3 by omega) with rfl | rfl | rfl
            · clear h0 h1 hk hk1
              go_wp2_with fail
              go_loopw [13, 14] (fun v i w3 => MA4 r1 b1 (fun W => C4 w W p0 p1 p2 c0 c1 c2 ls.length ns.length ss.length) v i w3) (fun _ i _ => 1 - (intOf i).toNat)
              case atStart => exact ⟨0, -1, rfl, rfl, .inl ⟨rfl, rfl⟩, ST.out⟩
              case round =>
                clear ST
                obtain ⟨n, F, rfl, rfl, hF, hst⟩ := hrel
                have ST := Lib.hid hst
                clear hst
                rcases hF with ⟨rfl, rfl⟩ | ⟨rfl, hF⟩
                · have CE := Lib.hid (show ∀ w', Ext (fun _ => False) wr w' → (w'.cell? ⟨w.heap.size + 1, 1, none⟩ = some (.slice p1 ns.length c1) ∧ w'.cell? ⟨w.heap.size + 1, 0, none⟩ = some (.slice p0 ls.length c0)) ∧ Ext (fun _ => False) wr w' from fun w' e => ⟨⟨blk_cell (ST.out.on e).lst 1, blk_cell (ST.out.on e).lst 0⟩, e⟩)
                  have D0 := Lib.hid (show Ext (fun _ => False) wr wr.drew from Ext.drew (Ext.refl _ _))
                  have MX := Lib.hid (MT10.out wr.drew (ST.out.ext.trans D0.out (fun _ _ h => h)))
                  go_wp2_with fail
                  go_region_held3 (fun w' => (w'.cell? ⟨w.heap.size + 1, 1, none⟩ = some (.slice p1 ns.length c1) ∧ w'.cell? ⟨w.heap.size + 1, 0, none⟩ = some (.slice p0 ls.length c0)) ∧ Ext (fun _ => False) wr w')
                    (first | exact CE.out _ D0.out)
                    (first
                      | (go_at_call 89; (with_reducible refine MX.out.mono ?_); rintro e w5 ⟨rfl, rfl⟩))
                  have S1 := Lib.hid (ST.out.on D0.out)
                  rcases b1
                  · go_wp2_with fail
                    go_roundw
                    case rel => exact ⟨1, -1, rfl, rfl, .inr ⟨rfl, rfl⟩, S1.out⟩
                    case measure => simp [intOf]
                  · go_wp2_with fail
                    go_roundw
                    case rel => exact ⟨1, r1, rfl, rfl, .inr ⟨rfl, rfl⟩, S1.out⟩
                    case measure => simp [intOf]
                · have hr := M10.out
                  rcases b1
                  · obtain rfl : F = -1 := hF
                    go_wp2_with fail
                    go_roundw
                    case rel => exact ⟨2, rfl, by omega, by omega, fun _ => rfl, by omega, ST.out⟩
                    case measure => simp [intOf]
                  · obtain rfl : F = r1 := hF
                    obtain ⟨e0, e1, e2, f0, f1, f2, a0, a1, a2⟩ := ST.out.facts
                    have SX := Lib.hid (fun u0 u1 u2 => ST.out.set u0 u1 u2)
                    have E := Lib.hid (show check4 ls ns ss = (16, 2, F) from by rw [EM.out, if_pos rfl])
                    have d1 : decide (F ≥ 0) = true := decide_eq_true hr
                    clear a0 a1 a2
                    go_wp2_with fail
                    exact bodyPost_ret (v := .agg #[.int .i64 16, .int .i64 2, .int .i64 F]) (by simp [results, Tryz.f63, go_sem, e0, e1, e2]) rfl (C4End.mk E.out (SX.out _ _ _))
            · obtain rfl := h0 (by omega)
              clear h0 h1 hk hk1
              go_wp2_with fail
              go_loopw [13, 14] (fun v i w3 => MB4 r2 b2 r3 b3 (fun W => C4 w W p0 p1 p2 c0 c1 c2 ls.length ns.length ss.length) v i w3) (fun _ i _ => 2 - (intOf i).toNat)
              case atStart => exact ⟨0, -1, rfl, rfl, .inl ⟨rfl, rfl⟩, ST.out⟩
              case round =>
                clear ST
                obtain ⟨n, F, rfl, rfl, hF, hst⟩ := hrel
                have ST := Lib.hid hst
                clear hst
                have hr2 := M20.out
                have hr3 := M21.out
                rcases hF with ⟨rfl, rfl⟩ | ⟨rfl, hF⟩ | ⟨rfl, hF⟩
                · have CE := Lib.hid (show ∀ w', Ext (fun _ => False) wr w' → (w'.cell? ⟨w.heap.size + 1, 2, none⟩ = some (.slice p2 ss.length c2) ∧ w'.cell? ⟨w.heap.size + 1, 0, none⟩ = some (.slice p0 ls.length c0)) ∧ Ext (fun _ => False) wr w' from fun w' e => ⟨⟨blk_cell (ST.out.on e).lst 2, blk_cell (ST.out.on e).lst 0⟩, e⟩)
                  have D0 := Lib.hid (show Ext (fun _ => False) wr wr.drew from Ext.drew (Ext.refl _ _))
                  have MX := Lib.hid (MT20.out wr.drew (ST.out.ext.trans D0.out (fun _ _ h => h)))
                  go_wp2_with fail
                  go_region_held3 (fun w' => (w'.cell? ⟨w.heap.size + 1, 2, none⟩ = some (.slice p2 ss.length c2) ∧ w'.cell? ⟨w.heap.size + 1, 0, none⟩ = some (.slice p0 ls.length c0)) ∧ Ext (fun _ => False) wr w')
                    (first | exact CE.out _ D0.out)
                    (first
                      | (go_at_call 89; (with_reducible refine MX.out.mono ?_); rintro e w5 ⟨rfl, rfl⟩))
                  have S1 := Lib.hid (ST.out.on D0.out)
                  rcases b2
                  · go_wp2_with fail
                    go_roundw
                    case rel => exact ⟨1, -1, rfl, rfl, .inr (.inl ⟨rfl, rfl⟩), S1.out⟩
                    case measure => simp [intOf]
                  · go_wp2_with fail
                    go_roundw
                    case rel => exact ⟨1, r2, rfl, rfl, .inr (.inl ⟨rfl, rfl⟩), S1.out⟩
                    case measure => simp [intOf]
                · have HF := Lib.hid hF
                  clear hF
                  have CE := Lib.hid (show ∀ w', Ext (fun _ => False) wr w' → (w'.cell? ⟨w.heap.size + 1, 2, none⟩ = some (.slice p2 ss.length c2) ∧ w'.cell? ⟨w.heap.size + 1, 1, none⟩ = some (.slice p1 ns.length c1)) ∧ Ext (fun _ => False) wr w' from fun w' e => ⟨⟨blk_cell (ST.out.on e).lst 2, blk_cell (ST.out.on e).lst 1⟩, e⟩)
                  have D0 := Lib.hid (show Ext (fun _ => False) wr wr.drew from Ext.drew (Ext.refl _ _))
                  have MX := Lib.hid (MT21.out wr.drew (ST.out.ext.trans D0.out (fun _ _ h => h)))
                  go_wp2_with fail
                  go_region_held3 (fun w' => (w'.cell? ⟨w.heap.size + 1, 2, none⟩ = some (.slice p2 ss.length c2) ∧ w'.cell? ⟨w.heap.size + 1, 1, none⟩ = some (.slice p1 ns.length c1)) ∧ Ext (fun _ => False) wr w')
                    (first | exact CE.out _ D0.out)
                    (first
                      | (go_at_call 89; (with_reducible refine MX.out.mono ?_); rintro e w5 ⟨rfl, rfl⟩))
                  have S1 := Lib.hid (ST.out.on D0.out)
                  rcases b3
                  · go_wp2_with fail
                    go_roundw
                    case rel => exact ⟨2, F, rfl, rfl, .inr (.inr ⟨rfl, HF.out⟩), S1.out⟩
                    case measure => simp [intOf]
                  · rcases b2
                    · obtain rfl : F = -1 := HF.out
                      go_wp2_with fail
                      go_roundw
                      case rel => exact ⟨2, r3, rfl, rfl, .inr (.inr ⟨rfl, rfl⟩), S1.out⟩
                      case measure => simp [intOf]
                    · obtain rfl : F = r2 := HF.out
                      have g1 : ¬ F < 0 := by omega
                      by_cases g2 : r3 < F
                      · have HM := Lib.hid (show min F r3 = r3 from by omega)
                        go_wp2_with fail
                        go_roundw
                        case rel => exact ⟨2, r3, rfl, rfl, .inr (.inr ⟨rfl, HM.out.symm⟩), S1.out⟩
                        case measure => simp [intOf]
                      · have HM := Lib.hid (show min F r3 = F from by omega)
                        go_wp2_with fail
                        go_roundw
                        case rel => exact ⟨2, F, rfl, rfl, .inr (.inr ⟨rfl, HM.out.symm⟩), S1.out⟩
                        case measure => simp [intOf]
                · by_cases hb : b2 = false ∧ b3 = false
                  · obtain ⟨rfl, rfl⟩ := hb
                    obtain rfl : F = -1 := hF
                    go_wp2_with fail
                    go_roundw
                    case rel => exact ⟨3, rfl, by omega, by omega, fun _ => rfl, fun _ => ⟨rfl, rfl⟩, ST.out⟩
                    case measure => simp [intOf]
                  · have E := Lib.hid (show check4 ls ns ss = (16, 3, F) from by
                      rw [EM.out, if_neg (by decide), hF]
                      rcases b2 <;> rcases b3 <;> simp_all)
                    have hF0 : 0 ≤ F := by
                      rw [hF]
                      rcases b2 <;> rcases b3 <;> simp_all <;> omega
                    have d1 : decide (F ≥ 0) = true := decide_eq_true hF0
                    obtain ⟨e0, e1, e2, f0, f1, f2, a0, a1, a2⟩ := ST.out.facts
                    have SX := Lib.hid (fun u0 u1 u2 => ST.out.set u0 u1 u2)
                    clear a0 a1 a2 hF hb
                    go_wp2_with fail
                    exact bodyPost_ret (v := .agg #[.int .i64 16, .int .i64 3, .int .i64 F]) (by simp [results, Tryz.f63, go_sem, e0, e1, e2]) rfl (C4End.mk E.out (SX.out _ _ _))
            · obtain rfl := h0 (by omega)
              obtain ⟨rfl, rfl⟩ := h1 (by omega)
              have EI := Lib.hid (show check4 ls ns ss = if inn ss 32 = false ∨ inn ls 39 = true ∨ inn ns 39 = true ∨ inn ss 39 = true then (20, 3, 0) else (0, 0, 0) from by
                rw [EM.out, if_neg (by decide), if_neg (by decide), if_neg (by decide)])
              clear h0 h1 hk hk1
              have I0 := Lib.hid (in3_any wr p2 c2 ss 32 (R2.out.on ST.out.ext) (by omega))
              have I1 := Lib.hid (in3_any wr p0 c0 ls 39 (R0.out.on ST.out.ext) (by omega))
              have I2 := Lib.hid (in3_any wr p1 c1 ns 39 (R1.out.on ST.out.ext) (by omega))
              have I3 := Lib.hid (in3_any wr p2 c2 ss 39 (R2.out.on ST.out.ext) (by omega))
              obtain ⟨e0, e1, e2, f0, f1, f2, a0, a1, a2⟩ := ST.out.facts
              have SX := Lib.hid (fun u0 u1 u2 => ST.out.set u0 u1 u2)
              clear a0 a1 a2
              go_wp2_with fail
              refine I0.out.mono ?_
              rintro e w' ⟨rfl, rfl⟩
              by_cases j0 : inn ss 32 = true
              rotate_left
              · have j0' : inn ss 32 = false := by simpa using j0
                have E := Lib.hid (show check4 ls ns ss = (20, 3, 0) from by rw [EI.out, if_pos (.inl j0')])
                rw [j0']
                clear j0 j0'
                go_wp2_with fail
                exact bodyPost_ret (v := .agg #[.int .i64 20, .int .i64 3, .int .i64 0]) (by simp [results, Tryz.f63, go_sem, e0, e1, e2]) rfl (C4End.mk E.out (SX.out _ _ _))
              have J0 := Lib.hid j0
              rw [j0]
              clear j0
              go_wp2_with fail
              refine I1.out.mono ?_
              rintro e w' ⟨rfl, rfl⟩
              by_cases j1 : inn ls 39 = true
              · have E := Lib.hid (show check4 ls ns ss = (20, 3, 0) from by rw [EI.out, if_pos (.inr (.inl j1))])
                rw [j1]
                clear j1
                go_wp2_with fail
                exact bodyPost_ret (v := .agg #[.int .i64 20, .int .i64 3, .int .i64 0]) (by simp [results, Tryz.f63, go_sem, e0, e1, e2]) rfl (C4End.mk E.out (SX.out _ _ _))
              have j1' : inn ls 39 = false := by simpa using j1
              have J1 := Lib.hid j1'
              rw [j1']
              clear j1 j1'
              go_wp2_with fail
              refine I2.out.mono ?_
              rintro e w' ⟨rfl, rfl⟩
              by_cases j2 : inn ns 39 = true
              · have E := Lib.hid (show check4 ls ns ss = (20, 3, 0) from by rw [EI.out, if_pos (.inr (.inr (.inl j2)))])
                rw [j2]
                clear j2
                go_wp2_with fail
                exact bodyPost_ret (v := .agg #[.int .i64 20, .int .i64 3, .int .i64 0]) (by simp [results, Tryz.f63, go_sem, e0, e1, e2]) rfl (C4End.mk E.out (SX.out _ _ _))
              have j2' : inn ns 39 = false := by simpa using j2
              have J2 := Lib.hid j2'
              rw [j2']
              clear j2 j2'
              go_wp2_with fail
              refine I3.out.mono ?_
              rintro e w' ⟨rfl, rfl⟩
              by_cases j3 : inn ss 39 = true
              · have E := Lib.hid (show check4 ls ns ss = (20, 3, 0) from by rw [EI.out, if_pos (.inr (.inr (.inr j3)))])
                rw [j3]
                clear j3
                go_wp2_with fail
                exact bodyPost_ret (v := .agg #[.int .i64 20, .int .i64 3, .int .i64 0]) (by simp [results, Tryz.f63, go_sem, e0, e1, e2]) rfl (C4End.mk E.out (SX.out _ _ _))
              have j3' : inn ss 39 = false := by simpa using j3
              have E := Lib.hid (show check4 ls ns ss = (0, 0, 0) from by rw [EI.out, if_neg (by rw [J0.out, J1.out, J2.out, j3']; decide)])
              rw [j3']
              clear j3 j3'
              go_wp2_with fail
              exact bodyPost_ret (v := .agg #[.int .i64 0, .int .i64 0, .int .i64 0]) (by simp [results, Tryz.f63, go_sem, e0, e1, e2]) rfl (C4End.mk E.out (SX.out _ _ _))
theorem ref4_any (w : World) (p0 p1 p2 : Option Addr) (c0 c1 c2 : Nat) (ls ns ss : List Spn) (r0 : Rd eP w p0 ls) (r1 : Rd eP w p1 ns) (r2 : Rd eP w p2 ss) (k0 : ls.length ≤ c0) (k1 : ns.length ≤ c1) (k2 : ss.length ≤ c2)
    (b0 : ls.length * 8 ≤ 140737488351232) (b1 : ns.length * 8 ≤ 140737488351232) (b2 : ss.length * 8 ≤ 140737488351232) :
    Calls Tryz.prog 63 #[.slice p0 ls.length c0, .slice p1 ns.length c1, .slice p2 ss.length c2] w fun e w' => e = .returned (.agg #[.int .i64 (check4 ls ns ss).1, .int .i64 (check4 ls ns ss).2.1, .int .i64 (check4 ls ns ss).2.2]) ∧ Ext (fun _ => False) w w' := ref4_end w p0 p1 p2 c0 c1 c2 ls ns ss r0 r1 r2 b0 b1 b2
end Go.Proofs.YtigpaaelggnffaaGreatDoor.Sl
