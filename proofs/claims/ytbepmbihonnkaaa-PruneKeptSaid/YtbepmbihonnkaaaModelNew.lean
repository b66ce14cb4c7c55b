/- model.New; a model in memory. -/
import Derived.Test.YtbepmbihonnkaaaModelPairs
import Derived.Test.YtbepmbihonnkaaaClassesNew
namespace Go.Proofs.Ytbepmbihonnkaaa.Sl
open Go.Proofs.Ytbepmbihonnkaaa.Lib
open Go.RowKit
set_option linter.unusedVariables false
set_option linter.unusedSimpArgs false

/-- What is wrong with data: why, list, row. -/
def check5 (d : Dat) : Int × Int × Int :=
  if 4096 < d.ms.length then (4, 5, 4096)
  else if d.ws.length ≠ d.ms.length then (4, 4, mn d.ws.length d.ms.length)
  else if (check4 d.ls d.ns d.ss).1 ≠ 0 then check4 d.ls d.ns d.ss
  else if (wordsGo 0 [] d.ws).2 ≠ 0 then ((wordsGo 0 [] d.ws).2, 4, (wordsGo 0 [] d.ws).1)
  else if (pairsGo d.ws 0 [] d.ms).2 ≠ 0 then ((pairsGo d.ws 0 [] d.ms).2, 5, (pairsGo d.ws 0 [] d.ms).1)
  else (0, 0, 0)
/-- A right model's data at a. -/
structure ModelAt (w : World) (a : Nat) (d : Dat) (L : Pl) (tp mp : Nat) (q0 q1 q2 : Option Addr) (d0 d1 d2 : Nat) : Prop where
  blk : MB w a L d tp mp (longest d.ws)
  rd : DR w L d
  tab : TabAt 512 w tp q0 q1 q2 d0 d1 d2 d.ls d.ns d.ss
  map : MapAt w mp (entsM 0 d.ms)
theorem ModelAt.on {w w' : World} {a : Nat} {d : Dat} {L : Pl} {tp mp : Nat} {q0 q1 q2 : Option Addr} {d0 d1 d2 : Nat} (h : ModelAt w a d L tp mp q0 q1 q2 d0 d1 d2) (hx : Ext (fun _ => False) w w') : ModelAt w' a d L tp mp q0 q1 q2 d0 d1 d2 :=
  ⟨h.blk.on hx (fun h => h), h.rd.on hx, h.tab.on hx, h.map.ext hx (fun h => h)⟩
def IsModel (w : World) (a : Nat) (d : Dat) : Prop := ∃ L tp mp q0 q1 q2 d0 d1 d2, ModelAt w a d L tp mp q0 q1 q2 d0 d1 d2
theorem IsModel.on {w w' : World} {a : Nat} {d : Dat} (h : IsModel w a d) (hx : Ext (fun _ => False) w w') : IsModel w' a d := by
  obtain ⟨L, tp, mp, q0, q1, q2, d0, d1, d2, h⟩ := h
  exact ⟨L, tp, mp, q0, q1, q2, d0, d1, d2, h.on hx⟩
def NewEnd (w : World) (d : Dat) (e : Ending) (w' : World) : Prop :=
  Ext (fun _ => False) w w' ∧ (((check5 d).1 ≠ 0 ∧ e = .returned (.tuple #[.pointer none, .agg #[.int .i64 (check5 d).1, .int .i64 (check5 d).2.1, .int .i64 (check5 d).2.2]])) ∨
    ((check5 d).1 = 0 ∧ ∃ a, e = .returned (.tuple #[.pointer (some ⟨a, 0, none⟩), .agg #[.int .i64 0, .int .i64 0, .int .i64 0]]) ∧ IsModel w' a d ∧ w.heap.size ≤ a))
theorem NewEnd.drew {w w' : World} {d : Dat} {e : Ending} (h : NewEnd w d e w') : NewEnd w d e w'.drew :=
  ⟨h.1.drew, h.2.imp id (fun ⟨h1, a, h2, h3, h4⟩ => ⟨h1, a, h2, h3.on (Ext.refl _ _).drew, h4⟩)⟩
/-- Where the call stands: the box of d, the fault's cells. -/
structure New5 (w W : World) (L : Pl) (d : Dat) : Prop where
  ext : Ext (fun _ => False) w W
  box : W.heap[w.heap.size]? = some (.cells #[.slice L.p0 d.ws.length L.c0, .slice L.p1 d.ms.length L.c1, .slice L.p2 d.ls.length L.c2, .slice L.p3 d.ns.length L.c3, .slice L.p4 d.ss.length L.c4] 26 (0, 0))
  res : W.heap[w.heap.size + 1]? = some (.cells #[.int .i64 0, .int .i64 0, .int .i64 0] 72 (0, 0))
theorem New5.on {w W W' : World} {L : Pl} {d : Dat} (h : New5 w W L d) (hx : Ext (fun _ => False) W W') : New5 w W' L d := ⟨h.ext.trans hx (fun _ _ h => h), hx.obj h.box (fun h => h), hx.obj h.res (fun h => h)⟩
theorem New5.facts {w W : World} {L : Pl} {d : Dat} (h : New5 w W L d) :
    W.cell? ⟨w.heap.size, 0, none⟩ = some (.slice L.p0 d.ws.length L.c0) ∧ W.cell? ⟨w.heap.size, 1, none⟩ = some (.slice L.p1 d.ms.length L.c1) ∧ W.cell? ⟨w.heap.size, 2, none⟩ = some (.slice L.p2 d.ls.length L.c2) ∧ W.cell? ⟨w.heap.size, 3, none⟩ = some (.slice L.p3 d.ns.length L.c3) ∧ W.cell? ⟨w.heap.size, 4, none⟩ = some (.slice L.p4 d.ss.length L.c4) ∧
    W.cell? ⟨w.heap.size + 1, 0, none⟩ = some (.int .i64 0) ∧ W.cell? ⟨w.heap.size + 1, 1, none⟩ = some (.int .i64 0) ∧ W.cell? ⟨w.heap.size + 1, 2, none⟩ = some (.int .i64 0) ∧
    W.frozen? ⟨w.heap.size + 1, 0, none⟩ = false ∧ W.frozen? ⟨w.heap.size + 1, 1, none⟩ = false ∧ W.frozen? ⟨w.heap.size + 1, 2, none⟩ = false :=
  ⟨blk_cell h.box 0, blk_cell h.box 1, blk_cell h.box 2, blk_cell h.box 3, blk_cell h.box 4, blk_cell h.res 0, blk_cell h.res 1, blk_cell h.res 2, blk_frozen h.res 0, blk_frozen h.res 1, blk_frozen h.res 2⟩
theorem New5.bad {w W : World} {L : Pl} {d : Dat} (h : New5 w W L d) {u0 u1 u2 : Value} {y l r : Int} (hc : check5 d = (y, l, r)) (hy : y ≠ 0) :
    NewEnd w d (.returned (.tuple #[.pointer none, .agg #[.int .i64 y, .int .i64 l, .int .i64 r]])) (((W.setCell ⟨w.heap.size + 1, 0, none⟩ u0).setCell ⟨w.heap.size + 1, 1, none⟩ u1).setCell ⟨w.heap.size + 1, 2, none⟩ u2) :=
  ⟨(((h.ext.setCell (p := ⟨w.heap.size + 1, 0, none⟩) (fun h => absurd h (by show ¬ (w.heap.size + 1 < w.heap.size); omega)) _).setCell (p := ⟨w.heap.size + 1, 1, none⟩) (fun h => absurd h (by show ¬ (w.heap.size + 1 < w.heap.size); omega)) _).setCell (p := ⟨w.heap.size + 1, 2, none⟩) (fun h => absurd h (by show ¬ (w.heap.size + 1 < w.heap.size); omega)) _), .inl ⟨by rw [hc]; exact hy, by rw [hc]⟩⟩

theorem same3 {w : World} {b : Nat} {u0 u1 u2 : Value} (h0 : w.cell? ⟨b, 0, none⟩ = some u0) (h1 : w.cell? ⟨b, 1, none⟩ = some u1) (h2 : w.cell? ⟨b, 2, none⟩ = some u2) : Ext (fun _ => False) w (((w.setCell ⟨b, 0, none⟩ u0).setCell ⟨b, 1, none⟩ u1).setCell ⟨b, 2, none⟩ u2) := by
  have hb := World.block_lt_of_cell? w _ h0
  have x1 := ext_same h0
  have x2 := ext_same ((x1.cell (p := ⟨b, 1, none⟩) hb (fun h => h)).trans h1)
  have x12 := x1.trans x2 (fun _ _ h => h)
  exact x12.trans (ext_same ((x12.cell (p := ⟨b, 2, none⟩) hb (fun h => h)).trans h2)) (fun _ _ h => h)

set_option maxRecDepth 100000 in
set_option maxHeartbeats 4000000 in
theorem new5_any (w : World) (L : Pl) (d : Dat) (h : DR w L d) :
    Calls Try.prog 37 #[.agg #[.slice L.p0 d.ws.length L.c0, .slice L.p1 d.ms.length L.c1, .slice L.p2 d.ls.length L.c2, .slice L.p3 d.ns.length L.c3, .slice L.p4 d.ss.length L.c4]] w fun e w' => NewEnd w d e w' := by
  have R := Lib.hid h
  have hb0 := h.b0
  have hb1 := h.b1
  clear h
  have hmm := @run_makeMap Try.prog
  go_enter Try.func37, Try.ntmps37
  have NB0 := Lib.hid (show New5 w ((w.alloc (.cells #[.slice L.p0 d.ws.length L.c0, .slice L.p1 d.ms.length L.c1, .slice L.p2 d.ls.length L.c2, .slice L.p3 d.ns.length L.c3, .slice L.p4 d.ss.length L.c4] 26)).alloc (.cells #[.int .i64 0, .int .i64 0, .int .i64 0] 72)) L d from by
    refine ⟨((Ext.refl _ _).alloc _).alloc _, blk_alloc (heap_alloc_new w _) _, ?_⟩
    have := heap_alloc_new (w.alloc (.cells #[.slice L.p0 d.ws.length L.c0, .slice L.p1 d.ms.length L.c1, .slice L.p2 d.ls.length L.c2, .slice L.p3 d.ns.length L.c3, .slice L.p4 d.ss.length L.c4] 26)) (.cells #[.int .i64 0, .int .i64 0, .int .i64 0] 72)
    rw [World.size_alloc] at this
    exact this)
  by_cases hA : 4096 < d.ms.length
  · have i0 : (d.ms.length : Int) > 4096 := by omega
    go_wp2_with fail
    refine bodyPost_ret (v := .tuple #[.pointer none, .agg #[.int .i64 4, .int .i64 5, .int .i64 4096]]) (by simp [results, Try.f37, go_sem]) rfl ?_
    have hc : check5 d = (4, 5, 4096) := by unfold check5; rw [if_pos hA]
    exact ⟨((Ext.refl _ _).alloc _).alloc _, .inl ⟨by rw [hc]; decide, by rw [hc]⟩⟩
  · have i0 : (d.ms.length : Int) ≤ 4096 := by omega
    by_cases hB : d.ws.length = d.ms.length
    rotate_left
    · have i1 : ((d.ws.length : Int) != (d.ms.length : Int)) = true := by simp; omega
      go_wp2_with fail
      go_region
      all_goals
        go_wp2_with fail
        refine bodyPost_ret (v := .tuple #[.pointer none, .agg #[.int .i64 4, .int .i64 4, .int .i64 (mn d.ws.length d.ms.length)]]) (by simp [results, Try.f37, go_sem]) rfl ?_
        have hc : check5 d = (4, 4, mn d.ws.length d.ms.length) := by unfold check5; rw [if_neg hA, if_pos hB]
        refine ⟨?_, .inl ⟨by rw [hc]; simp, by rw [hc]⟩⟩
        repeat (first | exact Ext.refl _ _ | refine Ext.drew ?_ | refine Ext.alloc ?_ _)
    · have i1 : ((d.ws.length : Int) != (d.ms.length : Int)) = false := by simp; omega
      have NA := Lib.hid (And.intro hA hB)
      clear hA
      have HB := Lib.hid hB
      clear hB
      go_wp2_with fail
      have C := new4_any _ L.p2 L.p3 L.p4 L.c2 L.c3 L.c4 d.ls d.ns d.ss (R.out.on NB0.out.ext).r2 (R.out.on NB0.out.ext).r3 (R.out.on NB0.out.ext).r4 R.out.b2 R.out.b3 R.out.b4
      refine C.mono ?_
      clear C
      rintro e W1 ⟨hx, ⟨hy, rfl⟩ | ⟨hy, tp, q0, q1, q2, d0, d1, d2, rfl, hT, hnew⟩⟩
      · have S := Lib.hid (NB0.out.on hx)
        clear hx
        obtain ⟨e0, e1, e2, e3, e4, f0, f1, f2, g0, g1, g2⟩ := S.out.facts
        obtain ⟨y, hy1⟩ : ∃ y, (check4 d.ls d.ns d.ss).1 = y := ⟨_, rfl⟩
        obtain ⟨l, hl1⟩ : ∃ y, (check4 d.ls d.ns d.ss).2.1 = y := ⟨_, rfl⟩
        obtain ⟨r, hr1⟩ : ∃ y, (check4 d.ls d.ns d.ss).2.2 = y := ⟨_, rfl⟩
        rw [hy1] at hy ⊢
        rw [hl1, hr1]
        have HC := Lib.hid (show check5 d = (y, l, r) from by
          unfold check5
          rw [if_neg NA.out.1, if_neg (Decidable.not_not.2 NA.out.2), if_pos (by rw [hy1]; exact hy), ← hy1, ← hl1, ← hr1])
        clear hy1 hl1 hr1
        go_wp2_with fail
        obtain ⟨W2, hW2⟩ : ∃ W2, W1.alloc (.cells #[.int .i64 y, .int .i64 l, .int .i64 r] 109) = W2 := ⟨_, rfl⟩
        have S := Lib.hid (show New5 w W2 L d from by rw [← hW2]; exact S.out.on ((Ext.refl _ _).alloc _))
        have bk : W2.heap[W1.heap.size]? = some (.cells #[.int .i64 y, .int .i64 l, .int .i64 r] 109 (0, 0)) := by rw [← hW2]; exact heap_alloc_new _ _
        rw [hW2]
        have b0 := blk_cell bk 0
        have b1 := blk_cell bk 1
        have b2 := blk_cell bk 2
        simp at b0 b1 b2
        clear hW2 bk e0 e1 e2 e3 e4 f0 f1 f2 g0 g1 g2
        obtain ⟨e0, e1, e2, e3, e4, f0, f1, f2, g0, g1, g2⟩ := S.out.facts
        go_region
        all_goals
          go_wp2_with fail
          exact bodyPost_ret (v := .tuple #[.pointer none, .agg #[.int .i64 y, .int .i64 l, .int .i64 r]]) (by simp [results, Try.f37, go_sem, f0, f1, f2]) rfl (S.out.bad HC.out hy).drew
      · have T := Lib.hid hT
        have S := Lib.hid (NB0.out.on hx)
        have NC := Lib.hid hy
        clear hx hT hy
        have ls1 : w.heap.size + 1 < W1.heap.size := blk_lt S.out.res
        have ls0 : w.heap.size < W1.heap.size := by omega
        obtain ⟨e0, e1, e2, e3, e4, f0, f1, f2, g0, g1, g2⟩ := S.out.facts
        go_wp2_with fail
        have XA : Ext (fun _ => False) W1 (W1.alloc (.cells #[.int .i64 0, .int .i64 0, .int .i64 0] 109)) := (Ext.refl _ _).alloc _
        have C := copied_any (W1.alloc (.cells #[.int .i64 0, .int .i64 0, .int .i64 0] 109)) L d (R.out.on (S.out.ext.trans XA (fun _ _ h => h)))
        have XA := Lib.hid XA
        refine C.mono ?_
        clear C
        rintro e W2 ⟨L2, rfl, hD, hx2⟩
        have S := Lib.hid (S.out.on (XA.out.trans hx2 (fun _ _ h => h)))
        have T := Lib.hid (T.out.on (XA.out.trans hx2 (fun _ _ h => h)))
        have D := Lib.hid hD
        have s1 := XA.out.size
        have s2 := hx2.size
        clear hx2 hD e0 e1 e2 e3 e4 f0 f1 f2 g0 g1 g2
        obtain ⟨e0, e1, e2, e3, e4, f0, f1, f2, g0, g1, g2⟩ := S.out.facts
        go_wp2_with fail
        obtain ⟨W3, hW3⟩ : ∃ W3, (W2.alloc (.map #[] 0)).alloc (.cells #[.slice L2.p0 d.ws.length L2.c0, .slice L2.p1 d.ms.length L2.c1, .slice L2.p2 d.ls.length L2.c2, .slice L2.p3 d.ns.length L2.c3, .slice L2.p4 d.ss.length L2.c4, .pointer (some ⟨tp, 0, none⟩), .map (some W2.heap.size), .int .i64 1] 92) = W3 := ⟨_, rfl⟩
        have X23 : Ext (fun _ => False) W2 W3 := by rw [← hW3]; exact ((Ext.refl _ _).alloc _).alloc _
        have M3 : MB W3 (W2.heap.size + 1) L2 d tp W2.heap.size 1 := ⟨by
          rw [← hW3]
          have := heap_alloc_new (W2.alloc (.map #[] 0)) (.cells #[.slice L2.p0 d.ws.length L2.c0, .slice L2.p1 d.ms.length L2.c1, .slice L2.p2 d.ls.length L2.c2, .slice L2.p3 d.ns.length L2.c3, .slice L2.p4 d.ss.length L2.c4, .pointer (some ⟨tp, 0, none⟩), .map (some W2.heap.size), .int .i64 1] 92)
          rw [World.size_alloc] at this
          exact this⟩
        have P3 : MapAt W3 W2.heap.size [] := by rw [← hW3]; exact (MapAt.new W2).ext ((Ext.refl (fun _ => False) _).alloc _) (fun h => h)
        have D3 := (D.out.reads R.out).on X23
        have F0 : ∀ k, blkOf L2.p0 = some k → k < W2.heap.size := fun k hk => arr_lt D.out.a0 hk
        have F1 : ∀ k, blkOf L2.p1 = some k → k < W2.heap.size := fun k hk => arr_lt D.out.a1 hk
        rw [hW3]
        have C := words_any W3 (W2.heap.size + 1) L2 d tp W2.heap.size M3 D3 (fun k hk => by have := F0 k hk; omega)
        have X23 := Lib.hid X23
        have P3 := Lib.hid P3
        have F0 := Lib.hid F0
        have F1 := Lib.hid F1
        refine C.mono ?_
        clear C hW3 M3 D3
        rintro e W4 ⟨rfl, hx4, hm4⟩
        have X24 := Lib.hid (show Ext (fun _ => False) W2 W4 from (X23.out.trans hx4 (fun i hi (h : i = W2.heap.size + 1) => by omega)))
        have S2 := S
        have T2 := T
        have S := Lib.hid (S2.out.on X24.out)
        have P4 := Lib.hid (P3.out.ext hx4 (by omega))
        have M4 := Lib.hid hm4
        clear hx4 hm4 e0 e1 e2 e3 e4 f0 f1 f2 g0 g1 g2
        obtain ⟨e0, e1, e2, e3, e4, f0, f1, f2, g0, g1, g2⟩ := S.out.facts
        obtain ⟨y, hy⟩ : ∃ y, (wordsGo 0 [] d.ws).2 = y := ⟨_, rfl⟩
        obtain ⟨r, hr⟩ : ∃ y, (wordsGo 0 [] d.ws).1 = y := ⟨_, rfl⟩
        rw [hy, hr]
        have YR := Lib.hid (And.intro hy hr)
        clear hy hr
        by_cases hy0 : y = 0
        rotate_left
        · have hne : (y != 0) = true := by simpa using hy0
          go_wp2_with fail
          refine bodyPost_ret (v := .tuple #[.pointer none, .agg #[.int .i64 y, .int .i64 4, .int .i64 r]]) (by simp [results, Try.f37, go_sem, f0, f1, f2]) rfl (S.out.bad ?_ hy0)
          unfold check5
          rw [if_neg NA.out.1, if_neg (Decidable.not_not.2 NA.out.2), if_neg (by rw [NC.out]; simp), if_pos (by rw [YR.out.1]; exact hy0), YR.out.1, YR.out.2]
        · subst hy0
          go_wp2_with fail
          have C := pairs_any W4 (W2.heap.size + 1) L2 d tp W2.heap.size (longest d.ws) (M4.out YR.out.1) ((D.out.reads R.out).on X24.out) P4.out (by omega) (fun k hk => by have := F0.out k hk; omega) (fun k hk => by have := F1.out k hk; omega) (by have := NA.out.2; omega)
          refine C.mono ?_
          clear C
          rintro e W5 ⟨rfl, hx5, hm5⟩
          have X25 := Lib.hid (show Ext (fun _ => False) W2 W5 from (X24.out.trans hx5 (fun i hi (h : i = W2.heap.size) => by omega)))
          have S := Lib.hid (S2.out.on X25.out)
          have T5 := Lib.hid (T2.out.on X25.out)
          have D5 := Lib.hid ((D.out.reads R.out).on X25.out)
          have B5 := Lib.hid ((M4.out YR.out.1).on hx5 (by omega))
          have M5 := Lib.hid hm5
          have SZ5 := Lib.hid X25.out.size
          clear hx5 hm5 e0 e1 e2 e3 e4 f0 f1 f2 g0 g1 g2
          obtain ⟨e0, e1, e2, e3, e4, f0, f1, f2, g0, g1, g2⟩ := S.out.facts
          obtain ⟨z, hz⟩ : ∃ y, (pairsGo d.ws 0 [] d.ms).2 = y := ⟨_, rfl⟩
          obtain ⟨t, ht⟩ : ∃ y, (pairsGo d.ws 0 [] d.ms).1 = y := ⟨_, rfl⟩
          rw [hz, ht]
          have ZT := Lib.hid (And.intro hz ht)
          clear hz ht
          by_cases hz0 : z = 0
          rotate_left
          · have hne : (z != 0) = true := by simpa using hz0
            go_wp2_with fail
            refine bodyPost_ret (v := .tuple #[.pointer none, .agg #[.int .i64 z, .int .i64 5, .int .i64 t]]) (by simp [results, Try.f37, go_sem, f0, f1, f2]) rfl (S.out.bad ?_ hz0)
            unfold check5
            rw [if_neg NA.out.1, if_neg (Decidable.not_not.2 NA.out.2), if_neg (by rw [NC.out]; simp), if_neg (by rw [YR.out.1]; simp), if_pos (by rw [ZT.out.1]; exact hz0), ZT.out.1, ZT.out.2]
          · subst hz0
            have hs2 : w.heap.size ≤ W2.heap.size := S2.out.ext.size
            go_wp2_with fail
            refine bodyPost_ret (v := .tuple #[.pointer (some ⟨W2.heap.size + 1, 0, none⟩), .agg #[.int .i64 0, .int .i64 0, .int .i64 0]]) (by simp [results, Try.f37, go_sem, f0, f1, f2]) rfl ?_
            have X := same3 f0 f1 f2
            refine ⟨S.out.ext.trans X (fun _ _ h => h), .inr ⟨?_, W2.heap.size + 1, rfl, ⟨L2, tp, W2.heap.size, q0, q1, q2, d0, d1, d2, ModelAt.on ⟨B5.out, D5.out, T5.out, M5.out ZT.out.1⟩ X⟩, by omega⟩⟩
            unfold check5
            rw [if_neg NA.out.1, if_neg (Decidable.not_not.2 NA.out.2), if_neg (by rw [NC.out]; simp), if_neg (by rw [YR.out.1]; simp), if_neg (by rw [ZT.out.1]; simp)]
end Go.Proofs.Ytbepmbihonnkaaa.Sl
