/- law10.BpeMerges. -/
import Derived.Test.YtiminpcpnblppaaBpeRange
import Derived.Test.YtiminpcpnblppaaBpeEnds
import Derived.Test.YtiminpcpnblppaaWithin
namespace Go.Proofs.Ytiminpcpnblppaa.Bpe
open Go.RowKit Go.Proofs.Ytiminpcpnblppaa.Lib Go.Proofs.Ytiminpcpnblppaa.Sl Go.Proofs.Ytiminpcpnblppaa.Chain
set_option linter.unusedVariables false
set_option linter.unusedSimpArgs false

/-- What stands of the head of the law. -/
structure MG (w0 W : World) (L : Pl) (d : Dat) (m b3 b5 b6 : Nat) (q : Int) (v : Bool) : Prop where
  ext : Ext (fun _ => False) w0 W
  mo : IsModel W m d
  h3 : W.heap[b3]? = some (.cells (dataCells L d) 26 (0, 0))
  x5 : Boxed W b5 3 (.int .i64 q)
  x6 : Boxed W b6 4 (.bool v)
  lo : w0.heap.size ≤ b3 ∧ b5 = b3 + 1 ∧ b6 = b3 + 1 + 1
theorem MG.on {w0 W W' : World} {L : Pl} {d : Dat} {m b3 b5 b6 : Nat} {q : Int} {v : Bool} (h : MG w0 W L d m b3 b5 b6 q v) (hx : Ext (fun _ => False) W W') : MG w0 W' L d m b3 b5 b6 q v :=
  ⟨h.ext.trans hx (fun _ _ h => h), h.mo.on hx, hx.obj h.h3 (fun h => h), hx.obj h.x5 (fun h => h), hx.obj h.x6 (fun h => h), h.lo⟩
theorem MG.set5 {w0 W : World} {L : Pl} {d : Dat} {m b3 b5 b6 : Nat} {q : Int} {v : Bool} (h : MG w0 W L d m b3 b5 b6 q v) (q' : Int) : MG w0 (W.setCell ⟨b5, 0, none⟩ (.int .i64 q')) L d m b3 b5 b6 q' v := by
  have hx : Ext (fun k => k = b5) W (W.setCell ⟨b5, 0, none⟩ (.int .i64 q')) := (Ext.refl (fun k => k = b5) W).setCell (p := ⟨b5, 0, none⟩) (fun _ => rfl) _
  have lo := h.lo
  exact ⟨h.ext.setCell (p := ⟨b5, 0, none⟩) (fun hl => by have : b5 < w0.heap.size := hl; omega) _, h.mo.box h.x5 hx (fun s e => by cases e), hx.obj h.h3 (by omega), Boxed.set _ h.x5, hx.obj h.x6 (by omega), lo⟩
theorem MG.set6 {w0 W : World} {L : Pl} {d : Dat} {m b3 b5 b6 : Nat} {q : Int} {v : Bool} (h : MG w0 W L d m b3 b5 b6 q v) (v' : Bool) : MG w0 (W.setCell ⟨b6, 0, none⟩ (.bool v')) L d m b3 b5 b6 q v' := by
  have hx : Ext (fun k => k = b6) W (W.setCell ⟨b6, 0, none⟩ (.bool v')) := (Ext.refl (fun k => k = b6) W).setCell (p := ⟨b6, 0, none⟩) (fun _ => rfl) _
  have lo := h.lo
  exact ⟨h.ext.setCell (p := ⟨b6, 0, none⟩) (fun hl => by have : b6 < w0.heap.size := hl; omega) _, h.mo.box h.x6 hx (fun s e => by cases e), hx.obj h.h3 (by omega), hx.obj h.x5 (by omega), Boxed.set _ h.x6, lo⟩
theorem data_cells {W : World} {L : Pl} {d : Dat} {b : Nat} (h : W.heap[b]? = some (.cells (dataCells L d) 26 (0, 0))) : W.cell? ⟨b, 0, none⟩ = some (.slice L.p0 d.ws.length L.c0) ∧ W.cell? ⟨b, 1, none⟩ = some (.slice L.p1 d.ms.length L.c1) ∧ W.cell? ⟨b, 2, none⟩ = some (.slice L.p2 d.ls.length L.c2) ∧ W.cell? ⟨b, 3, none⟩ = some (.slice L.p3 d.ns.length L.c3) ∧ W.cell? ⟨b, 4, none⟩ = some (.slice L.p4 d.ss.length L.c4) :=
  ⟨blk_cell h 0, blk_cell h 1, blk_cell h 2, blk_cell h 3, blk_cell h 4⟩
theorem refj_any (w : World) (L : Pl) (d : Dat) (p : Option Addr) (c : Nat) (t : ByteArray) (h : DR w L d) (hd : RightD d) (hl : Rd eI w p (bytesL t)) (hn : t.size ≤ 1048576) :
    Calls Try.prog 16 #[.agg #[.slice L.p0 d.ws.length L.c0, .slice L.p1 d.ms.length L.c1, .slice L.p2 d.ls.length L.c2, .slice L.p3 d.ns.length L.c3, .slice L.p4 d.ss.length L.c4], .slice p t.size c] w fun e w' => RJoinEnd w d (bytesL t) e w' := by
  have := ref10joined_any w L d p c (bytesL t) h (by have := hd.few; omega) hl (by rw [bytesL_length]; exact hn)
  rwa [bytesL_length] at this
theorem want_old {W w2 : World} {b n n2 c sc : Nat} {p sp : Option Addr} {I : List Int} {st : List (Nat × Nat)} {v0 : Value} (E : Ext (fun _ => False) W w2) (hb : W.heap.size ≤ b) (bx : Boxed w2 b 39 v0) (P : Arr w2 3 1 p n c (flat eI I)) (S : Arr w2 71 2 sp n2 sc (flat eQ st))
    (f2 : ∀ k, blkOf p = some k → k ≠ b) (f3 : ∀ k, blkOf sp = some k → k ≠ b) (v : Value) :
    W.heap.size ≤ b ∧ Boxed (w2.setCell ⟨b, 0, none⟩ v) b 39 v ∧ Rd eI (w2.setCell ⟨b, 0, none⟩ v) p I ∧ Rd eQ (w2.setCell ⟨b, 0, none⟩ v) sp st ∧ Ext (fun _ => False) W (w2.setCell ⟨b, 0, none⟩ v) := by
  have hx : Ext (fun k => k = b) w2 (w2.setCell ⟨b, 0, none⟩ v) := (Ext.refl (fun k => k = b) w2).setCell (p := ⟨b, 0, none⟩) (fun _ => rfl) _
  exact ⟨hb, Boxed.set _ bx, Rd.of_arr (arr_ext P hx f2), Rd.of_arr (arr_ext S hx f3), E.setCell (p := ⟨b, 0, none⟩) (fun hl => by have : b < W.heap.size := hl; omega) _⟩
theorem want_new {W w2 : World} {b n n2 c sc : Nat} {p sp : Option Addr} {I : List Int} {st : List (Nat × Nat)} (E : Ext (fun _ => False) W w2) (hb : w2.heap.size = b) (P : Arr w2 3 1 p n c (flat eI I)) (S : Arr w2 71 2 sp n2 sc (flat eQ st)) (v : Value) :
    W.heap.size ≤ b ∧ Boxed (w2.alloc (.cells #[v] 39)) b 39 v ∧ Rd eI (w2.alloc (.cells #[v] 39)) p I ∧ Rd eQ (w2.alloc (.cells #[v] 39)) sp st ∧ Ext (fun _ => False) W (w2.alloc (.cells #[v] 39)) := by
  subst hb
  exact ⟨E.size, Boxed.new w2 _ _, (Rd.of_arr P).on ((Ext.refl _ _).alloc _), (Rd.of_arr S).on ((Ext.refl _ _).alloc _), E.alloc _⟩
/-- The law leaves, over two marks. -/
theorem leaves_two {w W : World} {L : Pl} {d : Dat} {m b3 b5 b6 : Nat} {q : Int} {F : Fence} {n : Nat} {P : Program} {fn : Func} {tmps : Array Value} {D1 D0 : Nat} {v : Bool} (h : MG w W L d m b3 b5 b6 q v)
    (hr : ∀ {V : World}, V.cell? ⟨b6, 0, none⟩ = some (.bool true) → (results fn tmps).run P V = .ok (.bool true) V) (h1 : W.heap[D1]? = some (.deferred (some []))) (h0 : W.heap[D0]? = some (.deferred (some []))) (hn : D0 < D1) (hl : w.heap.size ≤ D0) :
    LeavesInM F n P fn tmps (fun e w' => e = .returned (.bool true) ∧ Ext (fun _ => False) w w') [{ target := .collected D1, args := #[] }, { target := .collected D0, args := #[] }] .returning (W.setCell ⟨b6, 0, none⟩ (.bool true)) := by
  have hx : Ext (fun k => k = b6) W (W.setCell ⟨b6, 0, none⟩ (.bool true)) := (Ext.refl (fun k => k = b6) W).setCell (p := ⟨b6, 0, none⟩) (fun _ => rfl) _
  have b1 : b6 ≠ D1 := fun e => by have := h.x6; unfold Boxed at this; rw [e, h1] at this; cases this
  have b0 : b6 ≠ D0 := fun e => by have := h.x6; unfold Boxed at this; rw [e, h0] at this; cases this
  have h2 := h.set6 true
  refine leaves_markS (hx.obj h1 (fun e => b1 e.symm)) (fun w1 hx1 => leaves_mark1 (hx1.obj (hx.obj h0 (fun e => b0 e.symm)) (by omega)) (fun w2 hx2 => ?_))
  have c6 : Boxed w2 b6 4 (.bool true) := hx2.obj (hx1.obj h2.x6 b1) b0
  exact ⟨.bool true, hr c6.cell, rfl, (h2.ext.trans hx1 (fun i hi e => by omega)).trans hx2 (fun i hi e => by omega)⟩
theorem leaves_left {w Wd W : World} {b b6 : Nat} {O : Nat → Prop} {F : Fence} {n : Nat} {P : Program} {fn : Func} {tmps : Array Value} {D1 D0 : Nat} (E : Ext (fun _ => False) w Wd) (h : Left Wd b b6 O W)
    (hr : ∀ {V : World}, V.cell? ⟨b6, 0, none⟩ = some (.bool true) → (results fn tmps).run P V = .ok (.bool true) V) (h1 : W.heap[D1]? = some (.deferred (some []))) (h0 : W.heap[D0]? = some (.deferred (some []))) (hn : D0 < D1) (hl : w.heap.size ≤ D0) (hb : w.heap.size ≤ b) (hb6 : w.heap.size ≤ b6) :
    LeavesInM F n P fn tmps (fun e w' => e = .returned (.bool true) ∧ Ext (fun _ => False) w w') [{ target := .collected D1, args := #[] }, { target := .collected D0, args := #[] }] .returning W := by
  have b1 : b6 ≠ D1 := fun e => by have := h.bx; unfold Boxed at this; rw [e, h1] at this; cases this
  have b0 : b6 ≠ D0 := fun e => by have := h.bx; unfold Boxed at this; rw [e, h0] at this; cases this
  refine leaves_markS h1 (fun w1 hx1 => leaves_mark1 (hx1.obj h0 (by omega)) (fun w2 hx2 => ?_))
  have c6 : Boxed w2 b6 4 (.bool true) := hx2.obj (hx1.obj h.bx b1) b0
  exact ⟨.bool true, hr c6.cell, rfl, ((E.trans h.ext (fun i hi e => by omega)).trans hx1 (fun i hi e => by omega)).trans hx2 (fun i hi e => by omega)⟩
/-- What is wanted, in memory. -/
structure WB (W : World) (d : Dat) (t : ByteArray) (b : Nat) (sp : Option Addr) (sc : Nat) (p : Option Addr) : Prop where
  bx : Boxed W b 39 (.slice sp (stepsT d t).length sc)
  rp : Rd eI W p (joinT d.ms (bytesL t)).1
  rs : Rd eQ W sp (stepsT d t)
theorem WB.on {W W' : World} {d : Dat} {t : ByteArray} {b : Nat} {sp : Option Addr} {sc : Nat} {p : Option Addr} (h : WB W d t b sp sc p) (hx : Ext (fun _ => False) W W') : WB W' d t b sp sc p :=
  ⟨hx.obj h.bx (fun h => h), h.rp.on hx, h.rs.on hx⟩
structure WS (W : World) (d : Dat) (t : ByteArray) (b : Nat) (sp : Option Addr) (sc : Nat) : Prop where
  bx : Boxed W b 39 (.slice sp (stepsT d t).length sc)
  rs : Rd eQ W sp (stepsT d t)
theorem WB.far' {W W' : World} {d : Dat} {t : ByteArray} {b k u : Nat} {sp : Option Addr} {sc : Nat} {p : Option Addr} {v : Value} (h : WB W d t b sp sc p) (bx : Boxed W k u v) (hx : Ext (fun j => j = k) W W') (hn : b ≠ k) : WS W' d t b sp sc :=
  ⟨hx.obj h.bx hn, h.rs.box1 bx hx (.inl (by decide)) (by decide)⟩
theorem WS.far {W W' : World} {d : Dat} {t : ByteArray} {b k u : Nat} {sp : Option Addr} {sc : Nat} {v : Value} (h : WS W d t b sp sc) (bx : Boxed W k u v) (hx : Ext (fun j => j = k) W W') (hn : b ≠ k) : WS W' d t b sp sc :=
  ⟨hx.obj h.bx hn, h.rs.box1 bx hx (.inl (by decide)) (by decide)⟩
theorem WS.on {W W' : World} {d : Dat} {t : ByteArray} {b : Nat} {sp : Option Addr} {sc : Nat} (h : WS W d t b sp sc) (hx : Ext (fun _ => False) W W') : WS W' d t b sp sc :=
  ⟨hx.obj h.bx (fun h => h), h.rs.on hx⟩
theorem steps_le (d : Dat) (t : ByteArray) : (stepsT d t).length ≤ t.size := by
  have := join_len d.ms (bytesL t)
  rw [bytesL_length] at this
  unfold stepsT
  omega

attribute [local go_sem] Oper.semAt_some
set_option maxRecDepth 100000 in
set_option maxHeartbeats 8000000 in
theorem bpemerges_any (w : World) (L : Pl) (d : Dat) (h : DR w L d) (s : ByteArray) (hs0 : s.size ≤ 140737488351232) (stop : Int) (hat : (Lit.int .i64 stop).wf = true) :
    Calls Try.prog 8 #[.agg #[.slice L.p0 d.ws.length L.c0, .slice L.p1 d.ms.length L.c1, .slice L.p2 d.ls.length L.c2, .slice L.p3 d.ns.length L.c3, .slice L.p4 d.ss.length L.c4], .string s, .int .i64 stop] w fun e w' => e = .returned (.bool true) ∧ Ext (fun _ => False) w w' := by
  obtain ⟨V0, hV0⟩ : ∃ V0, ((w.alloc (.cells (dataCells L d) 26)).alloc (.cells #[.int .i64 stop] 3)).alloc (.cells #[.bool false] 4) = V0 := ⟨_, rfl⟩
  have x0 : Ext (fun _ => False) w V0 := by rw [← hV0]; exact (((Ext.refl _ w).alloc _).alloc _).alloc _
  have H0 := Lib.hid (show V0.heap[w.heap.size]? = some (.cells (dataCells L d) 26 (0, 0)) ∧ Boxed V0 (w.heap.size + 1) 3 (.int .i64 stop) ∧ Boxed V0 (w.heap.size + 1 + 1) 4 (.bool false) from by
    rw [← hV0]
    exact ⟨blk_alloc (blk_alloc (alloc_at _ _ _ rfl) _) _, blk_alloc (alloc_at _ _ _ (by simp)) _, alloc_at _ _ _ (by simp)⟩)
  have X0 := Lib.hid x0
  have C := Lib.hid (of5_any V0 L d (h.on x0))
  have R := Lib.hid h
  have AT := Lib.hid (Wi.inI_wf hat)
  obtain ⟨b3, hb3⟩ : ∃ b3, w.heap.size = b3 := ⟨_, rfl⟩
  rw [hb3] at H0
  have LB := Lib.hid hb3
  obtain ⟨c30, c31, c32, c33, c34⟩ := data_cells H0.out.1
  clear h hat x0
  refine (callsIn_wide (n := 9)).1 (callsIn_of_wp_marks Try.func8 rfl trivial (wpIn_wide.2 ?_))
  simp only [Try.ntmps8, List.size_toArray, List.length_cons, List.length_nil, Nat.reduceAdd, Nat.reduceSub, Array.replicate_succ, Array.replicate_zero, List.push_toArray, List.append_toArray, List.nil_append, List.cons_append]
  unfold dataCells at hV0
  go_wp2_with fail
  clear hb3 c30 c31 c32 c33 c34 hV0
  refine C.out.mono ?_
  rintro e W ⟨hx, h⟩
  have X := Lib.hid (X0.out.trans hx (fun _ _ h => h))
  rcases h with ⟨hg, rfl⟩ | ⟨hg, a, rfl, hm, hwa⟩
  · have K := Lib.hid (known10_any W)
    have B6 : Boxed W (b3 + 1 + 1) 4 (.bool false) := hx.obj H0.out.2.2 (fun h => h)
    have HB := Lib.hid B6
    clear hg hx C B6 H0
    go_wp2_with fail
    refine K.out.mono ?_
    rintro e W2 ⟨rfl, hx2⟩
    have X2 := Lib.hid (X.out.trans hx2 (fun _ _ h => h))
    have B6 : Boxed W2 (b3 + 1 + 1) 4 (.bool false) := hx2.obj HB.out (fun h => h)
    have t0 := B6.cell
    have tf := B6.frozen
    have tl := B6.lt
    have z := Lib.hid (Boxed.set (.bool true) B6)
    clear hx2 B6
    go_wp2_with fail
    have c6 := z.out.cell
    exact ⟨.bool true, by simp [results, Try.f8, go_sem, c6], rfl, X2.out.setCell (p := ⟨b3 + 1 + 1, 0, none⟩) (fun hl => by have : b3 + 1 + 1 < w.heap.size := hl; have := LB.out; omega) _⟩
  · have D := Lib.hid (RightD.of_good hg)
    have G := Lib.hid (show MG w W L d a b3 (b3 + 1) (b3 + 1 + 1) stop false from ⟨X.out, hm, hx.obj H0.out.1 (fun h => h), hx.obj H0.out.2.1 (fun h => h), hx.obj H0.out.2.2 (fun h => h), by have := LB.out; omega, rfl, rfl⟩)
    clear hg hm hx C H0 X X0 hwa
    go_wp2_with fail
    refine (few_any W s 120 (by decide)).mono ?_
    rintro e W' ⟨rfl, rfl⟩
    have MF0 := fun (W' : World) (e : Ext (fun _ => False) W W') => merge_few ((G.out.on e).mo) D.out s 120 (by decide)
    have FZ0 := fewB_size s 120
    obtain ⟨t, ht⟩ : ∃ t, fewB s 120 = t := ⟨_, rfl⟩
    rw [ht] at FZ0 ⊢
    simp only [ht] at MF0
    have MF := Lib.hid MF0
    have FZ := Lib.hid FZ0
    clear ht hs0 FZ0 MF0
    have G3 := Lib.hid (fun W' (e : Ext (fun _ => False) W W') => data_cells (e.obj G.out.h3 (fun h => h)))
    obtain ⟨c30, c31, c32, c33, c34⟩ := data_cells G.out.h3
    have l3 := blk_lt G.out.h3
    have FB := Lib.hid (show t.size ≤ 1048576 from by have := FZ.out; omega)
    go_upto_region 5 with fail
    apply wp_cut7 (M := fun p c sp sc b p1 c1 wc => W.heap.size ≤ b ∧ Boxed wc b 39 (.slice sp (stepsT d t).length sc) ∧ Rd eI wc p (joinT d.ms (bytesL t)).1 ∧ Rd eQ wc sp (stepsT d t) ∧ Ext (fun _ => False) W wc)
    case h1 =>
      go_region_with (first
        | (go_at_call 28; (with_reducible refine (ref10bytes_any _ t FB.out).mono ?_); rintro e w1 ⟨p1, c1, rfl, hA1, hx1, hf1⟩; have A1 := Lib.hid (ints_rd hA1); have X1 := Lib.hid hx1; clear hA1 hx1 hf1; have E1 : Ext (fun _ => False) W w1 := (by repeat (first | exact Ext.refl _ _ | refine Ext.drew ?_ | refine Ext.alloc ?_ _ | refine Ext.trans ?_ X1.out (fun _ _ h => h))); obtain ⟨d30, d31, d32, d33, d34⟩ := G3.out w1 E1; have l31 : b3 < w1.heap.size := Nat.lt_of_lt_of_le l3 E1.size; clear E1)
        | (go_at_call 16; (with_reducible refine (refj_any _ L d p1 c1 t (R.out.on (G.out.ext.trans ?_ (fun _ _ h => h))) D.out ?_ FB.out).mono ?_); (repeat (first | exact Ext.refl _ _ | refine Ext.drew ?_ | refine Ext.alloc ?_ _ | refine Ext.trans ?_ X1.out (fun _ _ h => h))); (first | exact A1.out | exact A1.out.on ((Ext.refl _ _).alloc _)); rintro e w2 ⟨p2, c2, sp, sc, rfl, hP, hS, hx2, hf2, hf3⟩; have P2 := Lib.hid hP; have S2 := Lib.hid hS; have X2 := Lib.hid hx2; have F2 := Lib.hid hf2; have F3 := Lib.hid hf3; clear hP hS hx2 hf2 hf3; (first | (have BX : Boxed w2 W.heap.size 39 (.slice none 0 0) := X2.out.obj (X1.out.obj (heap_alloc_new W.drew (.cells #[.slice none 0 0] 39)) (fun h => h)) (fun h => h); have t0 := BX.cell; have tf := BX.frozen; have tl := BX.lt; have HB := Lib.hid BX; clear BX) | (have BX : Boxed w2 w1.heap.size 39 (.slice none 0 0) := X2.out.obj (heap_alloc_new w1 (.cells #[.slice none 0 0] 39)) (fun h => h); have t0 := BX.cell; have tf := BX.frozen; have tl := BX.lt; have HB := Lib.hid BX; clear BX) | skip)))
      all_goals dsimp only [Exit.then]
      all_goals have E2 : Ext (fun _ => False) W w2 := by repeat (first | exact Ext.refl _ _ | refine Ext.drew ?_ | refine Ext.alloc ?_ _ | refine Ext.trans ?_ X2.out (fun _ _ h => h) | refine Ext.trans ?_ X1.out (fun _ _ h => h))
      all_goals first
        | (obtain ⟨b, hb⟩ : ∃ b, W.heap.size = b := ⟨_, rfl⟩; rw [hb] at HB ⊢; refine ⟨p2, c2, sp, sc, b, p1, c1, rfl, ?_⟩; rw [← hb] at HB ⊢; exact want_old E2 (Nat.le_refl _) HB.out P2.out S2.out (fun k hk e => by subst e; have h1 := F2.out _ hk; have h2 := X1.out.size; simp at h1 h2; omega) (fun k hk e => by subst e; have h1 := F3.out _ hk; have h2 := X1.out.size; simp at h1 h2; omega) _)
        | (obtain ⟨b, hb⟩ : ∃ b, w1.heap.size = b := ⟨_, rfl⟩; rw [hb] at HB ⊢; refine ⟨p2, c2, sp, sc, b, p1, c1, rfl, ?_⟩; rw [← hb] at HB ⊢; exact want_old E2 (by have h2 := X1.out.size; simp at h2; omega) HB.out P2.out S2.out (fun k hk e => by subst e; have h1 := F2.out _ hk; simp at h1; omega) (fun k hk e => by subst e; have h1 := F3.out _ hk; simp at h1; omega) _)
        | (obtain ⟨b, hb⟩ : ∃ b, w2.heap.size = b := ⟨_, rfl⟩; rw [hb]; refine ⟨p2, c2, sp, sc, b, p1, c1, rfl, ?_⟩; exact want_new E2 hb P2.out S2.out _)
    case h2 =>
      rintro p2 c2 sp sc b11 p1 c1 wc ⟨h11, bx, rP, rS, e⟩
      have WT := Lib.hid (show WB wc d t b11 sp sc p2 from ⟨bx, rP, rS⟩)
      have G1 := Lib.hid (G.out.on e)
      have LO := Lib.hid (show W.heap.size ≤ b11 ∧ b3 + 1 + 1 < W.heap.size from ⟨h11, G.out.x6.lt⟩)
      have FM := Lib.hid (MF.out wc e)
      clear c30 c31 c32 c33 c34 l3 G3 bx rP rS e h11 MF G
      go_wp2_with fail
      refine FM.out.mono ?_
      rintro e W1 ⟨p, c, rfl, hA, hx1, _⟩
      have Q := Lib.hid (ints_rd hA)
      have G := Lib.hid (G1.out.on hx1)
      have WB1 := Lib.hid (WT.out.on hx1)
      clear hA hx1 FM G1 WT
      go_wp2_with fail
      refine (stepsB_any W1 a t).mono ?_
      rintro e W2 ⟨mb, sb, rfl, bm, bs, lm, ls, hx⟩
      have hq := steps_nil mb sb
      have BM := Lib.hid bm
      have BS := Lib.hid bs
      have G1 := Lib.hid (G.out.on hx)
      have WB2 := Lib.hid (WB1.out.on hx)
      have Q2 := Lib.hid (Q.out.on hx)
      have LM := Lib.hid (show b3 + 1 + 1 < mb ∧ b3 + 1 + 1 < sb from by have := G.out.x6.lt; omega)
      have SI := Lib.hid (sameI_any W2 p p2 c c2 (joinT d.ms (bytesL t)).1 (joinT d.ms (bytesL t)).1 Q2.out WB2.out.rp (by have := join_le d.ms (bytesL t); rw [bytesL_length] at this; have := FB.out; omega))
      rw [decide_eq_true rfl] at SI
      clear bm bs lm ls hx G WB1 Q Q2
      go_wp2_with fail
      refine SI.out.mono ?_
      rintro e W3 ⟨rfl, hx⟩
      have G := Lib.hid (G1.out.on hx)
      have WB3 := Lib.hid (WB2.out.on hx)
      have bm3 := Lib.hid (hx.obj BM.out (fun h => h))
      have bs3 := Lib.hid (hx.obj BS.out (fun h => h))
      have t0 := G.out.x5.cell
      have tf := G.out.x5.frozen
      have tl := G.out.x5.lt
      clear hx SI G1 WB2 BM BS
      go_wp2_with fail
      refine (Wi.within0_any W3 stop 9 AT.out (by omega) (by omega)).mono ?_
      rintro e W' ⟨r, rfl, hr0, hr1, rfl⟩
      obtain ⟨q, rfl⟩ : ∃ q : Nat, r = q := ⟨r.toNat, by omega⟩
      have QL := Lib.hid (And.intro hr0 hr1)
      obtain ⟨wm, hwm⟩ : ∃ wm, W3.setCell ⟨b3 + 1, 0, none⟩ (.int .i64 (q : Int)) = wm := ⟨_, rfl⟩
      obtain ⟨b15, hb15⟩ : ∃ b15, wm.heap.size = b15 := ⟨_, rfl⟩
      have hx5 : Ext (fun k => k = b3 + 1) W3 wm := by rw [← hwm]; exact (Ext.refl (fun k => k = b3 + 1) W3).setCell (p := ⟨b3 + 1, 0, none⟩) (fun _ => rfl) _
      have GM := Lib.hid (show MG w wm L d a b3 (b3 + 1) (b3 + 1 + 1) q false from by rw [← hwm]; exact G.out.set5 q)
      have WBM := Lib.hid (WB3.out.far' G.out.x5 hx5 (by have := LO.out; omega))
      have BM := Lib.hid (hx5.obj bm3.out (by have := LM.out; omega))
      have BS := Lib.hid (hx5.obj bs3.out (by have := LM.out; omega))
      have B15 : Boxed (wm.alloc (.cells #[.int .i64 0] 3)) b15 3 (.int .i64 0) := by rw [← hb15]; exact Boxed.new wm _ _
      have HB15 := Lib.hid B15
      have SZ := Lib.hid hb15
      have SL := Lib.hid (show (stepsT d t).length ≤ 1048576 from by have := steps_le d t; have := FB.out; omega)
      clear hr0 hr1 hx5 B15 G WB3 bm3 bs3
      go_wp2_with fail
      clear hwm hb15
      obtain ⟨Wa, hWa⟩ : ∃ Wa, wm.alloc (.cells #[.int .i64 0] 3) = Wa := ⟨_, rfl⟩
      rw [hWa]
      rw [hWa] at HB15
      have XA := Lib.hid (show Ext (fun _ => False) wm Wa from by rw [← hWa]; exact (Ext.refl _ _).alloc _)
      have GA := Lib.hid (GM.out.on XA.out)
      have WSA := Lib.hid (WBM.out.on XA.out)
      have a15 := Boxed.cell HB15.out
      have f15 := Boxed.frozen HB15.out
      have z15 := Boxed.lt HB15.out
      obtain ⟨b160, hb16⟩ : ∃ b160, Wa.heap.size = b160 := ⟨_, rfl⟩
      clear hWa
      refine wp_loop_rounds 3 ?_
      rw [rounds_succ]
      go_wp2_with fail
      obtain ⟨Wb, hWr⟩ : ∃ Wb, Wa.alloc (.cells #[.int .i64 0] 3) = Wb := ⟨_, rfl⟩
      rw [hWr]
      have xr : Ext (fun _ => False) Wa Wb := by rw [← hWr]; exact (Ext.refl _ _).alloc _
      have R0 := Lib.hid (show Boxed Wb b160 3 (.int .i64 0) ∧ WS Wb d t b11 sp sc ∧ Boxed Wb b15 3 (.int .i64 0) ∧ MG w Wb L d a b3 (b3 + 1) (b3 + 1 + 1) q false from
        ⟨by rw [← hWr, ← hb16]; exact Boxed.new Wa _ _, WSA.out.on xr, xr.obj HB15.out (fun h => h), GA.out.on xr⟩)
      have XR0 := Lib.hid (XA.out.trans xr (fun _ _ h => h))
      have N0 := Lib.hid (show b160 ≠ b11 ∧ b160 ≠ b15 ∧ b160 ≠ b3 + 1 ∧ b160 ≠ b3 + 1 + 1 ∧ wm.heap.size ≤ b160 from by
        have h1 := WSA.out.bx.lt
        have h2 := Boxed.lt HB15.out
        have h3 := GA.out.x5.lt
        have h4 := GA.out.x6.lt
        have h5 := XA.out.size
        omega)
      have SM0 := Lib.hid (steps_mut (V := fun k => k = b160) 8 (by omega) GM.out.mo D.out (by have := FB.out; omega) XR0.out (fun k hk => by rw [hk]; exact N0.out.2.2.2.2) (XR0.out.obj BM.out (fun h => h)) (XR0.out.obj BS.out (fun h => h)))
      clear hWr hb16 xr
      clear a15 f15 z15
      refine (wpIn_wide (n := 9)).1 ?_
      refine wpIn_range_mut (n := 9) rfl (by omega) (gf := 40) (lb := #[.pointer (some ⟨mb, 0, none⟩), .pointer (some ⟨sb, 0, none⟩)]) ?hg0 trivial (enters_of Try.func40 (by kernel_rfl) rfl) SM0.out (fun _ => rfl)
        (RI Wb b160) (fun c pre O W => False) (ri_abide _ _) (ri_turn _ _) (fun _ _ _ _ _ _ h _ _ _ => h) (fun _ _ _ _ _ _ _ h _ _ _ _ => h) (ri_start R0.out.1) (a₁ := ?a10) (Pa := fun x k W => W.heap[k]? = some (.cells #[.int .i64 (x.1 : Int), .int .i64 (x.2 : Int)] 68 (0, 0)))
        (fun x k W l o o' h ho hc => (World.putObj_heap_other (fun e => by subst e; rw [h] at ho; cases ho; cases hc)).trans h) ?assign0 ?body0 ?done0 ?stop0
      case hg0 => kernel_rfl
      case assign0 =>
        intro l x W k K hk hK
        refine startL_ rfl (fun ⟨_, _, h⟩ => h) ?_
        go_wp2_with fail
        exact hK _ ((Ext.refl _ _).alloc _) (alloc_at _ _ _ hk.symm)
      case body0 =>
        rintro l pre x O W k ri hnx hOW hk
        obtain ⟨hlt, hget⟩ := pre_get hnx
        have S9 := Lib.hid (R0.out.2.1.far R0.out.1 ri.ext (by have := N0.out; omega))
        obtain ⟨eb, eo, hsp, heb, e0, e1⟩ := S9.out.rs.cellQ hget
        have RI0 := Lib.hid ri
        have t0 := ri.bx.cell
        have tf := ri.bx.frozen
        have tl := ri.bx.lt
        have u0 := S9.out.bx.cell
        rw [hsp] at u0
        have ul := S9.out.bx.lt
        have k0 := blk_cell hk 0
        have k1 := blk_cell hk 1
        simp at k0 k1
        have lk := blk_lt hk
        have PL := Lib.hid (And.intro hlt SL.out)
        obtain ⟨n, hn⟩ : ∃ n, (stepsT d t).length = n := ⟨_, rfl⟩
        rw [hn] at u0 hlt
        have i2 : decide ((pre.length : Int) ≥ (n : Int)) = false := decide_eq_false (by omega)
        have i3 : (pre.length : Int) < (n : Int) := by omega
        have i4 : decide (n ≤ pre.length) = false := decide_eq_false (by omega)
        have i5 : decide ((n : Int) ≤ (pre.length : Int)) = false := decide_eq_false (by omega)
        have T15 := Lib.hid (ri.ext.obj R0.out.2.2.1 (fun e => by have := N0.out; omega))
        have T5 := Lib.hid (ri.ext.obj R0.out.2.2.2.x5 (fun e => by have := N0.out; omega))
        have T6 := Lib.hid (ri.ext.obj R0.out.2.2.2.x6 (fun e => by have := N0.out; omega))
        have v15 : W.cell? ⟨b15, 0, none⟩ = some (.int .i64 0) := Boxed.cell T15.out
        have v5 : W.cell? ⟨b3 + 1, 0, none⟩ = some (.int .i64 (q : Int)) := Boxed.cell T5.out
        have l15 := Boxed.lt T15.out
        have l5 := Boxed.lt T5.out
        have HN := Lib.hid (And.intro hnx hOW)
        have hw : IntKind.i64.wrap ((pre.length : Int) + 1) = (pre.length : Int) + 1 := IntWalk.i64_in _ (by have := PL.out; omega)
        clear ri hnx hOW hk hget hn hlt hsp
        gi_upto_region 17 with (fail)
        refine quietR_ (by kernel_rfl) (by kernel_rfl) rfl (fun ⟨_, _, h⟩ => h) ?_
        repeat (go_big_quiet_step (fail))
        refine wpQuiet_nil ?_
        intro _ hw'
        obtain ⟨nq, hw''⟩ := hw'
        subst hw''
        dsimp only [Exit.then]
        gi_wp2_with fail
        exact ri_push RI0.out x nq
      case done0 =>
        rintro D0 xs O W hD hxs ri nO hdf
        subst hxs
        have XW := Lib.hid (show Ext (fun _ => False) wm W from XR0.out.trans ri.ext (fun i hi h => by have := N0.out; omega))
        have G1 := Lib.hid (GM.out.on XW.out)
        have WS1 := Lib.hid (WBM.out.on XW.out)
        have B1 := Lib.hid (ri.ext.obj R0.out.2.2.1 (fun e => by have := N0.out; omega))
        have HD := Lib.hid (And.intro hdf (show wm.heap.size ≤ D0 from by have := XR0.out.size; omega))
        have v0 := ri.bx.cell
        have v1 := WS1.out.bx.cell
        have v2 : W.cell? ⟨b15, 0, none⟩ = some (.int .i64 0) := Boxed.cell B1.out
        have l0 := ri.bx.lt
        have l1 := WS1.out.bx.lt
        have l2 := Boxed.lt B1.out
        clear hdf ri hD nO R0 N0 SM0 XR0
        dsimp only [Exit.inBlock, Exit.then]
        obtain ⟨b151, hb151⟩ : ∃ b151, W.heap.size = b151 := ⟨_, rfl⟩
        go_wp2_with fail
        obtain ⟨Wc, hWc⟩ : ∃ Wc, W.alloc (.cells #[.int .i64 1] 3) = Wc := ⟨_, rfl⟩
        rw [hWc]
        have xc : Ext (fun _ => False) W Wc := by rw [← hWc]; exact (Ext.refl _ _).alloc _
        have XC := Lib.hid (XW.out.trans xc (fun _ _ h => h))
        have HB1 := Lib.hid (show Boxed Wc b151 3 (.int .i64 1) from by rw [← hWc, ← hb151]; exact Boxed.new W _ _)
        have GC := Lib.hid (G1.out.on xc)
        have WSC := Lib.hid (WS1.out.on xc)
        have HDC := Lib.hid (And.intro (xc.obj HD.out.1 (fun h => h)) HD.out.2)
        have a15 := Boxed.cell HB1.out
        have f15 := Boxed.frozen HB1.out
        have z15 := Boxed.lt HB1.out
        obtain ⟨b161, hb16⟩ : ∃ b161, Wc.heap.size = b161 := ⟨_, rfl⟩
        clear hWc hb151 xc v0 v1 v2 l0 l1 l2 B1 G1 WS1 XW
        rw [rounds_succ]
        go_wp2_with fail
        obtain ⟨Wd, hWr⟩ : ∃ Wd, Wc.alloc (.cells #[.int .i64 0] 3) = Wd := ⟨_, rfl⟩
        rw [hWr]
        have xr : Ext (fun _ => False) Wc Wd := by rw [← hWr]; exact (Ext.refl _ _).alloc _
        have R1 := Lib.hid (show Boxed Wd b161 3 (.int .i64 0) ∧ WS Wd d t b11 sp sc ∧ Boxed Wd b151 3 (.int .i64 1) ∧ MG w Wd L d a b3 (b3 + 1) (b3 + 1 + 1) q false from
          ⟨by rw [← hWr, ← hb16]; exact Boxed.new Wc _ _, WSC.out.on xr, xr.obj HB1.out (fun h => h), GC.out.on xr⟩)
        have XR1 := Lib.hid (XC.out.trans xr (fun _ _ h => h))
        have N1 := Lib.hid (show b161 ≠ b11 ∧ b161 ≠ b151 ∧ b161 ≠ b3 + 1 ∧ b161 ≠ b3 + 1 + 1 ∧ wm.heap.size ≤ b161 from by
          have h1 := WSC.out.bx.lt
          have h2 := Boxed.lt HB1.out
          have h3 := GC.out.x5.lt
          have h4 := GC.out.x6.lt
          have h5 := XC.out.size
          omega)
        have SM1 := Lib.hid (steps_mut (V := fun k => k = b161) 8 (by omega) GM.out.mo D.out (by have := FB.out; omega) XR1.out (fun k hk => by rw [hk]; exact N1.out.2.2.2.2) (XR1.out.obj BM.out (fun h => h)) (XR1.out.obj BS.out (fun h => h)))
        have HDD := Lib.hid (And.intro (xr.obj HDC.out.1 (fun h => h)) HDC.out.2)
        clear hWr hb16 xr a15 f15 z15
        refine (wpIn_wide (n := 9)).1 ?_
        refine wpIn_range_mut (n := 9) rfl (by omega) (gf := 40) (lb := #[.pointer (some ⟨mb, 0, none⟩), .pointer (some ⟨sb, 0, none⟩)]) ?hg1 trivial (enters_of Try.func40 (by kernel_rfl) rfl) SM1.out (fun _ => rfl)
          (RI Wd b161) (fun c pre O W => c = Code.ret ∧ Left Wd b161 (b3 + 1 + 1) O W) (ri_abide _ _) (ri_turn _ _) (fun c s O O' A B h h1 h2 hx => ⟨h.1, h.2.abide h1 h2 hx⟩) (fun c s O A l o o' h hl nO ho hc => ⟨h.1, h.2.turn hl ho hc⟩) (ri_start R1.out.1) (a₁ := ?a11) (Pa := fun x k W => W.heap[k]? = some (.cells #[.int .i64 (x.1 : Int), .int .i64 (x.2 : Int)] 68 (0, 0)))
          (fun x k W l o o' h ho hc => (World.putObj_heap_other (fun e => by subst e; rw [h] at ho; cases ho; cases hc)).trans h) ?assign1 ?body1 ?done1 ?stop1
        case hg1 => kernel_rfl
        case assign1 =>
          intro l x W k K hk hK
          refine startL_ rfl (fun ⟨_, _, h⟩ => h) ?_
          go_wp2_with fail
          exact hK _ ((Ext.refl _ _).alloc _) (alloc_at _ _ _ hk.symm)
        case body1 =>
          rintro l pre x O W k ri hnx hOW hk
          obtain ⟨hlt, hget⟩ := pre_get hnx
          have S9 := Lib.hid (R1.out.2.1.far R1.out.1 ri.ext (by have := N1.out; omega))
          obtain ⟨eb, eo, hsp, heb, e0, e1⟩ := S9.out.rs.cellQ hget
          have RI0 := Lib.hid ri
          have t0 := ri.bx.cell
          have tf := ri.bx.frozen
          have tl := ri.bx.lt
          have u0 := S9.out.bx.cell
          rw [hsp] at u0
          have ul := S9.out.bx.lt
          have k0 := blk_cell hk 0
          have k1 := blk_cell hk 1
          simp at k0 k1
          have lk := blk_lt hk
          have PL := Lib.hid (And.intro hlt SL.out)
          obtain ⟨n, hn⟩ : ∃ n, (stepsT d t).length = n := ⟨_, rfl⟩
          rw [hn] at u0 hlt
          have i2 : decide ((pre.length : Int) ≥ (n : Int)) = false := decide_eq_false (by omega)
          have i3 : (pre.length : Int) < (n : Int) := by omega
          have i4 : decide (n ≤ pre.length) = false := decide_eq_false (by omega)
          have i5 : decide ((n : Int) ≤ (pre.length : Int)) = false := decide_eq_false (by omega)
          have T15 := Lib.hid (ri.ext.obj R1.out.2.2.1 (fun e => by have := N1.out; omega))
          have T5 := Lib.hid (ri.ext.obj R1.out.2.2.2.x5 (fun e => by have := N1.out; omega))
          have T6 := Lib.hid (ri.ext.obj R1.out.2.2.2.x6 (fun e => by have := N1.out; omega))
          have v15 : W.cell? ⟨b151, 0, none⟩ = some (.int .i64 1) := Boxed.cell T15.out
          have v5 : W.cell? ⟨b3 + 1, 0, none⟩ = some (.int .i64 (q : Int)) := Boxed.cell T5.out
          have l15 := Boxed.lt T15.out
          have l5 := Boxed.lt T5.out
          have HN := Lib.hid (And.intro hnx hOW)
          have hw : IntKind.i64.wrap ((pre.length : Int) + 1) = (pre.length : Int) + 1 := IntWalk.i64_in _ (by have := PL.out; omega)
          clear ri hnx hOW hk hget hn hlt hsp
          gi_upto_region 17 with (fail)
          refine quietR_ (by kernel_rfl) (by kernel_rfl) rfl (fun ⟨_, _, h⟩ => h) ?_
          repeat (go_big_quiet_step (fail))
          refine wpQuiet_nil ?_
          intro _ hw'
          obtain ⟨nq, hw''⟩ := hw'
          subst hw''
          dsimp only [Exit.then]
          by_cases hst : pre.length = q
          · have i6 : ((pre.length : Int) == (q : Int)) = true := beq_iff_eq.2 (by omega)
            have v6 : W.cell? ⟨b3 + 1 + 1, 0, none⟩ = some (.bool false) := Boxed.cell T6.out
            clear hst
            gi_upto_region 20 with (fail)
            refine startL_ rfl (fun ⟨_, _, h⟩ => h) ?_
            go_wp2_with fail
            refine (known10_any _).mono ?_
            rintro e W9 ⟨rfl, hx9⟩
            have X9 := Lib.hid hx9
            have T9 : Boxed W9 (b3 + 1 + 1) 4 (.bool false) := hx9.obj (((Ext.refl (fun _ => False) W).drewN nq).obj T6.out (fun h => h)) (fun h => h)
            have c9 := T9.cell
            have f9 := T9.frozen
            have z9 := T9.lt
            have HT9 := Lib.hid T9
            clear hx9 T9 t0 tf tl u0 ul k0 k1 lk v15 v5 v6 l15 l5 e0 e1
            go_wp2_with fail
            try dsimp only [Exit.then, Exit.inBlock]
            gi_wp2_with fail
            have LM9 := left_made RI0.out X9.out HT9.out (by have := R1.out.2.2.2.x6.lt; exact this)
            exact ⟨LM9.1, rfl, LM9.2⟩
          · have i6 : ((pre.length : Int) == (q : Int)) = false := beq_eq_false_iff_ne.2 (by omega)
            clear hst
            gi_wp2_with fail
            exact ri_push RI0.out x nq
        case done1 =>
          rintro D1 xs O W hD hxs ri nO hdf
          subst hxs
          have XW1 := Lib.hid (show Ext (fun _ => False) wm W from XR1.out.trans ri.ext (fun i hi h => by have := N1.out; omega))
          have G2 := Lib.hid (GM.out.on XW1.out)
          have WS2 := Lib.hid (WBM.out.on XW1.out)
          have B1 := Lib.hid (ri.ext.obj R1.out.2.2.1 (fun e => by have := N1.out; omega))
          have HD1 := Lib.hid (show W.heap[D1]? = some (.deferred (some [])) ∧ W.heap[D0]? = some (.deferred (some [])) ∧ D0 < D1 ∧ wm.heap.size ≤ D0 from
            ⟨hdf, ri.ext.obj HDD.out.1 (fun e => by have h2 := HDD.out.1; rw [show D0 = b161 from e] at h2; rw [show Wd.heap[b161]? = _ from R1.out.1] at h2; cases h2), by have := blk_lt HDD.out.1; omega, HDD.out.2⟩)
          have v0 := ri.bx.cell
          have v1 := WS2.out.bx.cell
          have v2 : W.cell? ⟨b151, 0, none⟩ = some (.int .i64 1) := Boxed.cell B1.out
          have l0 := ri.bx.lt
          have l1 := WS2.out.bx.lt
          have l2 := Boxed.lt B1.out
          clear hdf ri hD nO R1 N1 SM1 XR1
          dsimp only [Exit.inBlock, Exit.then]
          go_wp2_with fail
          rw [rounds_succ]
          go_wp2_with fail
          refine (known10_any _).mono ?_
          rintro e W9 ⟨rfl, hx9⟩
          have x9 : Ext (fun _ => False) W W9 := ((Ext.refl _ _).alloc _).trans hx9 (fun _ _ h => h)
          have G9 := Lib.hid (G2.out.on x9)
          have H9 := Lib.hid (And.intro (x9.obj HD1.out.1 (fun h => h)) (And.intro (x9.obj HD1.out.2.1 (fun h => h)) HD1.out.2.2))
          have c9 := G9.out.x6.cell
          have f9 := G9.out.x6.frozen
          have z9 := G9.out.x6.lt
          clear hx9 x9 v0 v1 v2 l0 l1 l2 G2 WS2 B1 HD1
          go_wp2_with fail
          exact leaves_two G9.out (fun h => by simp [results, Try.f8, go_sem, h]) H9.out.1 H9.out.2.1 H9.out.2.2.1 (by have := GM.out.ext.size; have := H9.out.2.2.2; omega)
        case stop1 =>
          rintro D1 c pre O W hD hpre h nO hdf
          obtain ⟨rfl, hl⟩ := h
          have HL := Lib.hid hl
          have H9 := Lib.hid (show W.heap[D1]? = some (.deferred (some [])) ∧ W.heap[D0]? = some (.deferred (some [])) ∧ D0 < D1 from
            ⟨hdf, hl.ext.obj HDD.out.1 (fun e => by
              rcases e with e | e
              · have h2 := HDD.out.1; rw [show D0 = b161 from e] at h2; rw [show Wd.heap[b161]? = _ from R1.out.1] at h2; cases h2
              · have h2 := HDD.out.1; rw [show D0 = b3 + 1 + 1 from e] at h2; rw [show Wd.heap[b3 + 1 + 1]? = _ from R1.out.2.2.2.x6] at h2; cases h2), by have := blk_lt HDD.out.1; omega⟩)
          clear hl hdf hD nO
          refine wpIn_wide.2 ?_
          go_wp2_with fail
          exact leaves_left R1.out.2.2.2.ext HL.out (fun h => by simp [results, Try.f8, go_sem, h]) H9.out.1 H9.out.2.1 H9.out.2.2 (by have := GM.out.ext.size; have := HDD.out.2; omega) (by have := GM.out.ext.size; have := N1.out.2.2.2.2; omega) (by have := GM.out.lo.1; omega)
      case stop0 =>
        rintro D1 c pre O W hD hpre h nO hdf
        exact False.elim h
end Go.Proofs.Ytiminpcpnblppaa.Bpe
