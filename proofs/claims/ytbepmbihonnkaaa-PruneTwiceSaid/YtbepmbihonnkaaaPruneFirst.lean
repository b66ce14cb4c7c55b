/- law24.PruneFirst. -/
import Derived.Test.YtbepmbihonnkaaaPruneFst
import Derived.Test.YtbepmbihonnkaaaSameD
import Derived.Test.YtbepmbihonnkaaaRowKit
namespace Go.Proofs.Ytbepmbihonnkaaa.Sl
open Go.Proofs.Ytbepmbihonnkaaa.Lib
open Go.RowKit
set_option linter.unusedVariables false
set_option linter.unusedSimpArgs false

theorem from_ {F : FuncId} {args : Array Value} {W3 W : World} {P : Ending → Prop} (e : Ext (fun _ => False) W3 W) (h : Calls Try.prog F args W fun e w' => P e ∧ Ext (fun _ => False) W w') : Calls Try.prog F args W fun e w' => P e ∧ Ext (fun _ => False) W3 w' :=
  h.mono fun _ _ h => ⟨h.1, e.trans h.2 (fun _ _ h => h)⟩
theorem data_b {W3 W w0 : World} {a : Nat} {d : Dat} {L0 : Pl} (h : IsModel W a d) (h0 : DR w0 L0 d) (e : Ext (fun _ => False) W3 W) :
    Calls Try.prog 28 #[.pointer (some ⟨a, 0, none⟩)] W fun e w' => ∃ L2 : Pl, e = .returned (.agg #[.slice L2.p0 d.ws.length L2.c0, .slice L2.p1 d.ms.length L2.c1, .slice L2.p2 d.ls.length L2.c2, .slice L2.p3 d.ns.length L2.c3, .slice L2.p4 d.ss.length L2.c4]) ∧ DR w' L2 d ∧ Ext (fun _ => False) W3 w' :=
  (data_any W a d h).mono fun _ _ h => by
    obtain ⟨L2, h1, h2, h3⟩ := h
    exact ⟨L2, h1, h2.reads h0, e.trans h3 (fun _ _ h => h)⟩
set_option maxRecDepth 100000 in
set_option maxHeartbeats 16000000 in
theorem pfirstlaw_any (w : World) (L : Pl) (d : Dat) (h : DR w L d) (k : Int) (hk : (Lit.int .i64 k).wf = true) :
    Calls Try.prog 6 #[.agg #[.slice L.p0 d.ws.length L.c0, .slice L.p1 d.ms.length L.c1, .slice L.p2 d.ls.length L.c2, .slice L.p3 d.ns.length L.c3, .slice L.p4 d.ss.length L.c4], .int .i64 k] w fun e w' => e = .returned (.bool true) ∧ Ext (fun _ => False) w w' := by
  have hb : (w.alloc (.cells (dataCells L d) 26)).heap[w.heap.size]? = _ := heap_alloc_new w _
  have X0 := Lib.hid ((Ext.refl (fun _ => False) w).alloc (.cells (dataCells L d) 26))
  have C := Lib.hid (of5_any _ L d (h.on X0.out))
  have HB := Lib.hid hb
  have R := Lib.hid h
  clear hb h hk
  go_enter Try.func6, Try.ntmps6
  go_wp2_with fail
  refine C.out.mono ?_
  rintro e W ⟨hx, h⟩
  have X := Lib.hid (X0.out.trans hx (fun _ _ h => h))
  have B := Lib.hid (hx.obj HB.out (fun h => h))
  clear hx C
  rcases h with ⟨hg, rfl⟩ | ⟨hg, a, rfl, hm, hwa⟩
  · have K := Lib.hid (known24_any W)
    clear hg
    go_wp2_with fail
    refine K.out.mono ?_
    rintro e W2 ⟨rfl, hx2⟩
    have X2 := Lib.hid (X.out.trans hx2 (fun _ _ h => h))
    clear hx2
    go_wp2_with fail
    go_ret
    exact ⟨rfl, X2.out⟩
  · have D := Lib.hid (RightD.of_good hg)
    have M := Lib.hid hm
    have few := good_few hg
    have PF := Lib.hid (pfirst_any W a d k hm hg)
    clear hg hm
    go_wp2_with fail
    refine PF.out.mono ?_
    rintro e W1 ⟨a1, ib, rfl, hm1, hA1, hx1, _, _⟩
    have X1 := Lib.hid (X.out.trans hx1 (fun _ _ h => h))
    have M1 := Lib.hid (M.out.on hx1)
    have B1 := Lib.hid (hx1.obj B.out (fun h => h))
    have N1 := Lib.hid hm1
    have I1 := Lib.hid (ints_rd hA1)
    clear hm1 hA1 hx1 PF B M X
    have b0 := blk_cell B1.out 0
    have b1 := blk_cell B1.out 1
    have b2 := blk_cell B1.out 2
    have b3 := blk_cell B1.out 3
    have b4 := blk_cell B1.out 4
    simp [dataCells] at b0 b1 b2 b3 b4
    go_wp2_with fail
    refine (first24_any W1 L d k (R.out.on X1.out) D.out).mono ?_
    rintro e W2 ⟨pi, ci, pw, cw, pm, cm, rfl, hA, hDR, hx, _⟩
    have xo : Ext (fun _ => False) W2 (W2.alloc (.cells #[.slice pw (cutD d (kc d k)).ws.length cw, .slice pm (cutD d (kc d k)).ms.length cm, .slice L.p2 d.ls.length L.c2, .slice L.p3 d.ns.length L.c3, .slice L.p4 d.ss.length L.c4] 26)) := (Ext.refl _ _).alloc _
    have X3 := Lib.hid (X1.out.trans (hx.trans xo (fun _ _ h => h)) (fun _ _ h => h))
    have M3 := Lib.hid (M1.out.on (hx.trans xo (fun _ _ h => h)))
    have N3 := Lib.hid (N1.out.on (hx.trans xo (fun _ _ h => h)))
    have B3 := Lib.hid ((hx.trans xo (fun _ _ h => h)).obj B1.out (fun h => h))
    have I3 := Lib.hid (I1.out.on (hx.trans xo (fun _ _ h => h)))
    have J3 := Lib.hid ((ints_rd hA).on xo)
    have E3 := Lib.hid (hDR.on xo)
    have O3 := Lib.hid (heap_alloc_new W2 (.cells #[.slice pw (cutD d (kc d k)).ws.length cw, .slice pm (cutD d (kc d k)).ms.length cm, .slice L.p2 d.ls.length L.c2, .slice L.p3 d.ns.length L.c3, .slice L.p4 d.ss.length L.c4] 26))
    have HI := Lib.hid (show (renGo d (kc d k : Nat) (256 + d.ms.length)).1.length = 256 + d.ms.length from (renGo_len d _ _).1)
    obtain ⟨ob, hob⟩ : ∃ ob, W2.heap.size = ob := ⟨_, rfl⟩
    rw [hob] at O3
    clear hA hDR hx xo b0 b1 b2 b3 b4 M1 N1 B1 I1
    go_wp2_with fail
    try rw [hob]
    generalize W2.alloc (.cells #[.slice pw (cutD d (kc d k)).ws.length cw, .slice pm (cutD d (kc d k)).ms.length cm, .slice L.p2 d.ls.length L.c2, .slice L.p3 d.ns.length L.c3, .slice L.p4 d.ss.length L.c4] 26) = W3 at X3 M3 N3 B3 I3 J3 E3 O3 ⊢
    clear hob
    obtain ⟨q, hq⟩ : ∃ q, cutD d (kc d k) = q := ⟨_, rfl⟩
    have hq2 : q.ls = d.ls ∧ q.ns = d.ns ∧ q.ss = d.ss := by rw [← hq]; exact ⟨rfl, rfl, rfl⟩
    rw [hq] at N3 E3 O3 ⊢
    rw [← hq2.1, ← hq2.2.1, ← hq2.2.2] at O3
    clear hq hq2
    have CE := Lib.hid (show ∀ w', Ext (fun _ => False) W3 w' → (w'.cell? ⟨w.heap.size, 0, none⟩ = some (.slice L.p0 d.ws.length L.c0) ∧ w'.cell? ⟨w.heap.size, 1, none⟩ = some (.slice L.p1 d.ms.length L.c1) ∧ w'.cell? ⟨w.heap.size, 2, none⟩ = some (.slice L.p2 d.ls.length L.c2) ∧ w'.cell? ⟨w.heap.size, 3, none⟩ = some (.slice L.p3 d.ns.length L.c3) ∧ w'.cell? ⟨w.heap.size, 4, none⟩ = some (.slice L.p4 d.ss.length L.c4) ∧
        w'.cell? ⟨ob, 0, none⟩ = some (.slice pw q.ws.length cw) ∧ w'.cell? ⟨ob, 1, none⟩ = some (.slice pm q.ms.length cm) ∧ w'.cell? ⟨ob, 2, none⟩ = some (.slice L.p2 q.ls.length L.c2) ∧ w'.cell? ⟨ob, 3, none⟩ = some (.slice L.p3 q.ns.length L.c3) ∧ w'.cell? ⟨ob, 4, none⟩ = some (.slice L.p4 q.ss.length L.c4)) ∧ Ext (fun _ => False) W3 w' from fun w' e =>
      have b := e.obj B3.out (fun h => h)
      have c := e.obj O3.out (fun h => h)
      ⟨⟨blk_cell b 0, blk_cell b 1, blk_cell b 2, blk_cell b 3, blk_cell b 4, blk_cell c 0, blk_cell c 1, blk_cell c 2, blk_cell c 3, blk_cell c 4⟩, e⟩)
    have D0 := Lib.hid (show Ext (fun _ => False) W3 W3.drew from Ext.drew (Ext.refl _ _))
    have DX := Lib.hid (fun W (e : Ext (fun _ => False) W3 W) => data_b (N3.out.on e) E3.out e)
    have DM := Lib.hid (fun W (e : Ext (fun _ => False) W3 W) => data_b (M3.out.on e) R.out e)
    have SX := Lib.hid (fun W (e : Ext (fun _ => False) W3 W) (L2 : Pl) (h : DR W L2 q) => from_ e (sameD_any W L2 ⟨pw, cw, pm, cm, L.p2, L.c2, L.p3, L.c3, L.p4, L.c4⟩ q h (E3.out.on e)))
    have SM := Lib.hid (fun W (e : Ext (fun _ => False) W3 W) (L2 : Pl) (h : DR W L2 d) => from_ e (sameD_any W L2 L d h (R.out.on (X3.out.trans e (fun _ _ h => h)))))
    have SI := Lib.hid (fun W (e : Ext (fun _ => False) W3 W) => by
      have := sameI_any W (some ⟨ib, 0, none⟩) pi (256 + d.ms.length) ci _ _ (I3.out.on e) (J3.out.on e) (by rw [HI.out]; omega)
      rw [decide_eq_true rfl, HI.out] at this
      exact from_ e this)
    have KN := Lib.hid (fun W (e : Ext (fun _ => False) W3 W) => from_ e (known24_any W))
    go_region_held3 (fun w' => (w'.cell? ⟨w.heap.size, 0, none⟩ = some (.slice L.p0 d.ws.length L.c0) ∧ w'.cell? ⟨w.heap.size, 1, none⟩ = some (.slice L.p1 d.ms.length L.c1) ∧ w'.cell? ⟨w.heap.size, 2, none⟩ = some (.slice L.p2 d.ls.length L.c2) ∧ w'.cell? ⟨w.heap.size, 3, none⟩ = some (.slice L.p3 d.ns.length L.c3) ∧ w'.cell? ⟨w.heap.size, 4, none⟩ = some (.slice L.p4 d.ss.length L.c4) ∧
        w'.cell? ⟨ob, 0, none⟩ = some (.slice pw q.ws.length cw) ∧ w'.cell? ⟨ob, 1, none⟩ = some (.slice pm q.ms.length cm) ∧ w'.cell? ⟨ob, 2, none⟩ = some (.slice L.p2 q.ls.length L.c2) ∧ w'.cell? ⟨ob, 3, none⟩ = some (.slice L.p3 q.ns.length L.c3) ∧ w'.cell? ⟨ob, 4, none⟩ = some (.slice L.p4 q.ss.length L.c4)) ∧ Ext (fun _ => False) W3 w')
      (first | exact CE.out _ D0.out | exact CE.out _ G6.out | exact CE.out _ G5.out | exact CE.out _ G4.out | exact CE.out _ G3.out | exact CE.out _ G2.out | exact CE.out _ G1.out)
      (first
        | (go_at_call 28; (with_reducible refine (DX.out _ ?_).mono ?_); (exact D0.out); rintro e V1 ⟨L2, rfl, hR1, hx1⟩; have G1 := Lib.hid hx1; have R1 := Lib.hid hR1; clear hx1 hR1)
        | (go_at_call 28; (with_reducible refine (DM.out _ ?_).mono ?_); (exact G3.out); rintro e V4 ⟨L4, rfl, hR4, hx4⟩; have G4 := Lib.hid hx4; have R4 := Lib.hid hR4; clear hx4 hR4)
        | (go_at_call 27; (with_reducible refine (SX.out _ ?_ L2 ?_).mono ?_); (exact G1.out); (exact R1.out); rintro e V2 ⟨rfl, hx2⟩; have G2 := Lib.hid hx2; clear hx2)
        | (go_at_call 27; (with_reducible refine (SM.out _ ?_ L4 ?_).mono ?_); (exact G4.out); (exact R4.out); rintro e V5 ⟨rfl, hx5⟩; have G5 := Lib.hid hx5; clear hx5)
        | (go_at_call 20; (with_reducible refine (SI.out _ ?_).mono ?_); (exact G2.out); rintro e V3 ⟨rfl, hx3⟩; have G3 := Lib.hid hx3; clear hx3)
        | (go_at_call 12; (with_reducible refine (KN.out _ ?_).mono ?_); (exact G5.out); rintro e V6 ⟨rfl, hx6⟩; have G6 := Lib.hid hx6; clear hx6))
    have X9 := Lib.hid (X3.out.trans G6.out (fun _ _ h => h))
    go_wp2_with fail
    go_ret
    exact ⟨rfl, X9.out⟩
end Go.Proofs.Ytbepmbihonnkaaa.Sl
