/- Merged of Model, MapKit, MapKit2, ModelWords, ModelPairs. -/
import Derived.Test.YtigpaaelggnffaaGreatDoorSpanPure
import Derived.Deep.RegionHeld3
import Derived.Deep.DeepCutAuto
import Derived.MapKept
import Derived.DeepKeys5
import Derived.Maps.Keyed
import Derived.ChangeKeysEq
import Derived.Laws.BytesArg
import Derived.StillTailTactics
import Derived.Deep.LoopGhost
/- model.copied: data in new memory. -/
namespace Go.Proofs.YtigpaaelggnffaaGreatDoor.Sl
open Go.Proofs.YtigpaaelggnffaaGreatDoor.Lib
open Go.RowKit
set_option linter.unusedVariables false
set_option linter.unusedSimpArgs false

/-- Data in rows of the call's own, from base on. -/
structure DO (base : Nat) (w : World) (L : Pl) (d : Dat) : Prop where
  a0 : Arr w 9 1 L.p0 d.ws.length L.c0 (flat eS d.ws)
  a1 : Arr w 125 3 L.p1 d.ms.length L.c1 (flat eM d.ms)
  a2 : Arr w 127 2 L.p2 d.ls.length L.c2 (flat eP d.ls)
  a3 : Arr w 127 2 L.p3 d.ns.length L.c3 (flat eP d.ns)
  a4 : Arr w 127 2 L.p4 d.ss.length L.c4 (flat eP d.ss)
  n0 : ∀ k, blkOf L.p0 = some k → base ≤ k
  n1 : ∀ k, blkOf L.p1 = some k → base ≤ k
  n2 : ∀ k, blkOf L.p2 = some k → base ≤ k
  n3 : ∀ k, blkOf L.p3 = some k → base ≤ k
  n4 : ∀ k, blkOf L.p4 = some k → base ≤ k
theorem DO.on {base : Nat} {w w' : World} {L : Pl} {d : Dat} (h : DO base w L d) (hx : Ext (fun _ => False) w w') : DO base w' L d :=
  { h with a0 := arr_ext h.a0 hx (fun _ _ h => h), a1 := arr_ext h.a1 hx (fun _ _ h => h), a2 := arr_ext h.a2 hx (fun _ _ h => h), a3 := arr_ext h.a3 hx (fun _ _ h => h), a4 := arr_ext h.a4 hx (fun _ _ h => h) }
theorem DO.reads {base : Nat} {w w0 : World} {L L0 : Pl} {d : Dat} (h : DO base w L d) (h0 : DR w0 L0 d) : DR w L d :=
  ⟨Rd.of_arr (E := eS) h.a0, Rd.of_arr (E := eM) h.a1, Rd.of_arr (E := eP) h.a2, Rd.of_arr (E := eP) h.a3, Rd.of_arr (E := eP) h.a4, (arr_cap h.a0).1, (arr_cap h.a1).1, (arr_cap h.a2).1, (arr_cap h.a3).1, (arr_cap h.a4).1, h0.b0, h0.b1, h0.b2, h0.b3, h0.b4, h0.z0, h0.f1⟩
def Copied (w : World) (d : Dat) (e : Ending) (w' : World) : Prop := ∃ L : Pl, e = .returned (.agg #[.slice L.p0 d.ws.length L.c0, .slice L.p1 d.ms.length L.c1, .slice L.p2 d.ls.length L.c2, .slice L.p3 d.ns.length L.c3, .slice L.p4 d.ss.length L.c4]) ∧ DO w.heap.size w' L d ∧ Ext (fun _ => False) w w'

theorem DR.old {w w' : World} {L : Pl} {d : Dat} {T : Nat → Prop} (h : DR w L d) (hx : Ext T w w') (hT : ∀ k, T k → w.heap.size ≤ k) : DR w' L d :=
  have n : ∀ k, k < w.heap.size → ¬ T k := fun k hk h => by have := hT k h; omega
  { h with r0 := h.r0.ext hx (fun k _ => n k), r1 := h.r1.ext hx (fun k _ => n k), r2 := h.r2.ext hx (fun k _ => n k), r3 := h.r3.ext hx (fun k _ => n k), r4 := h.r4.ext hx (fun k _ => n k) }
/-- What a cell of block r holds, whatever it is. -/
def valAt (w : World) (r j : Nat) : Value := (w.cell? ⟨r, j, none⟩).getD undef
def ResB (w : World) (r t n : Nat) : Prop := ∃ cs : Array Value, w.heap[r]? = some (.cells cs t (0, 0)) ∧ cs.size = n
theorem ResB.cell {w : World} {r t n : Nat} (h : ResB w r t n) (j : Nat) (hj : j < n) : w.cell? ⟨r, j, none⟩ = some (valAt w r j) := by
  obtain ⟨cs, hc, hs⟩ := h
  unfold valAt
  rw [blk_cell hc, Array.getElem?_eq_getElem (by omega)]
  rfl
theorem ResB.frozen {w : World} {r t n : Nat} (h : ResB w r t n) (j : Nat) : w.frozen? ⟨r, j, none⟩ = false := by
  obtain ⟨cs, hc, hs⟩ := h
  exact blk_frozen hc j
theorem ResB.set {w : World} {r t n : Nat} (h : ResB w r t n) (j : Nat) (u : Value) : ResB (w.setCell ⟨r, j, none⟩ u) r t n := by
  obtain ⟨cs, hc, hs⟩ := h
  exact ⟨_, blk_set hc j u, by simpa using hs⟩
theorem ResB.on {w w' : World} {r t n : Nat} (h : ResB w r t n) (hx : Ext (fun _ => False) w w') : ResB w' r t n := by
  obtain ⟨cs, hc, hs⟩ := h
  exact ⟨cs, hx.obj hc (fun h => h), hs⟩
theorem ResB.set5 {w : World} {r t : Nat} (h : ResB w r t 5) (v0 v1 v2 v3 v4 : Value) : (((((w.setCell ⟨r, 0, none⟩ v0).setCell ⟨r, 1, none⟩ v1).setCell ⟨r, 2, none⟩ v2).setCell ⟨r, 3, none⟩ v3).setCell ⟨r, 4, none⟩ v4).heap[r]? = some (.cells #[v0, v1, v2, v3, v4] t (0, 0)) := by
  obtain ⟨cs, hc, hs⟩ := h
  obtain ⟨a, b, c, d, e, rfl⟩ : ∃ a b c d e, cs = #[a, b, c, d, e] := by
    obtain ⟨l⟩ := cs
    match l, hs with
    | [a, b, c, d, e], _ => exact ⟨a, b, c, d, e, rfl⟩
  have h0 : (w.setCell ⟨r, 0, none⟩ v0).heap[r]? = some (.cells #[v0, b, c, d, e] t (0, 0)) := blk_set hc 0 v0
  generalize w.setCell ⟨r, 0, none⟩ v0 = w0 at h0 ⊢
  have h1 : (w0.setCell ⟨r, 1, none⟩ v1).heap[r]? = some (.cells #[v0, v1, c, d, e] t (0, 0)) := blk_set h0 1 v1
  generalize w0.setCell ⟨r, 1, none⟩ v1 = w1 at h1 ⊢
  have h2 : (w1.setCell ⟨r, 2, none⟩ v2).heap[r]? = some (.cells #[v0, v1, v2, d, e] t (0, 0)) := blk_set h1 2 v2
  generalize w1.setCell ⟨r, 2, none⟩ v2 = w2 at h2 ⊢
  have h3 : (w2.setCell ⟨r, 3, none⟩ v3).heap[r]? = some (.cells #[v0, v1, v2, v3, e] t (0, 0)) := blk_set h2 3 v3
  generalize w2.setCell ⟨r, 3, none⟩ v3 = w3 at h3 ⊢
  exact blk_set h3 4 v4
theorem set5_ext {w : World} {r : Nat} (v0 v1 v2 v3 v4 : Value) : Ext (fun k => k = r) w (((((w.setCell ⟨r, 0, none⟩ v0).setCell ⟨r, 1, none⟩ v1).setCell ⟨r, 2, none⟩ v2).setCell ⟨r, 3, none⟩ v3).setCell ⟨r, 4, none⟩ v4) :=
  ((((((Ext.refl (fun k => k = r) w).setCell (p := ⟨r, 0, none⟩) (fun _ => rfl) v0).setCell (p := ⟨r, 1, none⟩) (fun _ => rfl) v1).setCell (p := ⟨r, 2, none⟩) (fun _ => rfl) v2).setCell (p := ⟨r, 3, none⟩) (fun _ => rfl) v3).setCell (p := ⟨r, 4, none⟩) (fun _ => rfl) v4)
theorem keepS {C : Prop} {T : Nat → Prop} {W w1 w2 : World} {r t n : Nat} (x : Ext (fun _ => False) w1 w2) (h : C ∧ (Ext T W w1 ∧ ResB w1 r t n)) : Ext T W w2 ∧ ResB w2 r t n :=
  ⟨h.2.1.trans x (fun _ _ h => h.elim), h.2.2.on x⟩

set_option maxRecDepth 100000 in
set_option maxHeartbeats 8000000 in
theorem copied_any (w : World) (L : Pl) (d : Dat) (h : DR w L d) : Calls Tryz.prog 60 #[.agg #[.slice L.p0 d.ws.length L.c0, .slice L.p1 d.ms.length L.c1, .slice L.p2 d.ls.length L.c2, .slice L.p3 d.ns.length L.c3, .slice L.p4 d.ss.length L.c4]] w fun e w' => Copied w d e w' := by
  have H := Lib.hid h
  clear h
  go_enter Tryz.func60, Tryz.ntmps60
  go_wp2_with fail
  obtain ⟨W, hW⟩ : ∃ W, (w.alloc (.cells #[.slice L.p0 d.ws.length L.c0, .slice L.p1 d.ms.length L.c1, .slice L.p2 d.ls.length L.c2, .slice L.p3 d.ns.length L.c3, .slice L.p4 d.ss.length L.c4] 26)).alloc (.cells #[.slice none 0 0, .slice none 0 0, .slice none 0 0, .slice none 0 0, .slice none 0 0] 26) = W := ⟨_, rfl⟩
  have hx : Ext (fun _ => False) w W := by rw [← hW]; exact ((Ext.refl _ _).alloc _).alloc _
  have hb : W.heap[w.heap.size]? = some (.cells #[.slice L.p0 d.ws.length L.c0, .slice L.p1 d.ms.length L.c1, .slice L.p2 d.ls.length L.c2, .slice L.p3 d.ns.length L.c3, .slice L.p4 d.ss.length L.c4] 26 (0, 0)) := by rw [← hW]; exact blk_alloc (heap_alloc_new w _) _
  have hb2 : W.heap[w.heap.size + 1]? = some (.cells #[.slice none 0 0, .slice none 0 0, .slice none 0 0, .slice none 0 0, .slice none 0 0] 26 (0, 0)) := by
    rw [← hW]
    have := heap_alloc_new (w.alloc (.cells #[.slice L.p0 d.ws.length L.c0, .slice L.p1 d.ms.length L.c1, .slice L.p2 d.ls.length L.c2, .slice L.p3 d.ns.length L.c3, .slice L.p4 d.ss.length L.c4] 26)) (.cells #[.slice none 0 0, .slice none 0 0, .slice none 0 0, .slice none 0 0, .slice none 0 0] 26)
    rw [World.size_alloc] at this
    exact this
  rw [hW]
  clear hW
  have mkS : ∀ w', (Ext (fun k => k = w.heap.size + 1) W w' ∧ ResB w' (w.heap.size + 1) 26 5) → (w'.cell? ⟨w.heap.size, 0, none⟩ = some (.slice L.p0 d.ws.length L.c0) ∧ w'.cell? ⟨w.heap.size, 1, none⟩ = some (.slice L.p1 d.ms.length L.c1) ∧ w'.cell? ⟨w.heap.size, 2, none⟩ = some (.slice L.p2 d.ls.length L.c2) ∧
      w'.cell? ⟨w.heap.size, 3, none⟩ = some (.slice L.p3 d.ns.length L.c3) ∧ w'.cell? ⟨w.heap.size, 4, none⟩ = some (.slice L.p4 d.ss.length L.c4) ∧
      w'.cell? ⟨w.heap.size + 1, 0, none⟩ = some (valAt w' (w.heap.size + 1) 0) ∧ w'.frozen? ⟨w.heap.size + 1, 0, none⟩ = false ∧ w'.cell? ⟨w.heap.size + 1, 1, none⟩ = some (valAt w' (w.heap.size + 1) 1) ∧ w'.frozen? ⟨w.heap.size + 1, 1, none⟩ = false ∧ w'.cell? ⟨w.heap.size + 1, 2, none⟩ = some (valAt w' (w.heap.size + 1) 2) ∧ w'.frozen? ⟨w.heap.size + 1, 2, none⟩ = false ∧ w'.cell? ⟨w.heap.size + 1, 3, none⟩ = some (valAt w' (w.heap.size + 1) 3) ∧ w'.frozen? ⟨w.heap.size + 1, 3, none⟩ = false ∧ w'.cell? ⟨w.heap.size + 1, 4, none⟩ = some (valAt w' (w.heap.size + 1) 4) ∧ w'.frozen? ⟨w.heap.size + 1, 4, none⟩ = false) ∧ (Ext (fun k => k = w.heap.size + 1) W w' ∧ ResB w' (w.heap.size + 1) 26 5) := fun w' e =>
    have b := e.1.obj hb (by show ¬ (w.heap.size = w.heap.size + 1); omega)
    ⟨⟨blk_cell b 0, blk_cell b 1, blk_cell b 2, blk_cell b 3, blk_cell b 4, e.2.cell 0 (by decide), e.2.frozen 0, e.2.cell 1 (by decide), e.2.frozen 1, e.2.cell 2 (by decide), e.2.frozen 2, e.2.cell 3 (by decide), e.2.frozen 3, e.2.cell 4 (by decide), e.2.frozen 4⟩, e⟩
  have MS := Lib.hid mkS
  have HX := Lib.hid (show ∀ w' : World, (Ext (fun k => k = w.heap.size + 1) W w' ∧ ResB w' (w.heap.size + 1) 26 5) → Ext (fun k => k = w.heap.size + 1) w w' from fun w' h => (hx.mono (fun _ h => h.elim)).trans h.1 (fun i hi e => e))
  have SZ := Lib.hid (blk_lt hb2)
  have OLD := Lib.hid (show ∀ k, k = w.heap.size + 1 → w.heap.size ≤ k from fun k h => by omega)
  have B0 := Lib.hid (show Ext (fun k => k = w.heap.size + 1) W W.drew ∧ ResB W.drew (w.heap.size + 1) 26 5 from ⟨Ext.drew (Ext.refl _ _), ⟨_, hb2, rfl⟩⟩)
  clear hb hb2 mkS hx
  go_region_held3 (fun w' => (w'.cell? ⟨w.heap.size, 0, none⟩ = some (.slice L.p0 d.ws.length L.c0) ∧ w'.cell? ⟨w.heap.size, 1, none⟩ = some (.slice L.p1 d.ms.length L.c1) ∧ w'.cell? ⟨w.heap.size, 2, none⟩ = some (.slice L.p2 d.ls.length L.c2) ∧
      w'.cell? ⟨w.heap.size, 3, none⟩ = some (.slice L.p3 d.ns.length L.c3) ∧ w'.cell? ⟨w.heap.size, 4, none⟩ = some (.slice L.p4 d.ss.length L.c4) ∧
      w'.cell? ⟨w.heap.size + 1, 0, none⟩ = some (valAt w' (w.heap.size + 1) 0) ∧ w'.frozen? ⟨w.heap.size + 1, 0, none⟩ = false ∧ w'.cell? ⟨w.heap.size + 1, 1, none⟩ = some (valAt w' (w.heap.size + 1) 1) ∧ w'.frozen? ⟨w.heap.size + 1, 1, none⟩ = false ∧ w'.cell? ⟨w.heap.size + 1, 2, none⟩ = some (valAt w' (w.heap.size + 1) 2) ∧ w'.frozen? ⟨w.heap.size + 1, 2, none⟩ = false ∧ w'.cell? ⟨w.heap.size + 1, 3, none⟩ = some (valAt w' (w.heap.size + 1) 3) ∧ w'.frozen? ⟨w.heap.size + 1, 3, none⟩ = false ∧ w'.cell? ⟨w.heap.size + 1, 4, none⟩ = some (valAt w' (w.heap.size + 1) 4) ∧ w'.frozen? ⟨w.heap.size + 1, 4, none⟩ = false) ∧ (Ext (fun k => k = w.heap.size + 1) W w' ∧ ResB w' (w.heap.size + 1) 26 5))
    (first | exact MS.out _ (by assumption) | exact MS.out _ B0.out | exact MS.out _ ⟨(((((E5.1.setCell (fun _ => rfl) _).setCell (fun _ => rfl) _).setCell (fun _ => rfl) _).setCell (fun _ => rfl) _).setCell (fun _ => rfl) _), ((((E5.2.set 0 _).set 1 _).set 2 _).set 3 _).set 4 _⟩)
    (first
      | (go_at_call 85; (with_reducible refine (cloneS _ L.p0 L.c0 d.ws ?_ H.out.b0).mono ?_); (exact (H.out.old (HX.out _ (And.right (by assumption))) OLD.out).r0); rintro e w1 ⟨q0, k0, rfl, A0, x1, n0⟩; have n0 := Lib.hid n0; have E1 := keepS x1 (by assumption))
      | (go_at_call 86; (with_reducible refine (cloneM _ L.p1 L.c1 d.ms ?_ H.out.b1).mono ?_); (exact (H.out.old (HX.out _ (And.right (by assumption))) OLD.out).r1); rintro e w2 ⟨q1, k1, rfl, A1, x2, n1⟩; have n1 := Lib.hid n1; have E2 := keepS x2 (by assumption))
      | (go_at_call 81; (with_reducible refine (cloneP _ L.p2 L.c2 d.ls ?_ H.out.b2).mono ?_); (exact (H.out.old (HX.out _ (And.right (by assumption))) OLD.out).r2); rintro e w3 ⟨q2, k2, rfl, A2, x3, n2⟩; have n2 := Lib.hid n2; have E3 := keepS x3 (by assumption))
      | (go_at_call 81; (with_reducible refine (cloneP _ L.p3 L.c3 d.ns ?_ H.out.b3).mono ?_); (exact (H.out.old (HX.out _ (And.right (by assumption))) OLD.out).r3); rintro e w4 ⟨q3, k3, rfl, A3, x4, n3⟩; have n3 := Lib.hid n3; have E4 := keepS x4 (by assumption))
      | (go_at_call 81; (with_reducible refine (cloneP _ L.p4 L.c4 d.ss ?_ H.out.b4).mono ?_); (exact (H.out.old (HX.out _ (And.right (by assumption))) OLD.out).r4); rintro e w5 ⟨q4, k4, rfl, A4, x5, n4⟩; have n4 := Lib.hid n4; have E5 := keepS x5 (by assumption)))
  go_wp2_with fail
  obtain ⟨F, hF⟩ : ∃ F, (((((w5.setCell ⟨w.heap.size + 1, 0, none⟩ (.slice q0 d.ws.length k0)).setCell ⟨w.heap.size + 1, 1, none⟩ (.slice q1 d.ms.length k1)).setCell ⟨w.heap.size + 1, 2, none⟩ (.slice q2 d.ls.length k2)).setCell ⟨w.heap.size + 1, 3, none⟩ (.slice q3 d.ns.length k3)).setCell ⟨w.heap.size + 1, 4, none⟩ (.slice q4 d.ss.length k4)) = F := ⟨_, rfl⟩
  have R := ResB.set5 E5.2 (.slice q0 d.ws.length k0) (.slice q1 d.ms.length k1) (.slice q2 d.ls.length k2) (.slice q3 d.ns.length k3) (.slice q4 d.ss.length k4)
  have X := set5_ext (w := w5) (r := w.heap.size + 1) (.slice q0 d.ws.length k0) (.slice q1 d.ms.length k1) (.slice q2 d.ls.length k2) (.slice q3 d.ns.length k3) (.slice q4 d.ss.length k4)
  rw [hF] at R X ⊢
  have r0 := blk_cell R 0
  have r1 := blk_cell R 1
  have r2 := blk_cell R 2
  have r3 := blk_cell R 3
  have r4 := blk_cell R 4
  simp at r0 r1 r2 r3 r4
  have SZ := SZ.out
  have s1 : W.heap.size ≤ w1.heap.size := x1.size
  have s2 := x2.size
  have s3 := x3.size
  have s4 := x4.size
  refine bodyPost_ret (v := .agg #[.slice (Pl.mk q0 k0 q1 k1 q2 k2 q3 k3 q4 k4).p0 d.ws.length (Pl.mk q0 k0 q1 k1 q2 k2 q3 k3 q4 k4).c0, .slice (Pl.mk q0 k0 q1 k1 q2 k2 q3 k3 q4 k4).p1 d.ms.length (Pl.mk q0 k0 q1 k1 q2 k2 q3 k3 q4 k4).c1, .slice (Pl.mk q0 k0 q1 k1 q2 k2 q3 k3 q4 k4).p2 d.ls.length (Pl.mk q0 k0 q1 k1 q2 k2 q3 k3 q4 k4).c2, .slice (Pl.mk q0 k0 q1 k1 q2 k2 q3 k3 q4 k4).p3 d.ns.length (Pl.mk q0 k0 q1 k1 q2 k2 q3 k3 q4 k4).c3, .slice (Pl.mk q0 k0 q1 k1 q2 k2 q3 k3 q4 k4).p4 d.ss.length (Pl.mk q0 k0 q1 k1 q2 k2 q3 k3 q4 k4).c4]) (by simp [results, Tryz.f60, go_sem, r0, r1, r2, r3, r4]) rfl ⟨⟨q0, k0, q1, k1, q2, k2, q3, k3, q4, k4⟩, rfl, ?_, ?_⟩
  · have n0 := n0.out
    have n1 := n1.out
    have n2 := n2.out
    have n3 := n3.out
    have n4 := n4.out
    have e2 := x2.trans (x3.trans (x4.trans x5 (fun _ _ h => h)) (fun _ _ h => h)) (fun _ _ h => h)
    have e3 := x3.trans (x4.trans x5 (fun _ _ h => h)) (fun _ _ h => h)
    have e4 := x4.trans x5 (fun _ _ h => h)
    have m0 : ∀ k, blkOf q0 = some k → W.heap.size ≤ k := fun k hk => n0 k hk
    exact ⟨arr_ext (arr_ext A0 e2 (fun _ _ h => h)) X (fun k hk h => by have := m0 k hk; omega), arr_ext (arr_ext A1 e3 (fun _ _ h => h)) X (fun k hk h => by have := n1 k hk; omega), arr_ext (arr_ext A2 e4 (fun _ _ h => h)) X (fun k hk h => by have := n2 k hk; omega),
      arr_ext (arr_ext A3 x5 (fun _ _ h => h)) X (fun k hk h => by have := n3 k hk; omega), arr_ext A4 X (fun k hk h => by have := n4 k hk; omega),
      fun k hk => by have := m0 k hk; omega, fun k hk => by have := n1 k hk; omega, fun k hk => by have := n2 k hk; omega, fun k hk => by have := n3 k hk; omega, fun k hk => by have := n4 k hk; omega⟩
  · exact ((HX.out _ E5).trans X (fun i hi h => h)).mono_old (fun k hk h => by omega)
end Go.Proofs.YtigpaaelggnffaaGreatDoor.Sl

/- Maps of the call's own: entries in the order in which they came; a lookup, a store at a key that is not there. -/
namespace Go.Proofs.YtigpaaelggnffaaGreatDoor.Sl
open Go.RowKit Go.Proofs.YtigpaaelggnffaaGreatDoor.Lib
set_option linter.unusedVariables false
set_option linter.unusedSimpArgs false

/-- Keys that the map's operations take. -/
structure KeyFit (P : Program) (k : TypeId) (Ok : Value → Prop) : Prop where
  check : ∀ (w : World) (em : Bool) (v : Value), Ok v → (Instr.checkKey em 10000 k v).run P w = .ok () w
  find : ∀ (w : World) (x : Value), Ok x → ∀ es : List MapEntry, (∀ e ∈ es, Ok e.key) →
    ((Instr.findKey k x es).run P w = .ok none w ∧ ∀ e ∈ es, e.key ≠ x) ∨ ∃ j e, (Instr.findKey k x es).run P w = .ok (some (j, e.val)) w ∧ es[j]? = some e ∧ e.key = x
/-- The map in block b holds l. -/
def MapAt (w : World) (b : Nat) (l : List (Value × Value)) : Prop := ∃ es clock, w.heap[b]? = some (.map es clock) ∧ es.toList.map (fun e => (e.key, e.val)) = l
section
variable {P : Program} {w w' : World} {b : Nat} {l : List (Value × Value)} {Ok : Value → Prop} {T k e : TypeId}
theorem MapAt.ext {S : Nat → Prop} (h : MapAt w b l) (hx : Ext S w w') (hn : ¬ S b) : MapAt w' b l := by
  obtain ⟨es, c, hb, hl⟩ := h
  exact ⟨es, c, hx.obj hb hn, hl⟩
theorem MapAt.new (w : World) : MapAt (w.alloc (.map #[] 0)) w.heap.size [] := ⟨#[], 0, heap_alloc_new w _, rfl⟩
theorem MapAt.lt (h : MapAt w b l) : b < w.heap.size := by
  obtain ⟨es, c, hb, hl⟩ := h
  exact blk_lt hb
theorem run_look (hT : P.underlying T = some (.map k e)) (F : KeyFit P k Ok) (h : MapAt w b l) (hl : ∀ p ∈ l, Ok p.1) (x z : Value) (hx : Ok x) (hz : (zeroValue e).run P w = .ok z w) :
    (∃ v, (x, v) ∈ l ∧ (Instr.lookup T (.map (some b)) x true).run P w = .ok (.tuple #[v, .bool true]) w) ∨
    ((∀ p ∈ l, p.1 ≠ x) ∧ (Instr.lookup T (.map (some b)) x true).run P w = .ok (.tuple #[z, .bool false]) w) := by
  obtain ⟨es, c, hb, rfl⟩ := h
  have hes : ∀ y ∈ es.toList, Ok y.key := fun y hy => hl (y.key, y.val) (List.mem_map.2 ⟨y, hy, rfl⟩)
  have hg := MapKept.run_getObj_map (P := P) hb
  rcases F.find w x hx es.toList hes with ⟨h1, h2⟩ | ⟨j, y, h1, h2, h3⟩
  · refine .inr ⟨?_, ?_⟩
    · intro p hp
      obtain ⟨y, hy, rfl⟩ := List.mem_map.1 hp
      exact h2 y hy
    · simp [Instr.lookup, run_underlying hT, hg, F.check w _ x hx, h1, hz]
  · refine .inl ⟨y.val, List.mem_map.2 ⟨y, List.mem_of_getElem? h2, by rw [h3]⟩, ?_⟩
    simp [Instr.lookup, run_underlying hT, hg, F.check w _ x hx, h1]
theorem run_put (hT : P.underlying T = some (.map k e)) (F : KeyFit P k Ok) (h : MapAt w b l) (hl : ∀ p ∈ l, Ok p.1) (x v : Value) (hx : Ok x) (hne : ∀ p ∈ l, p.1 ≠ x) :
    ∃ w', (Instr.mapUpdate T (.map (some b)) x v).run P w = .ok () w' ∧ MapAt w' b (l ++ [(x, v)]) ∧ Ext (fun k => k = b) w w' := by
  obtain ⟨es, c, hb, rfl⟩ := h
  have hes : ∀ y ∈ es.toList, Ok y.key := fun y hy => hl (y.key, y.val) (List.mem_map.2 ⟨y, hy, rfl⟩)
  have hg := MapKept.run_getObj_map (P := P) hb
  rcases F.find w x hx es.toList hes with ⟨h1, h2⟩ | ⟨j, y, h1, h2, h3⟩
  · refine ⟨{ w with heap := w.heap.setIfInBounds b (.map (es.push { key := x, val := v, born := c }) (c + 1)) }, by simp [Instr.mapUpdate, run_underlying hT, hg, F.check w _ x hx, h1, MapKept.run_setObj_map (P := P) _ hb], ⟨es.push { key := x, val := v, born := c }, c + 1, ?_, ?_⟩, rfl, rfl, rfl, by simp, fun i hi hn => ?_⟩
    · simp [Array.getElem?_setIfInBounds, (blk_lt hb)]
    · simp
    · simp [Array.getElem?_setIfInBounds]
      intro h
      exact absurd h.symm hn
  · exact absurd h3 (hne (y.key, y.val) (List.mem_map.2 ⟨y, List.mem_of_getElem? h2, rfl⟩))
end
/-- What has a 'Keyed'. -/
theorem KeyFit.of {P : Program} {k : TypeId} (K : Maps.Keyed P k) : KeyFit P k (fun v => ∃ l, keyOf P k v = some l) :=
  ⟨fun w em v ⟨l, h⟩ => K.check w em h, fun w x ⟨l, h⟩ es hes => K.find w h es hes⟩
theorem strFit : KeyFit Tryz.prog 9 (fun v => ∃ s : ByteArray, s.size ≤ 140737488351232 ∧ v = .string s) := by
  have F := KeyFit.of (Maps.string_keyed (P := Tryz.prog) Tryz.underlying9)
  have hk : ∀ s : ByteArray, s.size ≤ 140737488351232 → ∃ l, keyOf Tryz.prog 9 (.string s) = some l := fun s hs => by
    refine ⟨.string s.data.toList, ?_⟩
    have hm : s.size ≤ maxLen := by unfold maxLen; omega
    simp [keyOf, Tryz.underlying9, mapKey, hm]
  exact ⟨fun w em v ⟨s, hs, e⟩ => by subst e; exact F.check w em _ (hk s hs), fun w x ⟨s, hs, e⟩ es hes => by
    subst e
    exact F.find w _ (hk s hs) es (fun y hy => by obtain ⟨s', hs', e⟩ := hes y hy; rw [e]; exact hk s' hs')⟩
/-- A find that is the same in every world. -/
def FindU (P : Program) (k : TypeId) (Ok : Value → Prop) : Prop := ∀ (x : Value), Ok x → ∀ es : List MapEntry, (∀ e ∈ es, Ok e.key) →
    ((∀ w : World, (Instr.findKey k x es).run P w = .ok none w) ∧ ∀ e ∈ es, e.key ≠ x) ∨ ∃ j e, (∀ w : World, (Instr.findKey k x es).run P w = .ok (some (j, e.val)) w) ∧ es[j]? = some e ∧ e.key = x
theorem pairFind : FindU Tryz.prog 171 (fun v => ∃ a b : Int, v = .agg #[.int .i64 a, .int .i64 b]) := by
  have hu := Tryz.underlying171
  have hi := Tryz.underlying3
  have heq : ∀ (w : World) (a b c d : Int), (Op.equal 171 (.agg #[.int .i64 a, .int .i64 b]) (.agg #[.int .i64 c, .int .i64 d])).run Tryz.prog w = .ok (decide (a = c ∧ b = d)) w := fun w a b c d => by
    obtain ⟨i, hinf, _⟩ := info_parts infoI
    have hc : Tryz.prog.cellsOf 3 = 1 := by kernel_rfl
    simp only [Op.equal, Op.maxDepth]
    rw [run_equalIn_array w 9999 _ _ hu hinf, hc]
    have hr : List.range 2 = [0, 1] := rfl
    simp only [hr]
    by_cases e0 : a = c
    · by_cases e1 : b = d <;> simp [Op.eqItems, part, hi, run_underlying, run_equalIn_int, e0, e1, go_sem]
    · simp [Op.eqItems, part, hi, run_underlying, run_equalIn_int, e0, go_sem]
  have hask : ∀ (a b : Int) (es : List MapEntry) (i : Nat), (∀ e ∈ es, ∃ a b : Int, e.key = .agg #[.int .i64 a, .int .i64 b]) →
      ((∀ w : World, (Instr.findAsking 171 (.agg #[.int .i64 a, .int .i64 b]) es i).run Tryz.prog w = .ok none w) ∧ ∀ e ∈ es, e.key ≠ .agg #[.int .i64 a, .int .i64 b]) ∨ ∃ j e, (∀ w : World, (Instr.findAsking 171 (.agg #[.int .i64 a, .int .i64 b]) es i).run Tryz.prog w = .ok (some (i + j, e.val)) w) ∧ es[j]? = some e ∧ e.key = .agg #[.int .i64 a, .int .i64 b] := by
    intro a b es
    induction es with
    | nil => intro i _; exact .inl ⟨fun _ => rfl, by simp⟩
    | cons y es ih =>
      intro i hes
      obtain ⟨c, d, hy⟩ := hes y (by simp)
      have h1 := fun w => heq w a b c d
      by_cases h : a = c ∧ b = d
      · obtain ⟨rfl, rfl⟩ := h
        refine .inr ⟨0, y, ?_, by simp, hy⟩
        intro w
        simp [Instr.findAsking, hy, h1]
      · have hne : y.key ≠ .agg #[.int .i64 a, .int .i64 b] := by
          rw [hy]
          intro e
          simp at e
          exact h ⟨e.1.symm, e.2.symm⟩
        rcases ih (i + 1) (fun e he => hes e (by simp [he])) with ⟨h2, h3⟩ | ⟨j, e, h2, h3, h4⟩
        · refine .inl ⟨fun w => by simp [Instr.findAsking, hy, h1, h, h2], fun e he => ?_⟩
          rcases List.mem_cons.1 he with rfl | he
          · exact hne
          · exact h3 e he
        · refine .inr ⟨j + 1, e, ?_, by simpa using h3, h4⟩
          intro w
          simp [Instr.findAsking, hy, h1, h, h2]
          omega
  rintro x ⟨a, b, rfl⟩ es hes
  have hn : Instr.findNow (.array 2 3) (.agg #[.int .i64 a, .int .i64 b]) es 0 = none ∨ es = [] := by
    cases es with
    | nil => exact .inr rfl
    | cons y es => exact .inl rfl
  rcases hn with hn | rfl
  · have := hask a b es 0 hes
    simp only [Nat.zero_add] at this
    simp only [Instr.findKey, Sem.run_bind, run_underlying hu, Result.andThen_ok, hn]
    exact this
  · refine .inl ⟨fun w => ?_, by simp⟩
    simp [Instr.findKey, run_underlying hu, Instr.findNow]
theorem pairFit : KeyFit Tryz.prog 171 (fun v => ∃ a b : Int, v = .agg #[.int .i64 a, .int .i64 b]) := by
  refine ⟨fun w em v ⟨a, b, e⟩ => ?_, fun w x hx es hes => ?_⟩
  · subst e
    kernel_rfl
  · rcases pairFind x hx es hes with ⟨h1, h2⟩ | ⟨j, e, h1, h2⟩
    · exact .inl ⟨h1 w, h2⟩
    · exact .inr ⟨j, e, h1 w, h2⟩
theorem run_look_u {P : Program} {w : World} {b : Nat} {l : List (Value × Value)} {Ok : Value → Prop} {T k e : TypeId} (hT : P.underlying T = some (.map k e)) (F : KeyFit P k Ok) (U : FindU P k Ok) (h : MapAt w b l) (hl : ∀ p ∈ l, Ok p.1) (x z : Value) (hx : Ok x) (hz : ∀ w, (zeroValue e).run P w = .ok z w) :
    (∃ v, (x, v) ∈ l ∧ ∀ w', w'.heap[b]? = w.heap[b]? → (Instr.lookup T (.map (some b)) x true).run P w' = .ok (.tuple #[v, .bool true]) w') ∨
    ((∀ p ∈ l, p.1 ≠ x) ∧ ∀ w', w'.heap[b]? = w.heap[b]? → (Instr.lookup T (.map (some b)) x true).run P w' = .ok (.tuple #[z, .bool false]) w') := by
  obtain ⟨es, c, hb, rfl⟩ := h
  have hes : ∀ y ∈ es.toList, Ok y.key := fun y hy => hl (y.key, y.val) (List.mem_map.2 ⟨y, hy, rfl⟩)
  rcases U x hx es.toList hes with ⟨h1, h2⟩ | ⟨j, y, h1, h2, h3⟩
  · refine .inr ⟨?_, fun w' hw => ?_⟩
    · intro p hp
      obtain ⟨y, hy, rfl⟩ := List.mem_map.1 hp
      exact h2 y hy
    · have hg := MapKept.run_getObj_map (P := P) (hw.trans hb)
      simp [Instr.lookup, run_underlying hT, hg, F.check w' _ x hx, h1, hz]
  · refine .inl ⟨y.val, List.mem_map.2 ⟨y, List.mem_of_getElem? h2, by rw [h3]⟩, fun w' hw => ?_⟩
    have hg := MapKept.run_getObj_map (P := P) (hw.trans hb)
    simp [Instr.lookup, run_underlying hT, hg, F.check w' _ x hx, h1]
end Go.Proofs.YtigpaaelggnffaaGreatDoor.Sl

/- Maps with int keys: a lookup of one answer, a length. -/
namespace Go.Proofs.YtigpaaelggnffaaGreatDoor.Sl
open Go.RowKit Go.Proofs.YtigpaaelggnffaaGreatDoor.Lib
set_option linter.unusedVariables false
set_option linter.unusedSimpArgs false

theorem intFit : KeyFit Tryz.prog 3 (fun v => ∃ n : Int, inI n ∧ v = .int .i64 n) := by
  have F := KeyFit.of (Maps.int_keyed (P := Tryz.prog) Tryz.underlying3)
  have hk : ∀ n : Int, inI n → ∃ l, keyOf Tryz.prog 3 (.int .i64 n) = some l := fun n hn => by
    unfold inI at hn
    refine ⟨.int .i64 n, ?_⟩
    simp [keyOf, Tryz.underlying3, mapKey, Lit.wf, IntKind.min, IntKind.max, IntKind.signed, IntKind.bits]
    try omega
  exact ⟨fun w em v ⟨s, hs, e⟩ => by subst e; exact F.check w em _ (hk s hs), fun w x ⟨s, hs, e⟩ es hes => by
    subst e
    exact F.find w _ (hk s hs) es (fun y hy => by obtain ⟨s', hs', e⟩ := hes y hy; rw [e]; exact hk s' hs')⟩
section
variable {P : Program} {w w' : World} {b : Nat} {l : List (Value × Value)} {Ok : Value → Prop} {T k e : TypeId}
theorem run_look1 (hT : P.underlying T = some (.map k e)) (F : KeyFit P k Ok) (h : MapAt w b l) (hl : ∀ p ∈ l, Ok p.1) (x z : Value) (hx : Ok x) (hz : (zeroValue e).run P w = .ok z w) :
    (∃ v, (x, v) ∈ l ∧ (Instr.lookup T (.map (some b)) x false).run P w = .ok v w) ∨
    ((∀ p ∈ l, p.1 ≠ x) ∧ (Instr.lookup T (.map (some b)) x false).run P w = .ok z w) := by
  obtain ⟨es, c, hb, rfl⟩ := h
  have hes : ∀ y ∈ es.toList, Ok y.key := fun y hy => hl (y.key, y.val) (List.mem_map.2 ⟨y, hy, rfl⟩)
  have hg := MapKept.run_getObj_map (P := P) hb
  rcases F.find w x hx es.toList hes with ⟨h1, h2⟩ | ⟨j, y, h1, h2, h3⟩
  · refine .inr ⟨?_, ?_⟩
    · intro p hp
      obtain ⟨y, hy, rfl⟩ := List.mem_map.1 hp
      exact h2 y hy
    · simp [Instr.lookup, run_underlying hT, hg, F.check w _ x hx, h1, hz]
  · refine .inl ⟨y.val, List.mem_map.2 ⟨y, List.mem_of_getElem? h2, by rw [h3]⟩, ?_⟩
    simp [Instr.lookup, run_underlying hT, hg, F.check w _ x hx, h1]
theorem run_len_at (hT : P.underlying T = some (.map k e)) (h : MapAt w b l) (ty : TypeId) : (Builtin.len_ #[T] ty #[.map (some b)]).run P w = .ok (goInt l.length) w := by
  obtain ⟨es, c, hb, rfl⟩ := h
  have hg := MapKept.run_getObj_map (P := P) hb
  simp [Builtin.len_, run_underlying hT, hg]
end
end Go.Proofs.YtigpaaelggnffaaGreatDoor.Sl

/- A model in memory: Size, Word; words checks the words. -/
namespace Go.Proofs.YtigpaaelggnffaaGreatDoor.Sl
open Go.Proofs.YtigpaaelggnffaaGreatDoor.Lib
open Go.RowKit
set_option linter.unusedVariables false
set_option linter.unusedSimpArgs false

/-- A model's block. -/
structure MB (w : World) (a : Nat) (L : Pl) (d : Dat) (tp mp : Nat) (lg : Int) : Prop where
  blk : w.heap[a]? = some (.cells #[.slice L.p0 d.ws.length L.c0, .slice L.p1 d.ms.length L.c1, .slice L.p2 d.ls.length L.c2, .slice L.p3 d.ns.length L.c3, .slice L.p4 d.ss.length L.c4, .pointer (some ⟨tp, 0, none⟩), .map (some mp), .int .i64 lg] 123 (0, 0))
theorem MB.on {w w' : World} {a : Nat} {L : Pl} {d : Dat} {tp mp : Nat} {lg : Int} {S : Nat → Prop} (h : MB w a L d tp mp lg) (hx : Ext S w w') (hn : ¬ S a) : MB w' a L d tp mp lg := ⟨hx.obj h.blk hn⟩
theorem MB.c0 {w : World} {a : Nat} {L : Pl} {d : Dat} {tp mp : Nat} {lg : Int} (h : MB w a L d tp mp lg) : w.cell? ⟨a, 0, none⟩ = some (.slice L.p0 d.ws.length L.c0) := blk_cell h.blk 0
theorem MB.c1 {w : World} {a : Nat} {L : Pl} {d : Dat} {tp mp : Nat} {lg : Int} (h : MB w a L d tp mp lg) : w.cell? ⟨a, 1, none⟩ = some (.slice L.p1 d.ms.length L.c1) := blk_cell h.blk 1
theorem MB.c2 {w : World} {a : Nat} {L : Pl} {d : Dat} {tp mp : Nat} {lg : Int} (h : MB w a L d tp mp lg) : w.cell? ⟨a, 2, none⟩ = some (.slice L.p2 d.ls.length L.c2) := blk_cell h.blk 2
theorem MB.c3 {w : World} {a : Nat} {L : Pl} {d : Dat} {tp mp : Nat} {lg : Int} (h : MB w a L d tp mp lg) : w.cell? ⟨a, 3, none⟩ = some (.slice L.p3 d.ns.length L.c3) := blk_cell h.blk 3
theorem MB.c4 {w : World} {a : Nat} {L : Pl} {d : Dat} {tp mp : Nat} {lg : Int} (h : MB w a L d tp mp lg) : w.cell? ⟨a, 4, none⟩ = some (.slice L.p4 d.ss.length L.c4) := blk_cell h.blk 4
theorem MB.c5 {w : World} {a : Nat} {L : Pl} {d : Dat} {tp mp : Nat} {lg : Int} (h : MB w a L d tp mp lg) : w.cell? ⟨a, 5, none⟩ = some (.pointer (some ⟨tp, 0, none⟩)) := blk_cell h.blk 5
theorem MB.c6 {w : World} {a : Nat} {L : Pl} {d : Dat} {tp mp : Nat} {lg : Int} (h : MB w a L d tp mp lg) : w.cell? ⟨a, 6, none⟩ = some (.map (some mp)) := blk_cell h.blk 6
theorem MB.c7 {w : World} {a : Nat} {L : Pl} {d : Dat} {tp mp : Nat} {lg : Int} (h : MB w a L d tp mp lg) : w.cell? ⟨a, 7, none⟩ = some (.int .i64 lg) := blk_cell h.blk 7

set_option maxHeartbeats 400000 in
theorem size_any (w : World) (a : Nat) (p : Option Addr) (n c : Nat) (h : w.cell? ⟨a, 0, none⟩ = some (.slice p n c)) (hn : n ≤ 140737488351232) :
    Calls Tryz.prog 39 #[.pointer (some ⟨a, 0, none⟩)] w fun e w' => e = .returned (.int .i64 (256 + n)) ∧ w = w' := by
  go_enter Tryz.func39, Tryz.ntmps39
  go_wp2_with fail
  go_ret
  exact ⟨rfl, rfl⟩

/-- An id's bytes. -/
def wordOf (ws : List ByteArray) (id : Int) : ByteArray × Bool :=
  if id < 0 then (⟨#[]⟩, false) else if 256 + (ws.length : Int) ≤ id then (⟨#[]⟩, false) else if id < 256 then (⟨#[UInt8.ofNat id.toNat]⟩, true) else (ws.getD (id - 256).toNat ⟨#[]⟩, true)
theorem wordOf_byte {ws : List ByteArray} {id : Int} (h0 : 0 ≤ id) (h1 : id < 256) : wordOf ws id = (⟨#[UInt8.ofNat id.toNat]⟩, true) := by
  unfold wordOf
  rw [if_neg (by omega), if_neg (by omega), if_pos h1]
theorem wordOf_word {ws : List ByteArray} {i : Nat} {x : ByteArray} (h : ws[i]? = some x) : wordOf ws ((i : Int) + 256) = (x, true) := by
  have := (List.getElem?_eq_some_iff.1 h).1
  unfold wordOf
  rw [if_neg (by omega), if_neg (by omega), if_neg (by omega)]
  simp [List.getD_eq_getElem?_getD, h]
theorem wordOf_none {ws : List ByteArray} {id : Int} (h : id < 0 ∨ 256 + (ws.length : Int) ≤ id) : wordOf ws id = (⟨#[]⟩, false) := by
  unfold wordOf
  rcases h with h | h
  · rw [if_pos h]
  · rw [if_neg (by omega), if_pos h]

theorem byte_str (w : World) (id : Int) : (convert 84 9 (.slice (some ⟨w.heap.size, 0, none⟩) 1 1)).run Tryz.prog (w.alloc (.cells #[.int .u8 id] 5)) = .ok (.string ⟨#[UInt8.ofNat id.toNat]⟩) (w.alloc (.cells #[.int .u8 id] 5)) :=
  run_convert_bytes_arg (P := Tryz.prog) _ 84 5 Tryz.underlying84 Tryz.underlying5 w.heap.size 0 1 1 [id] rfl (fun i hi => by
    obtain rfl : i = 0 := by omega
    exact blk_cell (heap_alloc_new w _) 0) 9 Tryz.underlying9
set_option maxRecDepth 100000 in
set_option maxHeartbeats 1000000 in
theorem word_any (w : World) (a : Nat) (p : Option Addr) (c : Nat) (ws : List ByteArray) (id : Int) (h : w.cell? ⟨a, 0, none⟩ = some (.slice p ws.length c)) (hr : Rd eS w p ws) (hn : ws.length ≤ 140737488351232) :
    Calls Tryz.prog 38 #[.pointer (some ⟨a, 0, none⟩), .int .i64 id] w fun e w' => e = .returned (.tuple #[.string (wordOf ws id).1, .bool (wordOf ws id).2]) ∧ Ext (fun _ => False) w w' := by
  have SZ := Lib.hid (size_any w a p ws.length c h hn)
  have R := Lib.hid hr
  clear hr
  by_cases h0 : id < 0
  · have E := Lib.hid (wordOf_none (ws := ws) (.inl h0))
    go_enter Tryz.func38, Tryz.ntmps38
    go_wp2_with fail
    go_ret2
    exact ⟨by rw [E.out]; rfl, Ext.refl _ _⟩
  · have k0 : 0 ≤ id := by omega
    by_cases h1 : 256 + (ws.length : Int) ≤ id
    · have E := Lib.hid (wordOf_none (ws := ws) (.inr h1))
      have d1 : decide (id ≥ 256 + (ws.length : Int)) = true := decide_eq_true h1
      go_enter Tryz.func38, Tryz.ntmps38
      go_wp2_with fail
      refine SZ.out.mono ?_
      rintro e w' ⟨rfl, rfl⟩
      go_wp2_with fail
      go_ret2
      exact ⟨by rw [E.out]; rfl, Ext.refl _ _⟩
    · have d1 : decide (id ≥ 256 + (ws.length : Int)) = false := decide_eq_false h1
      by_cases h2 : id < 256
      · have E := Lib.hid (wordOf_byte (ws := ws) k0 h2)
        have hcv := byte_str w id
        go_enter Tryz.func38, Tryz.ntmps38
        go_wp2_with fail
        refine SZ.out.mono ?_
        rintro e w' ⟨rfl, rfl⟩
        go_wp2_with fail
        go_ret2
        exact ⟨by rw [E.out]; rfl, (Ext.refl _ _).alloc _⟩
      · obtain ⟨i, ei⟩ : ∃ i : Nat, (id - 256).toNat = i := ⟨_, rfl⟩
        have hi : i < ws.length := by omega
        obtain ⟨x, e⟩ : ∃ x, ws[i]? = some x := ⟨_, List.getElem?_eq_getElem hi⟩
        obtain ⟨b, o, rfl, hb, e0⟩ := R.out.cellS e
        have E := Lib.hid (show wordOf ws id = (x, true) from by rw [← wordOf_word e]; congr 1; omega)
        have i1 : id - 256 < (ws.length : Int) := by omega
        have i0 : 0 ≤ id - 256 := by omega
        clear e
        rw [← ei] at e0
        clear ei
        go_enter Tryz.func38, Tryz.ntmps38
        go_wp2_with fail
        refine SZ.out.mono ?_
        rintro e w' ⟨rfl, rfl⟩
        go_wp2_with fail
        go_ret2
        exact ⟨by rw [E.out]; rfl, Ext.refl _ _⟩

/-! ### words -/
def had (s : ByteArray) (l : List ByteArray) : Bool := l.any fun t => decide (t = s)
theorem had_iff {s : ByteArray} {l : List ByteArray} : had s l = true ↔ s ∈ l := by simp [had]
theorem wordOf_size (ws : List ByteArray) (h : ∀ s ∈ ws, s.size ≤ 140737488351232) (id : Int) : (wordOf ws id).1.size ≤ 140737488351232 := by
  unfold wordOf
  split
  · exact Nat.zero_le _
  · split
    · exact Nat.zero_le _
    · split
      · show 1 ≤ 140737488351232; decide
      · show (ws.getD (id - 256).toNat ⟨#[]⟩).size ≤ 140737488351232
        rw [List.getD_eq_getElem?_getD]
        cases e : ws[(id - 256).toNat]? with
        | none => exact Nat.zero_le _
        | some s => exact h s (List.mem_of_getElem? e)
def wordsGo : Nat → List ByteArray → List ByteArray → Int × Int
  | _, _, [] => (0, 0)
  | i, seen, s :: t => if s.size < 2 ∨ 256 < s.size then ((i : Int), 21) else if had s seen = true then ((i : Int), 22) else wordsGo (i + 1) (seen ++ [s]) t
def longest (ws : List ByteArray) : Int := ws.foldl (fun m s => mx m s.size) 1
theorem longest_snoc (ws : List ByteArray) (s : ByteArray) : longest (ws ++ [s]) = mx (longest ws) s.size := by simp [longest]
theorem longest_bd (ws : List ByteArray) (h : ∀ s ∈ ws, s.size ≤ 140737488351232) : 1 ≤ longest ws ∧ longest ws ≤ 140737488351232 := by
  have key : ∀ (l : List ByteArray) (m : Int), 1 ≤ m → m ≤ 140737488351232 → (∀ s ∈ l, s.size ≤ 140737488351232) → 1 ≤ l.foldl (fun m s => mx m s.size) m ∧ l.foldl (fun m s => mx m s.size) m ≤ 140737488351232 := by
    intro l
    induction l with
    | nil => intro m h1 h2 _; exact ⟨h1, h2⟩
    | cons s l ih =>
      intro m h1 h2 h3
      have hs := h3 s (by simp)
      refine ih _ ?_ ?_ (fun s hs => h3 s (by simp [hs])) <;> dsimp only [mx] <;> split <;> omega
  exact key ws 1 (by omega) (by omega) h
def ents : Nat → List ByteArray → List (Value × Value)
  | _, [] => []
  | i, s :: t => (.string s, .int .i64 (i : Int)) :: ents (i + 1) t
theorem ents_snoc (i : Nat) (l : List ByteArray) (s : ByteArray) : ents i (l ++ [s]) = ents i l ++ [(.string s, .int .i64 ((i + l.length : Nat) : Int))] := by
  induction l generalizing i with
  | nil => rfl
  | cons x l ih => simp only [List.cons_append, ents, ih, List.length_cons]; rw [show i + 1 + l.length = i + (l.length + 1) by omega]
theorem ents_mem {i : Nat} {l : List ByteArray} {p : Value × Value} (h : p ∈ ents i l) : ∃ s ∈ l, p.1 = .string s := by
  induction l generalizing i with
  | nil => cases h
  | cons x l ih =>
    rcases List.mem_cons.1 h with rfl | h
    · exact ⟨x, by simp, rfl⟩
    · obtain ⟨s, hs, e⟩ := ih h
      exact ⟨s, by simp [hs], e⟩
theorem ents_has {i : Nat} {l : List ByteArray} {s : ByteArray} (h : s ∈ l) : ∃ p ∈ ents i l, p.1 = .string s := by
  induction l generalizing i with
  | nil => cases h
  | cons x l ih =>
    rcases List.mem_cons.1 h with rfl | h
    · exact ⟨_, List.mem_cons_self, rfl⟩
    · obtain ⟨p, hp, e⟩ := ih (i := i + 1) h
      exact ⟨p, List.mem_cons_of_mem _ hp, e⟩
theorem MB.lg {w : World} {a : Nat} {L : Pl} {d : Dat} {tp mp : Nat} {lg : Int} (h : MB w a L d tp mp lg) (l2 : Int) : MB (w.setCell ⟨a, 7, none⟩ (.int .i64 l2)) a L d tp mp l2 := ⟨blk_set h.blk 7 (.int .i64 l2)⟩
/-- k words are looked at, each fit and new. -/
structure WordsSt (w wr : World) (a mb : Nat) (L : Pl) (d : Dat) (tp mp k : Nat) : Prop where
  kl : k ≤ d.ws.length
  eq : wordsGo 0 [] d.ws = wordsGo k (d.ws.take k) (d.ws.drop k)
  map : MapAt wr mb (ents 0 (d.ws.take k))
  bk : MB wr a L d tp mp (longest (d.ws.take k))
  ext : Ext (fun k => k = a ∨ k = mb) w wr
  ne : a ≠ mb
  new : w.heap.size ≤ mb
def WordsEnd (w : World) (a : Nat) (L : Pl) (d : Dat) (tp mp : Nat) (e : Ending) (w' : World) : Prop :=
  e = .returned (.tuple #[.int .i64 (wordsGo 0 [] d.ws).1, .int .i64 (wordsGo 0 [] d.ws).2]) ∧ Ext (fun k => k = a) w w' ∧ ((wordsGo 0 [] d.ws).2 = 0 → MB w' a L d tp mp (longest d.ws))
theorem WordsSt.bad {w wr : World} {a mb : Nat} {L : Pl} {d : Dat} {tp mp k : Nat} (h : WordsSt w wr a mb L d tp mp k) {s : ByteArray} {y : Int} (hs : d.ws[k]? = some s) (hy : y ≠ 0) (hb : wordsGo k (d.ws.take k) (s :: d.ws.drop (k + 1)) = ((k : Int), y)) :
    WordsEnd w a L d tp mp (.returned (.tuple #[.int .i64 k, .int .i64 y])) wr := by
  have hlt := (List.getElem?_eq_some_iff.1 hs).1
  have e : d.ws.drop k = s :: d.ws.drop (k + 1) := by rw [List.drop_eq_getElem_cons hlt]; congr 1; exact (List.getElem?_eq_some_iff.1 hs).2
  have e2 : wordsGo 0 [] d.ws = ((k : Int), y) := by rw [h.eq, e, hb]
  exact ⟨by rw [e2], h.ext.mono_old (fun i hi hS => hS.elim id (fun e => by have := h.new; omega)), fun h0 => absurd h0 (by rw [e2]; exact hy)⟩
theorem WordsSt.step {w wr w2 : World} {a mb : Nat} {L : Pl} {d : Dat} {tp mp k : Nat} (h : WordsSt w wr a mb L d tp mp k) {s : ByteArray} (hs : d.ws[k]? = some s) (h1 : ¬ (s.size < 2 ∨ 256 < s.size)) (h2 : s ∉ d.ws.take k) (hm : MapAt w2 mb (ents 0 (d.ws.take k) ++ [(.string s, .int .i64 (k : Int))])) (hx : Ext (fun k => k = mb) wr w2) :
    MB w2 a L d tp mp (longest (d.ws.take k)) ∧ WordsSt w (w2.setCell ⟨a, 7, none⟩ (.int .i64 (mx (longest (d.ws.take k)) s.size))) a mb L d tp mp (k + 1) := by
  have hlt := (List.getElem?_eq_some_iff.1 hs).1
  have e : d.ws.drop k = s :: d.ws.drop (k + 1) := by rw [List.drop_eq_getElem_cons hlt]; congr 1; exact (List.getElem?_eq_some_iff.1 hs).2
  have et : d.ws.take (k + 1) = d.ws.take k ++ [s] := by rw [List.take_succ_eq_append_getElem hlt]; congr 2; exact (List.getElem?_eq_some_iff.1 hs).2
  have hmb := h.bk.on hx h.ne
  refine ⟨hmb, ⟨hlt, ?_, ?_, ?_, ?_, h.ne, h.new⟩⟩
  · rw [h.eq, e, wordsGo, if_neg h1, if_neg (fun h => h2 (had_iff.1 h)), et]
  · rw [et, ents_snoc, List.length_take, Nat.min_eq_left (by omega), Nat.zero_add]
    exact hm.ext ((Ext.refl (fun k => k = a) w2).setCell (p := ⟨a, 7, none⟩) (fun _ => rfl) _) (fun e => h.ne e.symm)
  · rw [et, longest_snoc]
    exact hmb.lg _
  · exact (h.ext.trans hx (fun i hi e => .inr e)).setCell (p := ⟨a, 7, none⟩) (fun _ => .inl rfl) _

set_option maxRecDepth 100000 in
set_option maxHeartbeats 2000000 in
theorem words_any (w : World) (a : Nat) (L : Pl) (d : Dat) (tp mp : Nat) (h : MB w a L d tp mp 1) (hr : DR w L d) (hfar : ∀ k, blkOf L.p0 = some k → k ≠ a) :
    Calls Tryz.prog 61 #[.pointer (some ⟨a, 0, none⟩)] w fun e w' => WordsEnd w a L d tp mp e w' := by
  have H := Lib.hid h
  have R := Lib.hid hr
  have FAR := Lib.hid hfar
  have e0 := h.c0
  have hl := hr.b0
  have ha := blk_lt h.blk
  clear h hr hfar
  have hmm := @run_makeMap Tryz.prog
  go_enter Tryz.func61, Tryz.ntmps61
  go_wp2_with fail
  go_loopw [16] (fun i wr => ∃ k : Nat, i = .int .i64 k ∧ WordsSt w wr a w.heap.size L d tp mp k) (fun i _ => d.ws.length - (intOf i).toNat)
  case atStart =>
    refine ⟨0, rfl, ⟨Nat.zero_le _, rfl, ?_, ?_, ((Ext.refl _ w).alloc _), by omega, Nat.le_refl _⟩⟩
    · exact MapAt.new w
    · exact H.out.on ((Ext.refl (fun _ => False) w).alloc _) (fun h => h)
  case round =>
    obtain ⟨k, rfl, hst⟩ := hrel
    have ST := Lib.hid hst
    have hk := hst.kl
    clear hst hmm e0
    by_cases hlt : k < d.ws.length
    · obtain ⟨s, hs⟩ : ∃ s, d.ws[k]? = some s := ⟨_, List.getElem?_eq_getElem hlt⟩
      have HS := Lib.hid hs
      obtain ⟨b, o, hp, hb, c0⟩ := (R.out.r0.ext ST.out.ext (fun i hi hlt' hS => by
        rcases hS with rfl | rfl
        · exact FAR.out _ hi rfl
        · exact absurd hlt' (Nat.lt_irrefl _))).cellS hs
      have hsz := R.out.z0 s (List.mem_of_getElem? hs)
      have i1 : (k : Int) < (d.ws.length : Int) := by omega
      clear hs
      rw [hp]
      by_cases hA : s.size < 2
      · go_wp2_with fail
        go_ret2
        exact ST.out.bad HS.out (by decide) (by rw [wordsGo, if_pos (.inl hA)])
      · by_cases hB : 256 < s.size
        · go_wp2_with fail
          go_ret2
          exact ST.out.bad HS.out (by decide) (by rw [wordsGo, if_pos (.inr hB)])
        · have hok : ∀ p ∈ ents 0 (d.ws.take k), ∃ s : ByteArray, s.size ≤ 140737488351232 ∧ p.1 = .string s := fun p hp => by
            obtain ⟨s, hs, e⟩ := ents_mem hp
            exact ⟨s, R.out.z0 s (List.mem_of_mem_take hs), e⟩
          rcases run_look (P := Tryz.prog) Tryz.underlying168 strFit ST.out.map hok (.string s) (.int .i64 0) ⟨s, hsz, rfl⟩ (by kernel_rfl) with ⟨v, hv, hrun⟩ | ⟨hne, hrun⟩
          · have hin : s ∈ d.ws.take k := by
              obtain ⟨s', hs', e⟩ := ents_mem hv
              simp at e
              rw [e]; exact hs'
            have HIN := Lib.hid hin
            clear hv hok hin
            go_wp2_with fail
            go_ret2
            exact ST.out.bad HS.out (by decide) (by rw [wordsGo, if_neg (by omega), if_pos (had_iff.2 HIN.out)])
          · have hnin : s ∉ d.ws.take k := fun h => by
              obtain ⟨p, hp, e⟩ := ents_has (i := 0) h
              exact hne p hp e
            obtain ⟨w2, hput, hm2, hx2⟩ := run_put (P := Tryz.prog) Tryz.underlying168 strFit ST.out.map hok (.string s) (.int .i64 k) ⟨s, hsz, rfl⟩ hne
            have T := Lib.hid (ST.out.step HS.out (by omega) hnin hm2 hx2)
            have c7 := T.out.1.c7
            have f7 := blk_frozen T.out.1.blk 7
            have bd := longest_bd (d.ws.take k) (fun s hs => R.out.z0 s (List.mem_of_mem_take hs))
            clear hok hne hnin hm2 hx2
            go_wp2_with fail
            go_roundw
            case rel => exact ⟨k + 1, by go_num, T.out.2⟩
            case measure => simp [intOf]; omega
    · have hk2 : k = d.ws.length := by omega
      have E : wordsGo 0 [] d.ws = (0, 0) := by rw [ST.out.eq, hk2, List.drop_length]; rfl
      have HE := Lib.hid E
      have HK := Lib.hid hk2
      clear E hk2
      go_wp2_with fail
      go_ret2
      refine ⟨by rw [HE.out]; rfl, ST.out.ext.mono_old (fun i hi hS => hS.elim id (fun e => by have := ST.out.new; omega)), fun _ => ?_⟩
      have := ST.out.bk
      rw [HK.out, List.take_length] at this
      exact this
end Go.Proofs.YtigpaaelggnffaaGreatDoor.Sl

/- model.pairs checks the merges. -/
namespace Go.Proofs.YtigpaaelggnffaaGreatDoor.Sl
open Go.Proofs.YtigpaaelggnffaaGreatDoor.Lib
open Go.RowKit
set_option linter.unusedVariables false
set_option linter.unusedSimpArgs false

def isId (done : List Mrg) (id : Int) : Bool := done.any fun y => decide (y.i = id)
def madeB (done : List Mrg) (id : Int) : Bool := (decide (0 ≤ id) && decide (id < 256)) || (decide (256 ≤ id) && isId done id)
def hasPair (done : List Mrg) (l r : Int) : Bool := done.any fun y => decide (y.l = l) && decide (y.r = r)
/-- What is wrong with a merge behind others. -/
def badM (ws : List ByteArray) (done : List Mrg) (x : Mrg) : Int :=
  if x.i < 256 ∨ 256 + (ws.length : Int) ≤ x.i ∨ isId done x.i = true then 24
  else if madeB done x.l = false ∨ madeB done x.r = false then 23
  else if (wordOf ws x.i).1 ≠ (wordOf ws x.l).1 ++ (wordOf ws x.r).1 then 25
  else if hasPair done x.l x.r = true then 22 else 0
def pairsGo (ws : List ByteArray) : Nat → List Mrg → List Mrg → Int × Int
  | _, _, [] => (0, 0)
  | i, done, x :: t => if badM ws done x = 0 then pairsGo ws (i + 1) (done ++ [x]) t else ((i : Int), badM ws done x)
def mkB (n : Nat) (done : List Mrg) : List Value := (List.range n).map fun (j : Nat) => Value.bool (isId done (256 + (j : Int)))
theorem mkB_length (n : Nat) (done : List Mrg) : (mkB n done).length = n := by simp [mkB]
theorem mkB_get (n : Nat) (done : List Mrg) (j : Nat) (h : j < n) : (mkB n done)[j]? = some (.bool (isId done (256 + (j : Int)))) := by simp [mkB, h]
theorem mkB_nil (n : Nat) : mkB n [] = List.replicate n (.bool false) := by
  apply List.ext_getElem?
  intro i
  by_cases hi : i < n
  · rw [mkB_get n [] i hi]; simp [hi, isId]
  · rw [List.getElem?_eq_none (by rw [mkB_length]; omega), List.getElem?_eq_none (by simp; omega)]
theorem mkB_set (n : Nat) (done : List Mrg) (x : Mrg) (j : Nat) (hj : j < n) (hx : x.i = 256 + (j : Int)) : (mkB n done).set j (.bool true) = mkB n (done ++ [x]) := by
  apply List.ext_getElem?
  intro i
  rw [List.getElem?_set, mkB_length]
  by_cases hi : i < n
  · rw [mkB_get n _ i hi, mkB_get n _ i hi]
    by_cases e : j = i
    · subst e
      rw [if_pos rfl, if_pos hi]
      simp [isId, hx]
    · rw [if_neg e]
      have : ¬ (x.i = 256 + (i : Int)) := by omega
      simp [isId, this]
  · rw [if_neg (by omega), List.getElem?_eq_none (by rw [mkB_length]; omega), List.getElem?_eq_none (by rw [mkB_length]; omega)]
def entsM : Nat → List Mrg → List (Value × Value)
  | _, [] => []
  | i, x :: t => (.agg #[.int .i64 x.l, .int .i64 x.r], .agg #[.int .i64 (i : Int), .int .i64 x.i]) :: entsM (i + 1) t
theorem entsM_snoc (i : Nat) (l : List Mrg) (x : Mrg) : entsM i (l ++ [x]) = entsM i l ++ [(.agg #[.int .i64 x.l, .int .i64 x.r], .agg #[.int .i64 ((i + l.length : Nat) : Int), .int .i64 x.i])] := by
  induction l generalizing i with
  | nil => rfl
  | cons y l ih => simp only [List.cons_append, entsM, ih, List.length_cons]; rw [show i + 1 + l.length = i + (l.length + 1) by omega]
theorem entsM_mem {i : Nat} {l : List Mrg} {p : Value × Value} (h : p ∈ entsM i l) : ∃ j x, l[j]? = some x ∧ p = (.agg #[.int .i64 x.l, .int .i64 x.r], .agg #[.int .i64 ((i + j : Nat) : Int), .int .i64 x.i]) := by
  induction l generalizing i with
  | nil => cases h
  | cons x l ih =>
    rcases List.mem_cons.1 h with rfl | h
    · exact ⟨0, x, by simp, rfl⟩
    · obtain ⟨j, y, hy, e⟩ := ih h
      exact ⟨j + 1, y, by simpa using hy, by rw [e, show i + 1 + j = i + (j + 1) by omega]⟩
theorem entsM_has {i : Nat} {l : List Mrg} {x y : Int} (h : hasPair l x y = true) : ∃ p ∈ entsM i l, p.1 = .agg #[.int .i64 x, .int .i64 y] := by
  induction l generalizing i with
  | nil => cases h
  | cons z l ih =>
    unfold hasPair at h
    rw [List.any_cons, Bool.or_eq_true] at h
    rcases h with h | h
    · simp at h
      exact ⟨_, List.mem_cons_self, by rw [h.1, h.2]⟩
    · obtain ⟨p, hp, e⟩ := ih (i := i + 1) h
      exact ⟨p, List.mem_cons_of_mem _ hp, e⟩

set_option maxRecDepth 100000 in
set_option maxHeartbeats 1000000 in
theorem part_any (w : World) (b0 b1 b2 a n c : Nat) (p : Option Addr) (done : List Mrg) (id : Int) (h0 : w.cell? ⟨b0, 0, none⟩ = some (.pointer (some ⟨a, 0, none⟩))) (h1 : w.cell? ⟨a, 0, none⟩ = some (.slice p n c)) (h2 : w.cell? ⟨b2, 0, none⟩ = some (.slice (some ⟨b1, 0, none⟩) n n))
    (h3 : Arr w 4 1 (some ⟨b1, 0, none⟩) n n (mkB n done)) (hin : ∀ y ∈ done, 256 ≤ y.i ∧ y.i < 256 + (n : Int)) (hn : n ≤ 140737488351232) :
    Calls Tryz.prog 87 #[.int .i64 id, .pointer (some ⟨b0, 0, none⟩), .pointer (some ⟨b2, 0, none⟩)] w fun e w' => e = .returned (.bool (madeB done id)) ∧ w = w' := by
  have SZ := Lib.hid (size_any w a p n c h1 hn)
  have H3 := Lib.hid h3
  have HIN := Lib.hid hin
  clear h1 h3 hin
  by_cases k0 : id < 0
  · have E := Lib.hid (show madeB done id = false by unfold madeB; rw [decide_eq_false (show ¬ 0 ≤ id by omega), decide_eq_false (show ¬ 256 ≤ id by omega)]; rfl)
    have d0 : decide (id ≥ 0) = false := decide_eq_false (by omega)
    have d1 : decide (id ≥ 256) = false := decide_eq_false (by omega)
    go_enter Tryz.func87, Tryz.ntmps87
    go_wp2_with fail
    go_ret
    exact ⟨by rw [E.out]; rfl, rfl⟩
  · have d0 : decide (id ≥ 0) = true := decide_eq_true (by omega)
    by_cases k1 : id < 256
    · have E := Lib.hid (show madeB done id = true by unfold madeB; rw [decide_eq_true (show 0 ≤ id by omega), decide_eq_true k1]; rfl)
      have d1 : decide (id < 256) = true := decide_eq_true k1
      go_enter Tryz.func87, Tryz.ntmps87
      go_wp2_with fail
      go_ret
      exact ⟨by rw [E.out]; rfl, rfl⟩
    · have d1 : decide (id < 256) = false := decide_eq_false k1
      have d2 : decide (id ≥ 256) = true := decide_eq_true (by omega)
      by_cases k2 : id < 256 + (n : Int)
      · have d3 : decide (id < 256 + (n : Int)) = true := decide_eq_true k2
        obtain ⟨j, hj⟩ : ∃ j : Nat, (id - 256).toNat = j := ⟨_, rfl⟩
        have c0 := (arr_cell H3.out j (by omega)).trans (mkB_get n done j (by omega))
        have E := Lib.hid (show madeB done id = isId done (256 + (j : Int)) by unfold madeB; rw [decide_eq_false k1, decide_eq_true (show 256 ≤ id by omega), Bool.and_false, Bool.false_or, Bool.true_and]; congr 1; omega)
        have i0 : 0 ≤ id - 256 := by omega
        have i1 : id - 256 < (n : Int) := by omega
        generalize isId done (256 + (j : Int)) = v at c0 E
        rw [← hj] at c0
        clear hj
        go_enter Tryz.func87, Tryz.ntmps87
        go_wp2_with fail
        refine SZ.out.mono ?_
        rintro e w' ⟨rfl, rfl⟩
        go_wp2_with fail
        go_ret
        exact ⟨by rw [E.out]; rfl, rfl⟩
      · have d3 : decide (id < 256 + (n : Int)) = false := decide_eq_false k2
        have E := Lib.hid (show madeB done id = false by
          unfold madeB
          rw [decide_eq_false k1, Bool.and_false, Bool.false_or]
          have : isId done id = false := by
            unfold isId
            rw [List.any_eq_false]
            intro y hy
            have := HIN.out y hy
            simp; omega
          rw [this, Bool.and_false])
        go_enter Tryz.func87, Tryz.ntmps87
        go_wp2_with fail
        refine SZ.out.mono ?_
        rintro e w' ⟨rfl, rfl⟩
        go_wp2_with fail
        go_ret
        exact ⟨by rw [E.out]; rfl, rfl⟩

/-- k merges are looked at, each fit. -/
structure PairsSt (w wr : World) (b2 a : Nat) (L : Pl) (d : Dat) (tp mp : Nat) (lg : Int) (k : Nat) : Prop where
  kl : k ≤ d.ms.length
  eq : pairsGo d.ws 0 [] d.ms = pairsGo d.ws k (d.ms.take k) (d.ms.drop k)
  map : MapAt wr mp (entsM 0 (d.ms.take k))
  row : Arr wr 4 1 (some ⟨w.heap.size + 1, 0, none⟩) d.ws.length d.ws.length (mkB d.ws.length (d.ms.take k))
  ext : Ext (fun k => k = mp) w wr
  q0 : wr.heap[w.heap.size]? = some (.cells #[.pointer (some ⟨a, 0, none⟩)] 27 (0, 0))
  q2 : wr.heap[b2]? = some (.cells #[.slice (some ⟨w.heap.size + 1, 0, none⟩) d.ws.length d.ws.length] 169 (0, 0))
  inr : ∀ y ∈ d.ms.take k, 256 ≤ y.i ∧ y.i < 256 + (d.ws.length : Int)
def PairsEnd (w : World) (d : Dat) (mp : Nat) (e : Ending) (w' : World) : Prop :=
  e = .returned (.tuple #[.int .i64 (pairsGo d.ws 0 [] d.ms).1, .int .i64 (pairsGo d.ws 0 [] d.ms).2]) ∧ Ext (fun k => k = mp) w w' ∧ ((pairsGo d.ws 0 [] d.ms).2 = 0 → MapAt w' mp (entsM 0 d.ms))
theorem PairsSt.bad {w wr W : World} {b2 a : Nat} {L : Pl} {d : Dat} {tp mp k : Nat} {lg : Int} (h : PairsSt w wr b2 a L d tp mp lg k) {x : Mrg} {y : Int} (hs : d.ms[k]? = some x) (hy : y ≠ 0) (hb : badM d.ws (d.ms.take k) x = y) (hx : Ext (fun _ => False) wr W) :
    PairsEnd w d mp (.returned (.tuple #[.int .i64 k, .int .i64 y])) W := by
  have hlt := (List.getElem?_eq_some_iff.1 hs).1
  have e : d.ms.drop k = x :: d.ms.drop (k + 1) := by rw [List.drop_eq_getElem_cons hlt]; congr 1; exact (List.getElem?_eq_some_iff.1 hs).2
  have e2 : pairsGo d.ws 0 [] d.ms = ((k : Int), y) := by rw [h.eq, e, pairsGo, hb, if_neg hy]
  exact ⟨by rw [e2], h.ext.trans hx (fun _ _ h => h.elim), fun h0 => absurd h0 (by rw [e2]; exact hy)⟩
/-- What a round reads. -/
structure PairsRd (w wr W : World) (b2 a : Nat) (L : Pl) (d : Dat) (mp k : Nat) (x : Mrg) : Prop where
  x0 : W.cell? ⟨wr.heap.size, 0, none⟩ = some (.int .i64 x.l)
  x1 : W.cell? ⟨wr.heap.size, 1, none⟩ = some (.int .i64 x.r)
  x2 : W.cell? ⟨wr.heap.size, 2, none⟩ = some (.int .i64 x.i)
  y0 : W.cell? ⟨wr.heap.size + 1, 0, none⟩ = some (.int .i64 x.l)
  y1 : W.cell? ⟨wr.heap.size + 1, 1, none⟩ = some (.int .i64 x.r)
  q0 : W.cell? ⟨w.heap.size, 0, none⟩ = some (.pointer (some ⟨a, 0, none⟩))
  q2 : W.cell? ⟨b2, 0, none⟩ = some (.slice (some ⟨w.heap.size + 1, 0, none⟩) d.ws.length d.ws.length)
  m0 : W.cell? ⟨a, 0, none⟩ = some (.slice L.p0 d.ws.length L.c0)
  m6 : W.cell? ⟨a, 6, none⟩ = some (.map (some mp))
  row : Arr W 4 1 (some ⟨w.heap.size + 1, 0, none⟩) d.ws.length d.ws.length (mkB d.ws.length (d.ms.take k))
  rd : Rd eS W L.p0 d.ws
  ext : Ext (fun _ => False) wr W
  sz : wr.heap.size + 1 < W.heap.size

theorem str_beq (a b : ByteArray) : (a.toList == b.toList) = decide (a = b) := by
  rw [ByteArray.toList_eq, ByteArray.toList_eq]
  by_cases h : a = b
  · subst h; simp
  · have h2 : a.data.toList ≠ b.data.toList := fun e => h (by
      cases a; cases b
      simp at e
      rw [e])
    rw [decide_eq_false h]
    simp only [beq_eq_false_iff_ne]
    exact h2
theorem made1 (v : Value) (n : Nat) (hc : v.cells = #[v]) : (madeCells v.cells n).toList = List.replicate n v := by
  rw [hc]
  apply List.ext_getElem?
  intro i
  by_cases hi : i < n
  · simp [madeCells, hi, Nat.mod_one]
  · rw [List.getElem?_eq_none (by simp [madeCells]; omega), List.getElem?_eq_none (by simp; omega)]
theorem PairsSt.reads {w wr : World} {b2 a : Nat} {L : Pl} {d : Dat} {tp mp k : Nat} {lg : Int} (h : PairsSt w wr b2 a L d tp mp lg k) (H : MB w a L d tp mp lg) (R : DR w L d) (hne : a ≠ mp) (hfar0 : ∀ k, blkOf L.p0 = some k → k ≠ mp) (x : Mrg) {t1 t2 : Nat} :
    PairsRd w wr ((wr.alloc (.cells #[.int .i64 x.l, .int .i64 x.r, .int .i64 x.i] t1)).alloc (.cells #[.int .i64 x.l, .int .i64 x.r] t2)) b2 a L d mp k x := by
  have hx : Ext (fun _ => False) wr ((wr.alloc (.cells #[.int .i64 x.l, .int .i64 x.r, .int .i64 x.i] t1)).alloc (.cells #[.int .i64 x.l, .int .i64 x.r] t2)) := ((Ext.refl _ _).alloc _).alloc _
  have b7 := blk_alloc (heap_alloc_new wr (.cells #[.int .i64 x.l, .int .i64 x.r, .int .i64 x.i] t1)) (.cells #[.int .i64 x.l, .int .i64 x.r] t2)
  have b8 := heap_alloc_new (wr.alloc (.cells #[.int .i64 x.l, .int .i64 x.r, .int .i64 x.i] t1)) (.cells #[.int .i64 x.l, .int .i64 x.r] t2)
  rw [World.size_alloc] at b8
  have hm := (H.on h.ext hne).on hx (fun h => h)
  exact ⟨blk_cell b7 0, blk_cell b7 1, blk_cell b7 2, blk_cell b8 0, blk_cell b8 1, blk_cell (hx.obj h.q0 (fun h => h)) 0, blk_cell (hx.obj h.q2 (fun h => h)) 0, hm.c0, hm.c6, arr_ext h.row hx (fun _ _ h => h), (R.r0.ext h.ext (fun i hi _ hS => hfar0 _ hi hS)).on hx, hx, by simp⟩
theorem PairsRd.on {w wr W W' : World} {b2 a : Nat} {L : Pl} {d : Dat} {mp k : Nat} {x : Mrg} (h : PairsRd w wr W b2 a L d mp k x) (hx : Ext (fun _ => False) W W') : PairsRd w wr W' b2 a L d mp k x := by
  have c : ∀ {p : Addr} {v : Value}, W.cell? p = some v → W'.cell? p = some v := fun {p v} e => (hx.cell (World.block_lt_of_cell? W p e) (fun h => h)).trans e
  exact ⟨c h.x0, c h.x1, c h.x2, c h.y0, c h.y1, c h.q0, c h.q2, c h.m0, c h.m6, arr_ext h.row hx (fun _ _ h => h), h.rd.on hx, h.ext.trans hx (fun _ _ h => h), Nat.lt_of_lt_of_le h.sz hx.size⟩
theorem PairsRd.put {w wr W W' : World} {b2 a : Nat} {L : Pl} {d : Dat} {mp k : Nat} {x : Mrg} (h : PairsRd w wr W b2 a L d mp k x) (hx : Ext (fun k => k = mp) W W') (h1 : mp < w.heap.size) (h2 : w.heap.size < b2) (h3 : w.heap.size ≤ wr.heap.size) (hne : a ≠ mp) :
    W'.cell? ⟨wr.heap.size, 2, none⟩ = some (.int .i64 x.i) ∧ W'.cell? ⟨b2, 0, none⟩ = some (.slice (some ⟨w.heap.size + 1, 0, none⟩) d.ws.length d.ws.length) ∧ Arr W' 4 1 (some ⟨w.heap.size + 1, 0, none⟩) d.ws.length d.ws.length (mkB d.ws.length (d.ms.take k)) := by
  have c : ∀ {p : Addr} {v : Value}, W.cell? p = some v → p.block ≠ mp → W'.cell? p = some v := fun {p v} e hn => (hx.cell (World.block_lt_of_cell? W p e) hn).trans e
  refine ⟨c h.x2 (by show wr.heap.size ≠ mp; omega), c h.q2 (by show b2 ≠ mp; omega), arr_ext h.row hx (fun k hk e => by simp at hk; omega)⟩
theorem PairsSt.step {w wr W w7 : World} {b2 a : Nat} {L : Pl} {d : Dat} {tp mp k j : Nat} {lg : Int} {x : Mrg} (h : PairsSt w wr b2 a L d tp mp lg k) (hs : d.ms[k]? = some x) (hb : badM d.ws (d.ms.take k) x = 0) (hx : Ext (fun _ => False) wr W) (hm : MapAt w7 mp (entsM 0 (d.ms.take k) ++ [(.agg #[.int .i64 x.l, .int .i64 x.r], .agg #[.int .i64 (k : Int), .int .i64 x.i])])) (hx7 : Ext (fun k => k = mp) W w7)
    (hj : x.i = 256 + (j : Int)) (hjl : j < d.ws.length) (h1 : mp < w.heap.size) (h2 : w.heap.size + 1 < b2) :
    PairsSt w (w7.setCell ⟨w.heap.size + 1, j, none⟩ (.bool true)) b2 a L d tp mp lg (k + 1) := by
  have hlt := (List.getElem?_eq_some_iff.1 hs).1
  have e : d.ms.drop k = x :: d.ms.drop (k + 1) := by rw [List.drop_eq_getElem_cons hlt]; congr 1; exact (List.getElem?_eq_some_iff.1 hs).2
  have et : d.ms.take (k + 1) = d.ms.take k ++ [x] := by rw [List.take_succ_eq_append_getElem hlt]; congr 2; exact (List.getElem?_eq_some_iff.1 hs).2
  have hxx := hx.mono (S' := fun k => k = mp) (fun _ h => h.elim)
  have hx8 : Ext (fun k => k = mp) wr w7 := hxx.trans hx7 (fun _ _ h => h)
  have hx9 : Ext (fun k => k = w.heap.size + 1) w7 (w7.setCell ⟨w.heap.size + 1, j, none⟩ (.bool true)) := (Ext.refl (fun k => k = w.heap.size + 1) w7).setCell (p := ⟨w.heap.size + 1, j, none⟩) (fun _ => rfl) _
  have hws := h.ext.size
  refine ⟨hlt, ?_, ?_, ?_, ?_, ?_, ?_, ?_⟩
  · rw [h.eq, e, pairsGo, if_pos hb, et]
  · rw [et, entsM_snoc, List.length_take, Nat.min_eq_left (by omega), Nat.zero_add]
    exact hm.ext hx9 (by omega)
  · rw [et, ← mkB_set _ _ x j hjl hj]
    exact arr_set (arr_ext h.row hx8 (fun k hk e => by simp at hk; omega)) j _
  · exact ((h.ext.trans hx8 (fun _ _ h => h)).trans hx9 (fun i hi h => by omega))
  · exact hx9.obj (hx8.obj h.q0 (by omega)) (by omega)
  · exact hx9.obj (hx8.obj h.q2 (by omega)) (by omega)
  · intro y hy
    rw [et] at hy
    rcases List.mem_append.1 hy with hy | hy
    · exact h.inr y hy
    · simp at hy
      subst hy
      omega
theorem size_q (w : World) (m : Nat) (a : Nat) (p : Option Addr) (n c : Nat) (h : w.cell? ⟨a, 0, none⟩ = some (.slice p n c)) (hn : n ≤ 140737488355328) (hn2 : n ≤ 140737488351232) :
    Calls Tryz.prog 39 #[.pointer (some ⟨a, 0, none⟩)] (w.drewN m) fun e w' => e = .returned (.int .i64 (256 + n)) ∧ w' = w.drewN m :=
  (size_any (w.drewN m) a p n c h hn2).mono fun e w' ⟨h1, h2⟩ => ⟨h1, h2.symm⟩
theorem pairs_n {w w1 : World} {a : Nat} {L : Pl} {d : Dat} {tp mp t : Nat} {lg : Int} (h : MB w a L d tp mp lg) (hx : Ext (fun _ => False) (w.alloc (.cells #[.pointer (some ⟨a, 0, none⟩)] t)) w1) :
    w1.cell? ⟨w.heap.size, 0, none⟩ = some (.pointer (some ⟨a, 0, none⟩)) ∧ w1.cell? ⟨a, 0, none⟩ = some (.slice L.p0 d.ws.length L.c0) ∧ w1.cell? ⟨a, 1, none⟩ = some (.slice L.p1 d.ms.length L.c1) ∧ w.heap.size < w1.heap.size ∧ a < w1.heap.size := by
  have hb := h.on (((Ext.refl (fun _ => False) w).alloc _).trans hx (fun _ _ h => h)) (fun h => h)
  have hb0 := hx.obj (heap_alloc_new w _) (fun h => h)
  exact ⟨blk_cell hb0 0, hb.c0, hb.c1, blk_lt hb0, blk_lt hb.blk⟩

set_option maxRecDepth 100000 in
set_option maxHeartbeats 4000000 in
theorem pairs_any (w : World) (a : Nat) (L : Pl) (d : Dat) (tp mp : Nat) (lg : Int) (h : MB w a L d tp mp lg) (hr : DR w L d) (hm : MapAt w mp []) (hne : a ≠ mp) (hfar0 : ∀ k, blkOf L.p0 = some k → k ≠ mp) (hfar1 : ∀ k, blkOf L.p1 = some k → k ≠ mp) (hn : d.ws.length ≤ 1099511627776) :
    Calls Tryz.prog 62 #[.pointer (some ⟨a, 0, none⟩)] w fun e w' => PairsEnd w d mp e w' := by
  have H := Lib.hid h
  have R := Lib.hid hr
  have FAR0 := Lib.hid hfar0
  have FAR1 := Lib.hid hfar1
  have HM := Lib.hid hm
  have NE := Lib.hid hne
  have e0 := h.c0
  have e1 := h.c1
  have hl := hr.b0
  have hl1 := hr.b1
  have ha := blk_lt h.blk
  have hmp := hm.lt
  clear h hr hfar0 hfar1 hm hne
  go_enter Tryz.func62, Tryz.ntmps62
  go_wp2_with (at_make; (refine arr_make rfl (.tmp 20) (.tmp 20) 169 4 1 1 (.bool false) rfl Tryz.underlying169 infoB .i64 .i64 _ _ d.ws.length rfl rfl rfl rfl (by omega) (by decide) rfl ?_); intro w1 hA hx1; have HA := Lib.hid hA; have hs1 := hx1.size; simp only [World.size_alloc] at hs1; have HX1 := Lib.hid hx1; obtain ⟨n0, n1, n2, l0, l1⟩ := pairs_n H.out hx1; clear hA hx1)
  obtain ⟨W0, hW0⟩ : ∃ W0, w1.alloc (.cells #[.slice (some ⟨w.heap.size + 1, 0, none⟩) d.ws.length d.ws.length] 169) = W0 := ⟨_, rfl⟩
  have S0 := Lib.hid (show PairsSt w W0 w1.heap.size a L d tp mp lg 0 from by
    have x1 := ((Ext.refl (fun _ => False) w).alloc (.cells #[.pointer (some ⟨a, 0, none⟩)] 27)).trans HX1.out (fun _ _ h => h)
    have x2 : Ext (fun _ => False) w1 W0 := by rw [← hW0]; exact (Ext.refl _ _).alloc _
    refine ⟨Nat.zero_le _, rfl, ?_, ?_, ?_, ?_, ?_, by simp⟩
    · exact HM.out.ext (x1.trans x2 (fun _ _ h => h)) (fun h => h)
    · have := arr_ext HA.out x2 (fun _ _ h => h)
      rw [List.take_zero, mkB_nil]
      simp only [World.size_alloc, Nat.mul_one] at this
      rwa [made1 _ _ rfl] at this
    · exact (x1.trans x2 (fun _ _ h => h)).mono (fun _ h => h.elim)
    · exact x2.obj (HX1.out.obj (heap_alloc_new w _) (fun h => h)) (fun h => h)
    · rw [← hW0]; exact heap_alloc_new w1 _)
  rw [hW0]
  obtain ⟨b2, hb2⟩ : ∃ b2, w1.heap.size = b2 := ⟨_, rfl⟩
  have hlt3 : w.heap.size + 1 < b2 := by
    have h5 := arr_lt HA.out (k := w.heap.size + 1) (by simp)
    omega
  have hlt2 : w.heap.size < b2 := by omega
  rw [hb2] at S0 ⊢
  clear hW0 HA HX1 n0 n1 n2 l0 l1 hs1 hb2
  go_loopw [29] (fun i wr => ∃ k : Nat, i = .int .i64 k ∧ PairsSt w wr b2 a L d tp mp lg k) (fun i _ => d.ms.length - (intOf i).toNat)
  case atStart => exact ⟨0, rfl, S0.out⟩
  case round =>
    obtain ⟨k, rfl, hst⟩ := hrel
    have ST := Lib.hid hst
    have hk := hst.kl
    clear hst S0
    by_cases hlt : k < d.ms.length
    · obtain ⟨x, hs⟩ : ∃ x, d.ms[k]? = some x := ⟨_, List.getElem?_eq_getElem hlt⟩
      have HS := Lib.hid hs
      have EX := Lib.hid (show Ext (fun k => k = mp) w wr from ST.out.ext)
      obtain ⟨b, o, hp, hb, c0, c1, c2⟩ := (R.out.r1.ext ST.out.ext (fun i hi _ hS => FAR1.out _ hi hS)).cellM hs
      have i1 : (k : Int) < (d.ms.length : Int) := by omega
      clear hs
      rw [hp]
      go_wp2_with fail
      have RD := Lib.hid (ST.out.reads H.out R.out NE.out FAR0.out x (t1 := 125) (t2 := 171))
      obtain ⟨W1, hW1⟩ : ∃ W1, (wr.alloc (.cells #[.int .i64 x.l, .int .i64 x.r, .int .i64 x.i] 125)).alloc (.cells #[.int .i64 x.l, .int .i64 x.r] 171) = W1 := ⟨_, rfl⟩
      rw [hW1] at RD ⊢
      clear hW1 c0 c1 c2 hb e0
      obtain ⟨x0, x1, x2, y0, y1, q0, q2, m0, m6, _, _, _, _⟩ := RD.out
      have SQ := Lib.hid (fun m => size_q W1 m a L.p0 d.ws.length L.c0 m0 (by omega) (by omega))
      by_cases hA1 : x.i < 256
      · have d1 : decide (x.i < 256) = true := decide_eq_true hA1
        go_quiet (fail)
        go_wp2_with fail
        go_ret2
        exact ST.out.bad HS.out (by decide) (by unfold badM; rw [if_pos (.inl hA1)]) (RD.out.ext.drewN _)
      · have d1 : decide (x.i < 256) = false := decide_eq_false hA1
        by_cases hA2 : 256 + (d.ws.length : Int) ≤ x.i
        · have d2 : decide (x.i ≥ 256 + (d.ws.length : Int)) = true := decide_eq_true hA2
          go_quiet ((go_at_call 39; exact Calls.quiet_of_same (SQ.out _)))
          go_wp2_with fail
          go_ret2
          exact ST.out.bad HS.out (by decide) (by unfold badM; rw [if_pos (.inr (.inl hA2))]) (RD.out.ext.drewN _)
        · have d2 : decide (x.i ≥ 256 + (d.ws.length : Int)) = false := decide_eq_false hA2
          obtain ⟨j, hj⟩ : ∃ j : Nat, (x.i - 256).toNat = j := ⟨_, rfl⟩
          have r0 := (arr_cell RD.out.row j (by omega)).trans (mkB_get d.ws.length (d.ms.take k) j (by omega))
          rw [show (256 : Int) + (j : Int) = x.i by omega] at r0
          have hj0 : 0 ≤ x.i - 256 := by omega
          have hj1 : x.i - 256 < (d.ws.length : Int) := by omega
          have HJ := Lib.hid hj
          rw [← hj] at r0
          clear hj
          by_cases hA3 : isId (d.ms.take k) x.i = true
          · rw [hA3] at r0
            go_quiet ((go_at_call 39; exact Calls.quiet_of_same (SQ.out _)))
            go_wp2_with fail
            go_ret2
            exact ST.out.bad HS.out (by decide) (by unfold badM; rw [if_pos (.inr (.inr hA3))]) (RD.out.ext.drewN _)
          · have hA3' : isId (d.ms.take k) x.i = false := by simpa using hA3
            rw [hA3'] at r0
            have NA := Lib.hid (show ¬ (x.i < 256 ∨ 256 + (d.ws.length : Int) ≤ x.i ∨ isId (d.ms.take k) x.i = true) from fun h => h.elim hA1 (fun h => h.elim hA2 hA3))
            go_quiet ((go_at_call 39; exact Calls.quiet_of_same (SQ.out _)))
            go_wp2_with fail
            obtain ⟨W2, hW2⟩ : ∃ W2, W1.drewN nq = W2 := ⟨_, rfl⟩
            have RD2 := Lib.hid (show PairsRd w wr W2 b2 a L d mp k x from by rw [← hW2]; exact RD.out.on ((Ext.refl _ _).drewN nq))
            rw [hW2]
            clear hW2 x0 x1 x2 y0 y1 q0 q2 m0 m6 r0 SQ
            obtain ⟨x0, x1, x2, y0, y1, q0, q2, m0, m6, _, _, _, _⟩ := RD2.out
            have PA := Lib.hid (fun id => part_any W2 w.heap.size (w.heap.size + 1) b2 a d.ws.length L.c0 L.p0 (d.ms.take k) id q0 m0 q2 RD2.out.row ST.out.inr (by omega))
            cases hB1 : madeB (d.ms.take k) x.l with
            | false =>
              have P1 := PA.out x.l
              rw [hB1] at P1
              have P1 := Lib.hid P1
              refine P1.out.mono ?_
              rintro e w' ⟨rfl, rfl⟩
              go_wp2_with fail
              go_ret2
              exact ST.out.bad HS.out (by decide) (by unfold badM; rw [if_neg NA.out, if_pos (.inl hB1)]) RD2.out.ext
            | true =>
              have P1 := PA.out x.l
              rw [hB1] at P1
              have P1 := Lib.hid P1
              have HB1 := Lib.hid hB1
              cases hB2 : madeB (d.ms.take k) x.r with
              | false =>
                have P2 := PA.out x.r
                rw [hB2] at P2
                have P2 := Lib.hid P2
                have HB2 := Lib.hid hB2
                clear hB1 hB2
                refine P1.out.mono ?_
                rintro e w' ⟨rfl, rfl⟩
                go_wp2_with fail
                refine P2.out.mono ?_
                rintro e w' ⟨rfl, rfl⟩
                go_wp2_with fail
                go_ret2
                exact ST.out.bad HS.out (by decide) (by unfold badM; rw [if_neg NA.out, if_pos (.inr HB2.out)]) RD2.out.ext
              | true =>
                have P2 := PA.out x.r
                rw [hB2] at P2
                have P2 := Lib.hid P2
                have HB2 := Lib.hid hB2
                have NB := Lib.hid (show ¬ (madeB (d.ms.take k) x.l = false ∨ madeB (d.ms.take k) x.r = false) from by rw [hB1, hB2]; simp)
                clear hB1 hB2
                refine P1.out.mono ?_
                rintro e w' ⟨rfl, rfl⟩
                go_wp2_with fail
                refine P2.out.mono ?_
                rintro e w' ⟨rfl, rfl⟩
                go_wp2_with fail
                obtain ⟨sl, esl⟩ : ∃ s, (wordOf d.ws x.l).1 = s := ⟨_, rfl⟩
                obtain ⟨bl, ebl⟩ : ∃ s, (wordOf d.ws x.l).2 = s := ⟨_, rfl⟩
                obtain ⟨sr, esr⟩ : ∃ s, (wordOf d.ws x.r).1 = s := ⟨_, rfl⟩
                obtain ⟨br, ebr⟩ : ∃ s, (wordOf d.ws x.r).2 = s := ⟨_, rfl⟩
                have zl := wordOf_size d.ws R.out.z0 x.l
                have zr := wordOf_size d.ws R.out.z0 x.r
                have C1 := word_any W2 a L.p0 L.c0 d.ws x.l m0 RD2.out.rd (by omega)
                rw [esl, ebl] at C1
                rw [esl] at zl
                rw [esr] at zr
                have C1 := Lib.hid C1
                refine C1.out.mono ?_
                rintro e W3 ⟨rfl, hx3⟩
                have RD3 := Lib.hid (RD2.out.on hx3)
                clear hx3 x0 x1 x2 y0 y1 q0 q2 m0 m6
                obtain ⟨x0, x1, x2, y0, y1, q0, q2, m0, m6, _, _, _, _⟩ := RD3.out
                have C2 := word_any W3 a L.p0 L.c0 d.ws x.r m0 RD3.out.rd (by omega)
                rw [esr, ebr] at C2
                have C2 := Lib.hid C2
                have EW := Lib.hid (And.intro esl esr)
                clear esl esr ebl ebr
                go_wp2_with fail
                refine C2.out.mono ?_
                rintro e W4 ⟨rfl, hx4⟩
                have RD4 := Lib.hid (RD3.out.on hx4)
                clear hx4 x0 x1 x2 y0 y1 q0 q2 m0 m6 C1 C2 P1 P2 PA
                obtain ⟨x0, x1, x2, y0, y1, q0, q2, m0, m6, _, _, _, _⟩ := RD4.out
                go_wp2_with fail
                obtain ⟨xw, hxw⟩ : ∃ xw, d.ws[(x.i - 256).toNat]? = some xw := ⟨_, List.getElem?_eq_getElem (by omega)⟩
                obtain ⟨bw, ow, hp0, hbw, cw⟩ := RD4.out.rd.cellS hxw
                have EX := Lib.hid (show (wordOf d.ws x.i).1 = xw from by
                  have := wordOf_word hxw
                  rw [show (((x.i - 256).toNat : Nat) : Int) + 256 = x.i by omega] at this
                  rw [this])
                rw [hp0] at m0
                clear hxw hp0
                have zs : sl.size + sr.size ≤ 9223372036854775807 := by omega
                by_cases hC : xw = sl ++ sr
                · have hq := str_beq xw (sl ++ sr)
                  rw [decide_eq_true hC] at hq
                  have HC := Lib.hid hC
                  clear hC
                  go_quiet (fail)
                  go_wp2_with fail
                  obtain ⟨W5, hW5⟩ : ∃ W5, W4.drewN nq = W5 := ⟨_, rfl⟩
                  have RD5 := Lib.hid (show PairsRd w wr W5 b2 a L d mp k x from by rw [← hW5]; exact RD4.out.on ((Ext.refl _ _).drewN nq))
                  rw [hW5]
                  clear hW5 x0 x1 x2 y0 y1 q0 q2 m0 m6 cw hbw hq
                  obtain ⟨x0, x1, x2, y0, y1, q0, q2, m0, m6, _, _, _, hsz5⟩ := RD5.out
                  have l0 := World.block_lt_of_cell? W5 _ x0
                  have l1 := World.block_lt_of_cell? W5 _ y0
                  have l2 := World.block_lt_of_cell? W5 _ q0
                  have l3 := World.block_lt_of_cell? W5 _ m6
                  simp only at l0 l1 l2 l3
                  have hM5 := ST.out.map.ext RD5.out.ext (fun h => h)
                  have hok : ∀ p ∈ entsM 0 (d.ms.take k), ∃ a b : Int, p.1 = .agg #[.int .i64 a, .int .i64 b] := fun p hp => by
                    obtain ⟨j, y, _, e⟩ := entsM_mem hp
                    exact ⟨y.l, y.r, by rw [e]⟩
                  have hmp5 := hM5.lt
                  rcases run_look_u (P := Tryz.prog) Tryz.underlying121 pairFit pairFind hM5 hok (.agg #[.int .i64 x.l, .int .i64 x.r]) (.agg #[.int .i64 0, .int .i64 0]) ⟨_, _, rfl⟩ (fun W => by kernel_rfl) with ⟨v, hv, hrun⟩ | ⟨hno, hrun⟩
                  · obtain ⟨j, y, hy, ev⟩ := entsM_mem hv
                    simp at ev
                    obtain ⟨⟨ex1, ex2⟩, rfl⟩ := ev
                    have hp22 : hasPair (d.ms.take k) x.l x.r = true := by
                      unfold hasPair
                      rw [List.any_eq_true]
                      exact ⟨y, List.mem_of_getElem? hy, by simp [ex1, ex2]⟩
                    have BM := Lib.hid (show badM d.ws (d.ms.take k) x = 22 from by
                      unfold badM
                      rw [if_neg NA.out, if_neg NB.out, if_neg (by rw [EX.out, EW.out.1, EW.out.2, HC.out]; simp), if_pos hp22])
                    have hr1 := hrun W5.drew rfl
                    have hr2 := hrun (W5.alloc (.cells #[.int .i64 0, .int .i64 0] 173)).drew (Below.heap_alloc _ _ _ hmp5)
                    clear hrun hok hM5 hv hy ex1 ex2 hp22
                    go_region
                    all_goals
                      go_wp2_with fail
                      go_ret2
                      refine ST.out.bad HS.out (by decide) BM.out (RD5.out.ext.trans ?_ (fun _ _ h => h))
                      repeat (first | exact Ext.refl _ _ | refine Ext.drew ?_ | refine Ext.alloc ?_ _)
                  · have hr1 := hrun W5.drew rfl
                    have hr2 := hrun (W5.alloc (.cells #[.int .i64 0, .int .i64 0] 173)).drew (Below.heap_alloc _ _ _ hmp5)
                    have HNO := Lib.hid hno
                    have HOK := Lib.hid hok
                    have HM5 := Lib.hid hM5
                    clear hrun hno hok hM5
                    go_region
                    all_goals
                      go_wp2_with fail
                      obtain ⟨W6, hW6⟩ : ∃ W6, (W5.alloc (.cells #[.int .i64 0, .int .i64 0] 173)).drew = W6 := ⟨_, rfl⟩
                      have X56 : Ext (fun _ => False) W5 W6 := by rw [← hW6]; exact ((Ext.refl _ _).alloc _).drew
                      have RD6 := Lib.hid (RD5.out.on X56)
                      rw [hW6]
                      have HM6 := HM5.out.ext X56 (fun h => h)
                      obtain ⟨w7, hput, hm7, hx7⟩ := run_put (P := Tryz.prog) (w := W6.drew) Tryz.underlying121 pairFit HM6 HOK.out (.agg #[.int .i64 x.l, .int .i64 x.r]) (.agg #[.int .i64 k, .int .i64 x.i]) ⟨_, _, rfl⟩ HNO.out
                      have HX7 := Lib.hid hx7.undrew
                      have HM7 := Lib.hid hm7
                      clear hW6 x0 x1 x2 y0 y1 q0 q2 m0 m6 hr1 hr2 X56 HM6 hm7 hx7
                      obtain ⟨x0, x1, x2, y0, y1, q0, q2, m0, m6, _, _, _, hsz6⟩ := RD6.out
                      go_still_tail 9, (by kernel_rfl)
                      change wpList _ _ _ _ _ W6.drew
                      have BM := Lib.hid (show badM d.ws (d.ms.take k) x = 0 from by
                        unfold badM
                        rw [if_neg NA.out, if_neg NB.out, if_neg (by rw [EX.out, EW.out.1, EW.out.2, HC.out]; simp), if_neg (fun h => by
                          obtain ⟨p, hp, e⟩ := entsM_has (i := 0) h
                          exact HNO.out p hp e)])
                      have hwr := ST.out.ext.size
                      obtain ⟨z2, z3, z4⟩ := RD6.out.put HX7.out hmp hlt2 hwr NE.out
                      have T := Lib.hid (ST.out.step (j := (x.i - 256).toNat) HS.out BM.out RD6.out.ext HM7.out HX7.out (by omega) (by omega) hmp hlt3)
                      have z5 := arr_cell z4 (x.i - 256).toNat (by omega)
                      have z6 := arr_frozen z4 (x.i - 256).toNat
                      rw [mkB_get _ _ _ (by omega)] at z5
                      clear z4
                      go_wp2_with fail
                      go_roundw
                      case rel => exact ⟨k + 1, by go_num, T.out⟩
                      case measure => simp [intOf]; omega
                · have hq := str_beq xw (sl ++ sr)
                  rw [decide_eq_false hC] at hq
                  have HC := Lib.hid hC
                  clear hC
                  go_quiet (fail)
                  go_wp2_with fail
                  go_ret2
                  exact ST.out.bad HS.out (by decide) (by unfold badM; rw [if_neg NA.out, if_neg NB.out, if_pos (by rw [EX.out, EW.out.1, EW.out.2]; exact HC.out)]) (RD4.out.ext.drewN _)
    · have hk2 : k = d.ms.length := by omega
      have E : pairsGo d.ws 0 [] d.ms = (0, 0) := by rw [ST.out.eq, hk2, List.drop_length]; rfl
      have HE := Lib.hid E
      have HK := Lib.hid hk2
      clear E hk2
      go_wp2_with fail
      go_ret2
      refine ⟨by rw [HE.out]; rfl, ST.out.ext, fun _ => ?_⟩
      have := ST.out.map
      rw [HK.out, List.take_length] at this
      exact this
end Go.Proofs.YtigpaaelggnffaaGreatDoor.Sl
