/- model.copied: data in new memory. -/
import Derived.Test.YtbepmbihonnkaaaSpanPure
import Derived.Deep.RegionHeld3
import Derived.Deep.DeepCutAuto
namespace Go.Proofs.Ytbepmbihonnkaaa.Sl
open Go.Proofs.Ytbepmbihonnkaaa.Lib
open Go.RowKit
set_option linter.unusedVariables false
set_option linter.unusedSimpArgs false

/-- Data in rows of the call's own, from base on. -/
structure DO (base : Nat) (w : World) (L : Pl) (d : Dat) : Prop where
  a0 : Arr w 9 1 L.p0 d.ws.length L.c0 (flat eS d.ws)
  a1 : Arr w 35 3 L.p1 d.ms.length L.c1 (flat eM d.ms)
  a2 : Arr w 94 2 L.p2 d.ls.length L.c2 (flat eP d.ls)
  a3 : Arr w 94 2 L.p3 d.ns.length L.c3 (flat eP d.ns)
  a4 : Arr w 94 2 L.p4 d.ss.length L.c4 (flat eP d.ss)
  n0 : ∀ k, blkOf L.p0 = some k → base ≤ k
  n1 : ∀ k, blkOf L.p1 = some k → base ≤ k
  n2 : ∀ k, blkOf L.p2 = some k → base ≤ k
  n3 : ∀ k, blkOf L.p3 = some k → base ≤ k
  n4 : ∀ k, blkOf L.p4 = some k → base ≤ k
theorem DO.on {base : Nat} {w w' : World} {L : Pl} {d : Dat} (h : DO base w L d) (hx : Ext (fun _ => False) w w') : DO base w' L d :=
  { h with a0 := arr_ext h.a0 hx (fun _ _ h => h), a1 := arr_ext h.a1 hx (fun _ _ h => h), a2 := arr_ext h.a2 hx (fun _ _ h => h), a3 := arr_ext h.a3 hx (fun _ _ h => h), a4 := arr_ext h.a4 hx (fun _ _ h => h) }
theorem DO.reads {base : Nat} {w w0 : World} {L L0 : Pl} {d : Dat} (h : DO base w L d) (h0 : DR w0 L0 d) : DR w L d :=
  ⟨Rd.of_arr (E := eS) h.a0, Rd.of_arr (E := eM) h.a1, Rd.of_arr (E := eP) h.a2, Rd.of_arr (E := eP) h.a3, Rd.of_arr (E := eP) h.a4, (arr_cap h.a0).1, (arr_cap h.a1).1, (arr_cap h.a2).1, (arr_cap h.a3).1, (arr_cap h.a4).1, h0.b0, h0.b1, h0.b2, h0.b3, h0.b4, h0.z0, h0.f1⟩
def Copied (w : World) (d : Dat) (e : Ending) (w' : World) : Prop := ∃ L : Pl, e = .returned (.agg #[.slice L.p0 d.ws.length L.c0, .slice L.p1 d.ms.length L.c1, .slice L.p2 d.ls.length L.c2, .slice L.p3 d.ns.length L.c3, .slice L.p4 d.ss.length L.c4]) ∧ DO w.heap.size w' L d ∧ Ext (fun _ => False) w w'

theorem DR.old {w w' : World} {L : Pl} {d : Dat} {T : Nat → Prop} (h : DR w L d) (hx : Ext T w w') (hT : ∀ k, T k → w.heap.size ≤ k) : DR w' L d :=
  have n : ∀ k, k < w.heap.size → ¬ T k := fun k hk h => by have := hT k h; omega
  { h with r0 := h.r0.ext hx (fun k _ => n k), r1 := h.r1.ext hx (fun k _ => n k), r2 := h.r2.ext hx (fun k _ => n k), r3 := h.r3.ext hx (fun k _ => n k), r4 := h.r4.ext hx (fun k _ => n k) }
/-- What a cell of block r holds, whatever it is. -/
def valAt (w : World) (r j : Nat) : Value := (w.cell? ⟨r, j, none⟩).getD undef
def ResB (w : World) (r t n : Nat) : Prop := ∃ cs : Array Value, w.heap[r]? = some (.cells cs t (0, 0)) ∧ cs.size = n
theorem ResB.cell {w : World} {r t n : Nat} (h : ResB w r t n) (j : Nat) (hj : j < n) : w.cell? ⟨r, j, none⟩ = some (valAt w r j) := by
  obtain ⟨cs, hc, hs⟩ := h
  unfold valAt
  rw [blk_cell hc, Array.getElem?_eq_getElem (by omega)]
  rfl
theorem ResB.frozen {w : World} {r t n : Nat} (h : ResB w r t n) (j : Nat) : w.frozen? ⟨r, j, none⟩ = false := by
  obtain ⟨cs, hc, hs⟩ := h
  exact blk_frozen hc j
theorem ResB.set {w : World} {r t n : Nat} (h : ResB w r t n) (j : Nat) (u : Value) : ResB (w.setCell ⟨r, j, none⟩ u) r t n := by
  obtain ⟨cs, hc, hs⟩ := h
  exact ⟨_, blk_set hc j u, by simpa using hs⟩
theorem ResB.on {w w' : World} {r t n : Nat} (h : ResB w r t n) (hx : Ext (fun _ => False) w w') : ResB w' r t n := by
  obtain ⟨cs, hc, hs⟩ := h
  exact ⟨cs, hx.obj hc (fun h => h), hs⟩
theorem ResB.set5 {w : World} {r t : Nat} (h : ResB w r t 5) (v0 v1 v2 v3 v4 : Value) : (((((w.setCell ⟨r, 0, none⟩ v0).setCell ⟨r, 1, none⟩ v1).setCell ⟨r, 2, none⟩ v2).setCell ⟨r, 3, none⟩ v3).setCell ⟨r, 4, none⟩ v4).heap[r]? = some (.cells #[v0, v1, v2, v3, v4] t (0, 0)) := by
  obtain ⟨cs, hc, hs⟩ := h
  obtain ⟨a, b, c, d, e, rfl⟩ : ∃ a b c d e, cs = #[a, b, c, d, e] := by
    obtain ⟨l⟩ := cs
    match l, hs with
    | [a, b, c, d, e], _ => exact ⟨a, b, c, d, e, rfl⟩
  have h0 : (w.setCell ⟨r, 0, none⟩ v0).heap[r]? = some (.cells #[v0, b, c, d, e] t (0, 0)) := blk_set hc 0 v0
  generalize w.setCell ⟨r, 0, none⟩ v0 = w0 at h0 ⊢
  have h1 : (w0.setCell ⟨r, 1, none⟩ v1).heap[r]? = some (.cells #[v0, v1, c, d, e] t (0, 0)) := blk_set h0 1 v1
  generalize w0.setCell ⟨r, 1, none⟩ v1 = w1 at h1 ⊢
  have h2 : (w1.setCell ⟨r, 2, none⟩ v2).heap[r]? = some (.cells #[v0, v1, v2, d, e] t (0, 0)) := blk_set h1 2 v2
  generalize w1.setCell ⟨r, 2, none⟩ v2 = w2 at h2 ⊢
  have h3 : (w2.setCell ⟨r, 3, none⟩ v3).heap[r]? = some (.cells #[v0, v1, v2, v3, e] t (0, 0)) := blk_set h2 3 v3
  generalize w2.setCell ⟨r, 3, none⟩ v3 = w3 at h3 ⊢
  exact blk_set h3 4 v4
theorem set5_ext {w : World} {r : Nat} (v0 v1 v2 v3 v4 : Value) : Ext (fun k => k = r) w (((((w.setCell ⟨r, 0, none⟩ v0).setCell ⟨r, 1, none⟩ v1).setCell ⟨r, 2, none⟩ v2).setCell ⟨r, 3, none⟩ v3).setCell ⟨r, 4, none⟩ v4) :=
  ((((((Ext.refl (fun k => k = r) w).setCell (p := ⟨r, 0, none⟩) (fun _ => rfl) v0).setCell (p := ⟨r, 1, none⟩) (fun _ => rfl) v1).setCell (p := ⟨r, 2, none⟩) (fun _ => rfl) v2).setCell (p := ⟨r, 3, none⟩) (fun _ => rfl) v3).setCell (p := ⟨r, 4, none⟩) (fun _ => rfl) v4)
theorem keepS {C : Prop} {T : Nat → Prop} {W w1 w2 : World} {r t n : Nat} (x : Ext (fun _ => False) w1 w2) (h : C ∧ (Ext T W w1 ∧ ResB w1 r t n)) : Ext T W w2 ∧ ResB w2 r t n :=
  ⟨h.2.1.trans x (fun _ _ h => h.elim), h.2.2.on x⟩

set_option maxRecDepth 100000 in
set_option maxHeartbeats 8000000 in
theorem copied_any (w : World) (L : Pl) (d : Dat) (h : DR w L d) : Calls Try.prog 49 #[.agg #[.slice L.p0 d.ws.length L.c0, .slice L.p1 d.ms.length L.c1, .slice L.p2 d.ls.length L.c2, .slice L.p3 d.ns.length L.c3, .slice L.p4 d.ss.length L.c4]] w fun e w' => Copied w d e w' := by
  have H := Lib.hid h
  clear h
  go_enter Try.func49, Try.ntmps49
  go_wp2_with fail
  obtain ⟨W, hW⟩ : ∃ W, (w.alloc (.cells #[.slice L.p0 d.ws.length L.c0, .slice L.p1 d.ms.length L.c1, .slice L.p2 d.ls.length L.c2, .slice L.p3 d.ns.length L.c3, .slice L.p4 d.ss.length L.c4] 26)).alloc (.cells #[.slice none 0 0, .slice none 0 0, .slice none 0 0, .slice none 0 0, .slice none 0 0] 26) = W := ⟨_, rfl⟩
  have hx : Ext (fun _ => False) w W := by rw [← hW]; exact ((Ext.refl _ _).alloc _).alloc _
  have hb : W.heap[w.heap.size]? = some (.cells #[.slice L.p0 d.ws.length L.c0, .slice L.p1 d.ms.length L.c1, .slice L.p2 d.ls.length L.c2, .slice L.p3 d.ns.length L.c3, .slice L.p4 d.ss.length L.c4] 26 (0, 0)) := by rw [← hW]; exact blk_alloc (heap_alloc_new w _) _
  have hb2 : W.heap[w.heap.size + 1]? = some (.cells #[.slice none 0 0, .slice none 0 0, .slice none 0 0, .slice none 0 0, .slice none 0 0] 26 (0, 0)) := by
    rw [← hW]
    have := heap_alloc_new (w.alloc (.cells #[.slice L.p0 d.ws.length L.c0, .slice L.p1 d.ms.length L.c1, .slice L.p2 d.ls.length L.c2, .slice L.p3 d.ns.length L.c3, .slice L.p4 d.ss.length L.c4] 26)) (.cells #[.slice none 0 0, .slice none 0 0, .slice none 0 0, .slice none 0 0, .slice none 0 0] 26)
    rw [World.size_alloc] at this
    exact this
  rw [hW]
  clear hW
  have mkS : ∀ w', (Ext (fun k => k = w.heap.size + 1) W w' ∧ ResB w' (w.heap.size + 1) 26 5) → (w'.cell? ⟨w.heap.size, 0, none⟩ = some (.slice L.p0 d.ws.length L.c0) ∧ w'.cell? ⟨w.heap.size, 1, none⟩ = some (.slice L.p1 d.ms.length L.c1) ∧ w'.cell? ⟨w.heap.size, 2, none⟩ = some (.slice L.p2 d.ls.length L.c2) ∧
      w'.cell? ⟨w.heap.size, 3, none⟩ = some (.slice L.p3 d.ns.length L.c3) ∧ w'.cell? ⟨w.heap.size, 4, none⟩ = some (.slice L.p4 d.ss.length L.c4) ∧
      w'.cell? ⟨w.heap.size + 1, 0, none⟩ = some (valAt w' (w.heap.size + 1) 0) ∧ w'.frozen? ⟨w.heap.size + 1, 0, none⟩ = false ∧ w'.cell? ⟨w.heap.size + 1, 1, none⟩ = some (valAt w' (w.heap.size + 1) 1) ∧ w'.frozen? ⟨w.heap.size + 1, 1, none⟩ = false ∧ w'.cell? ⟨w.heap.size + 1, 2, none⟩ = some (valAt w' (w.heap.size + 1) 2) ∧ w'.frozen? ⟨w.heap.size + 1, 2, none⟩ = false ∧ w'.cell? ⟨w.heap.size + 1, 3, none⟩ = some (valAt w' (w.heap.size + 1) 3) ∧ w'.frozen? ⟨w.heap.size + 1, 3, none⟩ = false ∧ w'.cell? ⟨w.heap.size + 1, 4, none⟩ = some (valAt w' (w.heap.size + 1) 4) ∧ w'.frozen? ⟨w.heap.size + 1, 4, none⟩ = false) ∧ (Ext (fun k => k = w.heap.size + 1) W w' ∧ ResB w' (w.heap.size + 1) 26 5) := fun w' e =>
    have b := e.1.obj hb (by show ¬ (w.heap.size = w.heap.size + 1); omega)
    ⟨⟨blk_cell b 0, blk_cell b 1, blk_cell b 2, blk_cell b 3, blk_cell b 4, e.2.cell 0 (by decide), e.2.frozen 0, e.2.cell 1 (by decide), e.2.frozen 1, e.2.cell 2 (by decide), e.2.frozen 2, e.2.cell 3 (by decide), e.2.frozen 3, e.2.cell 4 (by decide), e.2.frozen 4⟩, e⟩
  have MS := Lib.hid mkS
  have HX := Lib.hid (show ∀ w' : World, (Ext (fun k => k = w.heap.size + 1) W w' ∧ ResB w' (w.heap.size + 1) 26 5) → Ext (fun k => k = w.heap.size + 1) w w' from fun w' h => (hx.mono (fun _ h => h.elim)).trans h.1 (fun i hi e => e))
  have SZ := Lib.hid (blk_lt hb2)
  have OLD := Lib.hid (show ∀ k, k = w.heap.size + 1 → w.heap.size ≤ k from fun k h => by omega)
  have B0 := Lib.hid (show Ext (fun k => k = w.heap.size + 1) W W.drew ∧ ResB W.drew (w.heap.size + 1) 26 5 from ⟨Ext.drew (Ext.refl _ _), ⟨_, hb2, rfl⟩⟩)
  clear hb hb2 mkS hx
  go_region_held3 (fun w' => (w'.cell? ⟨w.heap.size, 0, none⟩ = some (.slice L.p0 d.ws.length L.c0) ∧ w'.cell? ⟨w.heap.size, 1, none⟩ = some (.slice L.p1 d.ms.length L.c1) ∧ w'.cell? ⟨w.heap.size, 2, none⟩ = some (.slice L.p2 d.ls.length L.c2) ∧
      w'.cell? ⟨w.heap.size, 3, none⟩ = some (.slice L.p3 d.ns.length L.c3) ∧ w'.cell? ⟨w.heap.size, 4, none⟩ = some (.slice L.p4 d.ss.length L.c4) ∧
      w'.cell? ⟨w.heap.size + 1, 0, none⟩ = some (valAt w' (w.heap.size + 1) 0) ∧ w'.frozen? ⟨w.heap.size + 1, 0, none⟩ = false ∧ w'.cell? ⟨w.heap.size + 1, 1, none⟩ = some (valAt w' (w.heap.size + 1) 1) ∧ w'.frozen? ⟨w.heap.size + 1, 1, none⟩ = false ∧ w'.cell? ⟨w.heap.size + 1, 2, none⟩ = some (valAt w' (w.heap.size + 1) 2) ∧ w'.frozen? ⟨w.heap.size + 1, 2, none⟩ = false ∧ w'.cell? ⟨w.heap.size + 1, 3, none⟩ = some (valAt w' (w.heap.size + 1) 3) ∧ w'.frozen? ⟨w.heap.size + 1, 3, none⟩ = false ∧ w'.cell? ⟨w.heap.size + 1, 4, none⟩ = some (valAt w' (w.heap.size + 1) 4) ∧ w'.frozen? ⟨w.heap.size + 1, 4, none⟩ = false) ∧ (Ext (fun k => k = w.heap.size + 1) W w' ∧ ResB w' (w.heap.size + 1) 26 5))
    (first | exact MS.out _ (by assumption) | exact MS.out _ B0.out | exact MS.out _ ⟨(((((E5.1.setCell (fun _ => rfl) _).setCell (fun _ => rfl) _).setCell (fun _ => rfl) _).setCell (fun _ => rfl) _).setCell (fun _ => rfl) _), ((((E5.2.set 0 _).set 1 _).set 2 _).set 3 _).set 4 _⟩)
    (first
      | (go_at_call 61; (with_reducible refine (cloneS _ L.p0 L.c0 d.ws ?_ H.out.b0).mono ?_); (exact (H.out.old (HX.out _ (And.right (by assumption))) OLD.out).r0); rintro e w1 ⟨q0, k0, rfl, A0, x1, n0⟩; have n0 := Lib.hid n0; have E1 := keepS x1 (by assumption))
      | (go_at_call 62; (with_reducible refine (cloneM _ L.p1 L.c1 d.ms ?_ H.out.b1).mono ?_); (exact (H.out.old (HX.out _ (And.right (by assumption))) OLD.out).r1); rintro e w2 ⟨q1, k1, rfl, A1, x2, n1⟩; have n1 := Lib.hid n1; have E2 := keepS x2 (by assumption))
      | (go_at_call 63; (with_reducible refine (cloneP _ L.p2 L.c2 d.ls ?_ H.out.b2).mono ?_); (exact (H.out.old (HX.out _ (And.right (by assumption))) OLD.out).r2); rintro e w3 ⟨q2, k2, rfl, A2, x3, n2⟩; have n2 := Lib.hid n2; have E3 := keepS x3 (by assumption))
      | (go_at_call 63; (with_reducible refine (cloneP _ L.p3 L.c3 d.ns ?_ H.out.b3).mono ?_); (exact (H.out.old (HX.out _ (And.right (by assumption))) OLD.out).r3); rintro e w4 ⟨q3, k3, rfl, A3, x4, n3⟩; have n3 := Lib.hid n3; have E4 := keepS x4 (by assumption))
      | (go_at_call 63; (with_reducible refine (cloneP _ L.p4 L.c4 d.ss ?_ H.out.b4).mono ?_); (exact (H.out.old (HX.out _ (And.right (by assumption))) OLD.out).r4); rintro e w5 ⟨q4, k4, rfl, A4, x5, n4⟩; have n4 := Lib.hid n4; have E5 := keepS x5 (by assumption)))
  go_wp2_with fail
  obtain ⟨F, hF⟩ : ∃ F, (((((w5.setCell ⟨w.heap.size + 1, 0, none⟩ (.slice q0 d.ws.length k0)).setCell ⟨w.heap.size + 1, 1, none⟩ (.slice q1 d.ms.length k1)).setCell ⟨w.heap.size + 1, 2, none⟩ (.slice q2 d.ls.length k2)).setCell ⟨w.heap.size + 1, 3, none⟩ (.slice q3 d.ns.length k3)).setCell ⟨w.heap.size + 1, 4, none⟩ (.slice q4 d.ss.length k4)) = F := ⟨_, rfl⟩
  have R := ResB.set5 E5.2 (.slice q0 d.ws.length k0) (.slice q1 d.ms.length k1) (.slice q2 d.ls.length k2) (.slice q3 d.ns.length k3) (.slice q4 d.ss.length k4)
  have X := set5_ext (w := w5) (r := w.heap.size + 1) (.slice q0 d.ws.length k0) (.slice q1 d.ms.length k1) (.slice q2 d.ls.length k2) (.slice q3 d.ns.length k3) (.slice q4 d.ss.length k4)
  rw [hF] at R X ⊢
  have r0 := blk_cell R 0
  have r1 := blk_cell R 1
  have r2 := blk_cell R 2
  have r3 := blk_cell R 3
  have r4 := blk_cell R 4
  simp at r0 r1 r2 r3 r4
  have SZ := SZ.out
  have s1 : W.heap.size ≤ w1.heap.size := x1.size
  have s2 := x2.size
  have s3 := x3.size
  have s4 := x4.size
  refine bodyPost_ret (v := .agg #[.slice (Pl.mk q0 k0 q1 k1 q2 k2 q3 k3 q4 k4).p0 d.ws.length (Pl.mk q0 k0 q1 k1 q2 k2 q3 k3 q4 k4).c0, .slice (Pl.mk q0 k0 q1 k1 q2 k2 q3 k3 q4 k4).p1 d.ms.length (Pl.mk q0 k0 q1 k1 q2 k2 q3 k3 q4 k4).c1, .slice (Pl.mk q0 k0 q1 k1 q2 k2 q3 k3 q4 k4).p2 d.ls.length (Pl.mk q0 k0 q1 k1 q2 k2 q3 k3 q4 k4).c2, .slice (Pl.mk q0 k0 q1 k1 q2 k2 q3 k3 q4 k4).p3 d.ns.length (Pl.mk q0 k0 q1 k1 q2 k2 q3 k3 q4 k4).c3, .slice (Pl.mk q0 k0 q1 k1 q2 k2 q3 k3 q4 k4).p4 d.ss.length (Pl.mk q0 k0 q1 k1 q2 k2 q3 k3 q4 k4).c4]) (by simp [results, Try.f49, go_sem, r0, r1, r2, r3, r4]) rfl ⟨⟨q0, k0, q1, k1, q2, k2, q3, k3, q4, k4⟩, rfl, ?_, ?_⟩
  · have n0 := n0.out
    have n1 := n1.out
    have n2 := n2.out
    have n3 := n3.out
    have n4 := n4.out
    have e2 := x2.trans (x3.trans (x4.trans x5 (fun _ _ h => h)) (fun _ _ h => h)) (fun _ _ h => h)
    have e3 := x3.trans (x4.trans x5 (fun _ _ h => h)) (fun _ _ h => h)
    have e4 := x4.trans x5 (fun _ _ h => h)
    have m0 : ∀ k, blkOf q0 = some k → W.heap.size ≤ k := fun k hk => n0 k hk
    exact ⟨arr_ext (arr_ext A0 e2 (fun _ _ h => h)) X (fun k hk h => by have := m0 k hk; omega), arr_ext (arr_ext A1 e3 (fun _ _ h => h)) X (fun k hk h => by have := n1 k hk; omega), arr_ext (arr_ext A2 e4 (fun _ _ h => h)) X (fun k hk h => by have := n2 k hk; omega),
      arr_ext (arr_ext A3 x5 (fun _ _ h => h)) X (fun k hk h => by have := n3 k hk; omega), arr_ext A4 X (fun k hk h => by have := n4 k hk; omega),
      fun k hk => by have := m0 k hk; omega, fun k hk => by have := n1 k hk; omega, fun k hk => by have := n2 k hk; omega, fun k hk => by have := n3 k hk; omega, fun k hk => by have := n4 k hk; omega⟩
  · exact ((HX.out _ E5).trans X (fun i hi h => h)).mono_old (fun k hk h => by omega)
end Go.Proofs.Ytbepmbihonnkaaa.Sl
