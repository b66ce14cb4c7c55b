/- The document's pre-tokens, walked: tesseraref12.Of, Tokens. -/
import Derived.Test.YtigpaaelggnffaaGreatDoorRef12T
import Derived.Test.YtigpaaelggnffaaGreatDoorHeapBa
import Derived.Test.YtigpaaelggnffaaGreatDoorWithin1
namespace Go.Proofs.YtigpaaelggnffaaGreatDoor.R2
open Go.RowKit Go.Proofs.YtigpaaelggnffaaGreatDoor.Lib Go.Proofs.YtigpaaelggnffaaGreatDoor.Sl Go.Proofs.YtigpaaelggnffaaGreatDoor.Cut Go.Proofs.YtigpaaelggnffaaGreatDoorW.PrintLast
set_option linter.unusedVariables false
set_option linter.unusedSimpArgs false

def eTk : En Tok := ⟨3, fun x => [.int .i64 x.a, .int .i64 x.b, .int .i64 x.so], by decide, fun _ => rfl, by simp [Value.oneCell']⟩
theorem infoTk : (Tryz.prog.info? 96).map (fun i => (i.zero, i.size, i.bytes)) = some (some (.agg #[.int .i64 0, .int .i64 0, .int .i64 0]), 3, 24) := by kernel_rfl
/-- Of the pre-tokens those ahead of byte k are there; i items are gone through. -/
structure OfSt (w wr : World) (d : Dat) (s : ByteArray) (done : List Tok) (i k : Nat) (p : Option Addr) (c : Nat) : Prop where
  arr : Arr wr 96 3 p done.length c (flat eTk done)
  ext : Ext (fun _ => False) w wr
  fr : ∀ k, blkOf p = some k → w.heap.size ≤ k
  le : k ≤ s.size
  il : i ≤ (items s).length
  tk : ∃ f, toks d s = done ++ toksGo d s f k ∧ s.size - k ≤ f
  it : ∃ f, (items s).drop i = itemsGo s f k ∧ s.size - k ≤ f
  few : done.length ≤ k
/-- What the next pre-token is, told of the items. -/
structure NxTok (d : Dat) (s : ByteArray) (i k m : Nat) (so : Int) (y : Cut.Item) : Prop where
  m1 : 1 ≤ m
  ml : i + m ≤ (items s).length
  lt : k < s.size
  fst : ∃ x, (items s)[i]? = some x ∧ x.at_ = k
  lst : (items s)[i + m - 1]? = some y
  tok : tokAt d s k = ⟨k, y.at_ + y.n, so⟩
  nx : ∃ f, (items s).drop (i + m) = itemsGo s f (y.at_ + y.n) ∧ s.size - (y.at_ + y.n) ≤ f
  yl : y.at_ + y.n ≤ s.size
theorem OfSt.tokN {w wr : World} {d : Dat} {s : ByteArray} {done : List Tok} {i k : Nat} {p : Option Addr} {c : Nat} (h : OfSt w wr d s done i k p c) (hsp : kindOf d.ls d.ns d.ss 32 = 3) (hi : i < (items s).length) : ∃ y, NxTok d s i k (nextR d ((items s).drop i)).1 (nextR d ((items s).drop i)).2 y := by
  obtain ⟨f, e1, e2⟩ := h.it
  have hne : (items s).drop i ≠ [] := fun e => by
    have := congrArg List.length e
    rw [List.length_drop, List.length_nil] at this
    omega
  have hk : k < s.size := by
    by_cases hk : k < s.size
    · exact hk
    · rw [itemsGo_end (by omega)] at e1
      exact absurd e1 hne
  have hbd := nextR_bd d hne
  have hnx := next_eq hsp hk e2
  rw [← e1] at hnx
  obtain ⟨m, hm⟩ : ∃ m, (nextR d ((items s).drop i)).1 = m := ⟨_, rfl⟩
  rw [hm] at hbd hnx ⊢
  rw [List.length_drop] at hbd
  have hl : m - 1 < ((items s).drop i).length := by rw [List.length_drop]; omega
  obtain ⟨y, hy⟩ : ∃ y, ((items s).drop i)[m - 1]? = some y := ⟨_, List.getElem?_eq_getElem hl⟩
  have hsum := sumI_next hy
  rw [show m - 1 + 1 = m by omega] at hsum
  have hat : y = itemAt s (k + sumI ((items s).drop i) (m - 1)) := by
    have h2 := hy
    rw [e1] at h2
    have := (items_at e2 h.le h2).2
    rw [← e1] at this
    exact this
  have hya : y.at_ + y.n = k + sumI ((items s).drop i) m := by
    have : y.at_ = k + sumI ((items s).drop i) (m - 1) := by
      conv => lhs; rw [hat]
      rfl
    omega
  obtain ⟨f2, g1, g2, g3⟩ := itemsGo_skip (m := m) e2 h.le (by rw [← e1, List.length_drop]; omega)
  rw [← e1] at g1 g2 g3
  obtain ⟨f1, c1, _⟩ := itemsGo_cons hk e2
  refine ⟨y, by omega, by omega, hk, ⟨itemAt s k, ?_, rfl⟩, ?_, ?_, ⟨f2, ?_, ?_⟩, by omega⟩
  · have : ((items s).drop i)[0]? = some (itemAt s k) := by rw [e1, c1]; rfl
    rw [List.getElem?_drop] at this
    exact this
  · rw [List.getElem?_drop] at hy
    rw [← hy]
    congr 1
    omega
  · unfold tokAt
    rw [hnx]
    simp only [Tok.mk.injEq, and_true, true_and]
    omega
  · rw [hya, ← g1, List.drop_drop]
  · rw [hya]; exact g2
theorem OfSt.next {w wr w1 w2 : World} {d : Dat} {s : ByteArray} {done : List Tok} {i k m kb : Nat} {so : Int} {p p1 : Option Addr} {c c1 : Nat} {y : Cut.Item} (h : OfSt w wr d s done i k p c) (hn : NxTok d s i k m so y) (hkb : y.at_ + y.n = kb) (hA : Arr w2 96 3 p1 (done.length + 1) c1 (flat eTk done ++ [.int .i64 k, .int .i64 kb, .int .i64 so])) (hx1 : Ext (fun _ => False) wr w1) (hx2 : Ext (fun b => blkOf p = some b) w1 w2) (hm : Moved w1 p p1) : OfSt w w2 d s (done ++ [⟨k, kb, so⟩]) (i + m) kb p1 c1 ∧ (done ++ [(⟨k, kb, so⟩ : Tok)]).length = done.length + 1 := by
  subst hkb
  have hb := tokAt_bd (d := d) hn.lt
  rw [hn.tok] at hb
  refine ⟨⟨?_, (h.ext.trans hx1 (fun _ _ h => h)).trans hx2 (fun i hi e => by have := h.fr i e; omega), fun j hj => ?_, hn.yl, hn.ml, ?_, hn.nx, ?_⟩, by simp⟩
  · rw [flat_append, flat_one, List.length_append]
    exact hA
  · rcases hm j hj with e | e
    · exact h.fr j e
    · have := h.ext.size; have := hx1.size; omega
  · obtain ⟨f, h1, h2⟩ := h.tk
    obtain ⟨f', e1, e2⟩ := toksGo_cons (d := d) hn.lt h2
    rw [hn.tok] at e1 e2
    exact ⟨f', by rw [h1, e1]; simp, e2⟩
  · have := h.few
    rw [List.length_append, List.length_cons, List.length_nil]
    simp only at hb
    omega
def TokensEnd (w : World) (d : Dat) (s : ByteArray) (q : Option Addr) (cq : Nat) (w' : World) : Prop :=
  Arr w' 96 3 q (toks d s).length cq (flat eTk (toks d s)) ∧ Ext (fun _ => False) w w' ∧ ∀ k, blkOf q = some k → w.heap.size ≤ k
set_option maxRecDepth 100000 in
set_option maxHeartbeats 16000000 in
theorem of12_any (w : World) (L : Pl) (d : Dat) (h : DR w L d) (hf : FewC d) (hsp : kindOf d.ls d.ns d.ss 32 = 3) (s : ByteArray) (hs : s.size ≤ 1048576) (p : Option Addr) (c : Nat) (hr : Rd eIt w p (items s)) : Calls Tryz.prog 92 #[.agg #[.slice L.p0 d.ws.length L.c0, .slice L.p1 d.ms.length L.c1, .slice L.p2 d.ls.length L.c2, .slice L.p3 d.ns.length L.c3, .slice L.p4 d.ss.length L.c4], .slice p (items s).length c, .bool true] w fun e w' => ∃ (q : Option Addr) (cq : Nat) (n : Int), e = .returned (.tuple #[.slice q (toks d s).length cq, .int .i64 n]) ∧ TokensEnd w d s q cq w' := by
  have hil : (items s).length ≤ 1048576 := by
    have := itemsGo_len s s.size 0 (Nat.zero_le _)
    unfold items
    omega
  have hb := heap_alloc_new w (.cells #[.slice L.p0 d.ws.length L.c0, .slice L.p1 d.ms.length L.c1, .slice L.p2 d.ls.length L.c2, .slice L.p3 d.ns.length L.c3, .slice L.p4 d.ss.length L.c4] 26)
  have X0 := (Ext.refl (fun _ => False) w).alloc (.cells #[.slice L.p0 d.ws.length L.c0, .slice L.p1 d.ms.length L.c1, .slice L.p2 d.ls.length L.c2, .slice L.p3 d.ns.length L.c3, .slice L.p4 d.ss.length L.c4] 26)
  have NC := Lib.hid (fun (W : World) (hx : Ext (fun _ => False) w W) (i : Nat) (hi : i < (items s).length) => next12_any W L d (h.on hx) hf p c (items s) (hr.on hx) i hi hil)
  have HR := Lib.hid hr
  obtain ⟨W0, hW0⟩ : ∃ W0, w.alloc (.cells #[.slice L.p0 d.ws.length L.c0, .slice L.p1 d.ms.length L.c1, .slice L.p2 d.ls.length L.c2, .slice L.p3 d.ns.length L.c3, .slice L.p4 d.ss.length L.c4] 26) = W0 := ⟨_, rfl⟩
  rw [hW0] at X0 hb
  have CD := Lib.hid (show ∀ w', Ext (fun _ => False) W0 w' → w'.cell? ⟨w.heap.size, 0, none⟩ = some (.slice L.p0 d.ws.length L.c0) ∧ w'.cell? ⟨w.heap.size, 1, none⟩ = some (.slice L.p1 d.ms.length L.c1) ∧ w'.cell? ⟨w.heap.size, 2, none⟩ = some (.slice L.p2 d.ls.length L.c2) ∧ w'.cell? ⟨w.heap.size, 3, none⟩ = some (.slice L.p3 d.ns.length L.c3) ∧ w'.cell? ⟨w.heap.size, 4, none⟩ = some (.slice L.p4 d.ss.length L.c4) from fun w' hx => by
    have bb := hx.obj hb (fun h => h)
    exact ⟨blk_cell bb 0, blk_cell bb 1, blk_cell bb 2, blk_cell bb 3, blk_cell bb 4⟩)
  have XX := Lib.hid X0
  have HSP := Lib.hid hsp
  have HF := Lib.hid hf
  have I0 := Lib.hid (show items s = itemsGo s s.size 0 from rfl)
  obtain ⟨l, hl⟩ : ∃ l, items s = l := ⟨_, rfl⟩
  have HL := Lib.hid hl
  rw [hl] at hil HR I0
  simp only [hl] at NC
  rw [hl]
  clear h hr hb X0 hsp hf hl
  go_enter Tryz.func92, Tryz.ntmps92
  go_wp2_with fail
  try rw [hW0]
  clear hW0
  go_loopw [8, 9] (fun vl vi wr => ∃ (done : List Tok) (i k : Nat) (q : Option Addr) (cq : Nat), vl = .slice q done.length cq ∧ vi = .int .i64 i ∧ OfSt W0 wr d s done i k q cq) (fun _ vi _ => l.length - (intOf vi).toNat)
  case atStart => exact ⟨[], 0, 0, none, 0, rfl, rfl, arr_nil _ _ _, Ext.refl _ _, (fun j hj => by cases hj), Nat.zero_le _, Nat.zero_le _, ⟨s.size, rfl, by omega⟩, ⟨s.size, rfl, by omega⟩, Nat.le_refl _⟩
  case round =>
    obtain ⟨done, i, k, q, cq, rfl, rfl, hst⟩ := hrel
    have ST := Lib.hid hst
    have hfew := hst.few
    have hle := hst.le
    have hil2 := hst.il
    rw [HL.out] at hil2
    have cd := CD.out _ hst.ext
    obtain ⟨d0, d1, d2, d3, d4⟩ := cd
    obtain ⟨nd, hnd⟩ : ∃ nd, done.length = nd := ⟨_, rfl⟩
    have ND := Lib.hid hnd
    rw [hnd] at hfew
    rw [hnd]
    have A0 := Lib.hid (show Arr wr 96 3 q nd cq (flat eTk done) from by rw [← hnd]; exact hst.arr)
    clear hst hnd
    by_cases hlt : i < l.length
    · have i1 : (i : Int) < (l.length : Int) := by omega
      obtain ⟨y, hy⟩ := ST.out.tokN HSP.out (by rw [HL.out]; exact hlt)
      have NXC := NC.out wr (XX.out.trans ST.out.ext (fun _ _ h => h)) i hlt
      unfold NextEnd at NXC
      rw [HL.out] at hy
      obtain ⟨⟨m, so⟩, hms⟩ : ∃ t, nextR d (l.drop i) = t := ⟨_, rfl⟩
      rw [hms] at hy NXC
      simp only at hy NXC
      have NXC := Lib.hid NXC
      have NY := Lib.hid hy
      have m1 := hy.m1
      have ml := hy.ml
      have yl := hy.yl
      have hk := hy.lt
      rw [HL.out] at ml
      obtain ⟨x, hx, hxa⟩ := hy.fst
      have hlst := hy.lst
      rw [HL.out] at hx hlst
      clear hms hy
      go_wp2_with fail
      refine NXC.out.mono ?_
      rintro e W1 ⟨rfl, hx1⟩
      have E1 := Lib.hid hx1
      have X1 := Lib.hid (XX.out.trans (ST.out.ext.trans hx1 (fun _ _ h => h)) (fun _ _ h => h))
      obtain ⟨b, o, hp, hpb, x0, _, _, _⟩ := cellIt (HR.out.on X1.out) hx
      subst hp
      obtain ⟨b', o', hp, hyb, y0, y1, y2, y3⟩ := cellIt (HR.out.on X1.out) hlst
      injection hp with hp
      injection hp with hp1 hp2
      subst hp1 hp2
      rw [hxa] at x0
      obtain ⟨ya, yn, yr, yb⟩ := y
      simp only at y0 y1 y2 y3 yl
      obtain ⟨t, ht⟩ : ∃ t, i + m - 1 = t := ⟨_, rfl⟩
      rw [ht] at y0 y1 y2 y3
      have j1 : (i : Int) + (m : Int) - 1 = (t : Int) := by omega
      have i2 : (t : Int) < (l.length : Int) := by omega
      obtain ⟨im, him⟩ : ∃ im, i + m = im := ⟨_, rfl⟩
      have j2 : (i : Int) + (m : Int) = (im : Int) := by omega
      have j3 : (im : Int) - 1 = (t : Int) := by omega
      have hw1 : IntKind.i64.wrap (t : Int) = (t : Int) := IntWalk.i64_in _ (by omega)
      have hw2 : IntKind.i64.wrap (im : Int) = (im : Int) := IntWalk.i64_in _ (by omega)
      have himl : im ≤ l.length := by omega
      have HIM := Lib.hid him
      clear hx hlst hxa ht him hx1 NXC d0 d1 d2 d3 d4
      go_upto_region 8 with (fail)
      obtain ⟨W2, hW2⟩ : ∃ W2, W1.alloc (.cells #[.int .i64 ya, .int .i64 yn, .int .i32 yr, .bool yb] 207) = W2 := ⟨_, rfl⟩
      have hob := heap_alloc_new W1 (.cells #[.int .i64 ya, .int .i64 yn, .int .i32 yr, .bool yb] 207)
      have X12 := (Ext.refl (fun _ => False) W1).alloc (.cells #[.int .i64 ya, .int .i64 yn, .int .i32 yr, .bool yb] 207)
      rw [hW2] at hob X12
      rw [hW2]
      have CE := Lib.hid (show ∀ w', Ext (fun _ => False) W2 w' → (w'.cell? ⟨b, o + i * 4, none⟩ = some (.int .i64 k) ∧ w'.cell? ⟨W1.heap.size, 0, none⟩ = some (.int .i64 ya) ∧ w'.cell? ⟨W1.heap.size, 1, none⟩ = some (.int .i64 yn)) from fun w' hx => by
        have bb := hx.obj hob (fun h => h)
        exact ⟨((X12.trans hx (fun _ _ h => h)).cell (p := ⟨b, _, none⟩) hpb (fun h => h)).trans x0, blk_cell bb 0, blk_cell bb 1⟩)
      have XE := Lib.hid (E1.out.trans X12 (fun _ _ h => h))
      obtain ⟨kb, hkb⟩ : ∃ kb, ya + yn = kb := ⟨_, rfl⟩
      have j4 : (ya : Int) + (yn : Int) = (kb : Int) := by omega
      have hw3 : IntKind.i64.wrap (kb : Int) = (kb : Int) := IntWalk.i64_in _ (by omega)
      have HKB := Lib.hid hkb
      have fin : ∀ (q3 : Option Addr) (cq3 : Nat) (w3 : World), Arr w3 96 3 q3 (nd + 1) cq3 (flat eTk done ++ [.int .i64 k, .int .i64 kb, .int .i64 so]) → Ext (fun j => blkOf q = some j) ((W2.alloc (.cells #[.int .i64 k, .int .i64 kb, .int .i64 so] 96)).drew) w3 → Moved ((W2.alloc (.cells #[.int .i64 k, .int .i64 kb, .int .i64 so] 96)).drew) q q3 → OfSt W0 w3 d s (done ++ [⟨k, kb, so⟩]) (i + m) kb q3 cq3 ∧ (done ++ [(⟨k, kb, so⟩ : Tok)]).length = done.length + 1 := fun q3 cq3 w3 hA hx hm =>
        ST.out.next NY.out HKB.out (by rw [ND.out]; exact hA) (XE.out.trans ((Ext.refl (fun _ => False) W2).alloc (.cells #[.int .i64 k, .int .i64 kb, .int .i64 so] 96)).drew (fun _ _ h => h)) hx hm
      have FIN := Lib.hid fin
      have A2 := Lib.hid (show Arr ((W2.alloc (.cells #[.int .i64 k, .int .i64 kb, .int .i64 so] 96)).drew) 96 3 q nd cq (flat eTk done) from arr_ext A0.out (XE.out.trans ((Ext.refl (fun _ => False) W2).alloc (.cells #[.int .i64 k, .int .i64 kb, .int .i64 so] 96)).drew (fun _ _ h => h)) (fun _ _ h => h))
      clear hW2 hob X12 hkb fin x0 y0 y1 y2 y3
      refine start_ (n := 16) (S := fun w' => w'.cell? ⟨b, o + i * 4, none⟩ = some (.int .i64 k) ∧ w'.cell? ⟨W1.heap.size, 0, none⟩ = some (.int .i64 ya) ∧ w'.cell? ⟨W1.heap.size, 1, none⟩ = some (.int .i64 yn)) (ds := [14]) (ls 16 0) (by kernel_rfl) rfl rfl (CE.out _ (Ext.refl _ _).drew) (fun hHeld => ?_)
      refine pure_ (i := 0) (N := some 38) (v := ?_) (a' := ?_) (ls 16 1) rfl rfl (by kernel_rfl) (fun _ _ _ h => h) (Or.inl ⟨by rfl, ?_⟩) ?_ ?_
      rotate_left
      · intro w'; go_simp; with_reducible rfl
      rotate_left
      · simp only [Act.put, List.setIfInBounds_toArray, List.set_cons_zero, List.set_cons_succ, i64_w, i32_w]; rfl
      refine pure_ (i := 1) (N := some 39) (v := ?_) (a' := ?_) (ls 16 3) rfl rfl (by kernel_rfl) (fun _ _ _ h => h) (Or.inl ⟨by rfl, ?_⟩) ?_ ?_
      rotate_left
      · intro w'; go_simp; with_reducible rfl
      rotate_left
      · simp only [Act.put, List.setIfInBounds_toArray, List.set_cons_zero, List.set_cons_succ, i64_w, i32_w]; rfl
      refine pure_ (i := 2) (N := some 40) (v := ?_) (a' := ?_) (ls 16 7) rfl rfl (by kernel_rfl) (fun _ _ _ h => h) (Or.inl ⟨by rfl, ?_⟩) ?_ ?_
      rotate_left
      · intro w'; go_simp; with_reducible rfl
      rotate_left
      · simp only [Act.put, List.setIfInBounds_toArray, List.set_cons_zero, List.set_cons_succ, i64_w, i32_w]; rfl
      refine pure_ (i := 3) (N := some 41) (v := ?_) (a' := ?_) (ls 16 15) rfl rfl (by kernel_rfl) (fun _ _ _ h => h) (Or.inl ⟨by rfl, ?_⟩) ?_ ?_
      rotate_left
      · intro w'; go_simp; with_reducible rfl
      rotate_left
      · simp only [Act.put, List.setIfInBounds_toArray, List.set_cons_zero, List.set_cons_succ, i64_w, i32_w]; rfl
      refine pure_ (i := 4) (N := some 42) (v := ?_) (a' := ?_) (ls 16 31) rfl rfl (by kernel_rfl) (fun _ _ _ h => h) (Or.inl ⟨by rfl, ?_⟩) ?_ ?_
      rotate_left
      · intro w'; go_simp; with_reducible rfl
      rotate_left
      · simp only [Act.put, List.setIfInBounds_toArray, List.set_cons_zero, List.set_cons_succ, i64_w, i32_w]; rfl
      refine pure_ (i := 6) (N := some 44) (v := ?_) (a' := ?_) (ls 16 95) rfl rfl (by kernel_rfl) (fun _ _ _ h => h) (Or.inl ⟨by rfl, ?_⟩) ?_ ?_
      rotate_left
      · intro w'; go_simp; with_reducible rfl
      rotate_left
      · simp only [Act.put, List.setIfInBounds_toArray, List.set_cons_zero, List.set_cons_succ, i64_w, i32_w]; rfl
      refine pure_ (i := 8) (N := some 46) (v := ?_) (a' := ?_) (ls 16 351) rfl rfl (by kernel_rfl) (fun _ _ _ h => h) (Or.inl ⟨by rfl, ?_⟩) ?_ ?_
      rotate_left
      · intro w'; go_simp; with_reducible rfl
      rotate_left
      · simp only [Act.put, List.setIfInBounds_toArray, List.set_cons_zero, List.set_cons_succ, i64_w, i32_w]; rfl
      refine pure_ (i := 11) (N := some 49) (v := ?_) (a' := ?_) (ls 16 2399) rfl rfl (by kernel_rfl) (fun _ _ _ h => h) (Or.inl ⟨by rfl, ?_⟩) ?_ ?_
      rotate_left
      · intro w'; go_simp; with_reducible rfl
      rotate_left
      · simp only [Act.put, List.setIfInBounds_toArray, List.set_cons_zero, List.set_cons_succ, i64_w, i32_w]; rfl
      refine take_ (i := 5) (N := some 43) (v := ?_) (a' := ?_) (ls 16 2431) rfl rfl (by kernel_rfl) (fun _ _ _ h => h) (Or.inl ⟨by rfl, ?_⟩) hHeld ?_ ?_
      rotate_left
      · rintro w' ⟨s0, s1, s2⟩; go_simp; with_reducible rfl
      rotate_left
      · simp only [Act.put, List.setIfInBounds_toArray, List.set_cons_zero, List.set_cons_succ, i64_w, i32_w]; rfl
      refine take_ (i := 7) (N := some 45) (v := ?_) (a' := ?_) (ls 16 2559) rfl rfl (by kernel_rfl) (fun _ _ _ h => h) (Or.inl ⟨by rfl, ?_⟩) hHeld ?_ ?_
      rotate_left
      · rintro w' ⟨s0, s1, s2⟩; go_simp; with_reducible rfl
      rotate_left
      · simp only [Act.put, List.setIfInBounds_toArray, List.set_cons_zero, List.set_cons_succ, i64_w, i32_w]; rfl
      refine take_ (i := 9) (N := some 47) (v := ?_) (a' := ?_) (ls 16 3071) rfl rfl (by kernel_rfl) (fun _ _ _ h => h) (Or.inl ⟨by rfl, ?_⟩) hHeld ?_ ?_
      rotate_left
      · rintro w' ⟨s0, s1, s2⟩; go_simp; with_reducible rfl
      rotate_left
      · simp only [Act.put, List.setIfInBounds_toArray, List.set_cons_zero, List.set_cons_succ, i64_w, i32_w]; rfl
      refine pure_ (i := 10) (N := some 48) (v := ?_) (a' := ?_) (ls 16 4095) rfl rfl (by kernel_rfl) (fun _ _ _ h => h) (Or.inl ⟨by rfl, ?_⟩) ?_ ?_
      rotate_left
      · intro w'; go_simp; with_reducible rfl
      rotate_left
      · simp only [Act.put, List.setIfInBounds_toArray, List.set_cons_zero, List.set_cons_succ, i64_w, i32_w]; rfl
      refine pure_ (i := 12) (N := some 50) (v := ?_) (a' := ?_) (ls 16 8191) rfl rfl (by kernel_rfl) (fun _ _ _ h => h) (Or.inl ⟨by rfl, ?_⟩) ?_ ?_
      rotate_left
      · intro w'; go_simp; with_reducible rfl
      rotate_left
      · simp only [Act.put, List.setIfInBounds_toArray, List.set_cons_zero, List.set_cons_succ, i64_w, i32_w]; rfl
      refine one_ (i := 13) (N := some 51) (ls 16 16383) rfl rfl (by kernel_rfl) (by decide) (fun K hK => ?_)
      refine value_ (w1 := ?_) (v := ?_) (by rfl) rfl ?_ ?_
      rotate_left 2
      · go_simp
        constructor
        · rfl
        · rfl
      refine hK.out _ _ (CE.out _ ((Ext.refl _ _).drew.alloc _)) (fun hHeld => ?_)
      clear hK K
      refine norm_ (a' := ?_) ?_ ?_
      rotate_left
      · simp only [Act.put, List.setIfInBounds_toArray, List.set_cons_zero, List.set_cons_succ, i64_w, i32_w]; rfl
      refine last_ (i := 14) (N := some 52) (ls 16 32767) rfl rfl (by kernel_rfl) (by decide) (fun K hK => ?_)
      refine arr_append_stepN (N := some 52) rfl (by rfl) (.tmp 38) (.tmp 51) 135 96 3 24 (.agg #[.int .i64 0, .int .i64 0, .int .i64 0]) rfl Tryz.underlying135 infoTk rfl (by decide) (by decide) q nd cq (flat eTk done) rfl (some ⟨W2.heap.size, 0, none⟩) 1 1 rfl [.int .i64 k, .int .i64 kb, .int .i64 so] rfl (fun ad h => by injection h with h; subst h; exact World.news_of_block (heap_alloc_new _ _)) (fun h => by cases h) (by simp [Value.oneCell']) A2.out (by omega) ?_
      intro q3 cq3 w3 hA3 hx3 hm3
      have NX := Lib.hid (FIN.out q3 cq3 w3 hA3 hx3 hm3)
      clear hA3 hx3 hm3
      refine hK.out _ _ ?_
      clear hK K
      refine norm_ (a' := ?_) ?_ ?_
      rotate_left
      · simp only [Act.put, List.setIfInBounds_toArray, List.set_cons_zero, List.set_cons_succ, i64_w, i32_w]; rfl
      refine pure_ (i := 15) (N := some 8) (v := ?_) (a' := ?_) (ls 16 65535) rfl rfl (by kernel_rfl) (fun _ _ _ h => h) (Or.inl ⟨by rfl, ?_⟩) ?_ ?_
      rotate_left
      · intro w'; go_simp; with_reducible rfl
      rotate_left
      · simp only [Act.put, List.setIfInBounds_toArray, List.set_cons_zero, List.set_cons_succ, i64_w, i32_w]; rfl
      refine done_ (by kernel_rfl) ?_
      go_wp2_with fail
      go_roundw
      case rel => exact ⟨done ++ [⟨k, kb, so⟩], i + m, kb, q3, cq3, by rw [NX.out.2, ND.out], by first | rfl | (rw [HIM.out]; done) | (rw [HIM.out]; go_num) | go_num, NX.out.1⟩
      case measure => have := HIM.out; simp [intOf]; omega
    · have i1 : ¬ (i : Int) < (l.length : Int) := by omega
      have E := Lib.hid (show toks d s = done from by
        obtain ⟨f, h1, h2⟩ := ST.out.it
        rw [HL.out, List.drop_eq_nil_of_le (by omega)] at h1
        have hk : s.size ≤ k := by
          by_cases hk : k < s.size
          · obtain ⟨f', e1, _⟩ := itemsGo_cons hk h2
            rw [e1] at h1
            cases h1
          · omega
        obtain ⟨f, h3, _⟩ := ST.out.tk
        rw [h3, toksGo_end hk, List.append_nil])
      have XF := Lib.hid (XX.out.trans ST.out.ext (fun _ _ h => h))
      go_wp2_with fail
      go_ret2
      refine ⟨q, cq, ⟨(i : Int), by rw [E.out, ND.out]; rfl⟩, ?_, XF.out, fun j hj => ?_⟩
      · rw [E.out]
        exact ST.out.arr
      · have := ST.out.fr j hj
        have := XX.out.size
        omega
set_option maxRecDepth 100000 in
set_option maxHeartbeats 4000000 in
theorem tokens_any (w : World) (L : Pl) (d : Dat) (h : DR w L d) (hf : FewC d) (hsp : kindOf d.ls d.ns d.ss 32 = 3) (s : ByteArray) (hs : s.size ≤ 1048576) : Calls Tryz.prog 66 #[.agg #[.slice L.p0 d.ws.length L.c0, .slice L.p1 d.ms.length L.c1, .slice L.p2 d.ls.length L.c2, .slice L.p3 d.ns.length L.c3, .slice L.p4 d.ss.length L.c4], .string s] w fun e w' => ∃ q cq, e = .returned (.slice q (toks d s).length cq) ∧ TokensEnd w d s q cq w' := by
  have hb := heap_alloc_new w (.cells #[.slice L.p0 d.ws.length L.c0, .slice L.p1 d.ms.length L.c1, .slice L.p2 d.ls.length L.c2, .slice L.p3 d.ns.length L.c3, .slice L.p4 d.ss.length L.c4] 26)
  have X0 := (Ext.refl (fun _ => False) w).alloc (.cells #[.slice L.p0 d.ws.length L.c0, .slice L.p1 d.ms.length L.c1, .slice L.p2 d.ls.length L.c2, .slice L.p3 d.ns.length L.c3, .slice L.p4 d.ss.length L.c4] 26)
  have OC := Lib.hid (fun (W : World) (hx : Ext (fun _ => False) w W) (p : Option Addr) (c : Nat) (hr : Rd eIt W p (items s)) => of12_any W L d (h.on hx) hf hsp s hs p c hr)
  have IC := Lib.hid (items_any s hs)
  obtain ⟨W0, hW0⟩ : ∃ W0, w.alloc (.cells #[.slice L.p0 d.ws.length L.c0, .slice L.p1 d.ms.length L.c1, .slice L.p2 d.ls.length L.c2, .slice L.p3 d.ns.length L.c3, .slice L.p4 d.ss.length L.c4] 26) = W0 := ⟨_, rfl⟩
  rw [hW0] at X0 hb
  have CD := Lib.hid (show ∀ w', Ext (fun _ => False) W0 w' → (w'.cell? ⟨w.heap.size, 0, none⟩ = some (.slice L.p0 d.ws.length L.c0) ∧ w'.cell? ⟨w.heap.size, 1, none⟩ = some (.slice L.p1 d.ms.length L.c1) ∧ w'.cell? ⟨w.heap.size, 2, none⟩ = some (.slice L.p2 d.ls.length L.c2) ∧ w'.cell? ⟨w.heap.size, 3, none⟩ = some (.slice L.p3 d.ns.length L.c3) ∧ w'.cell? ⟨w.heap.size, 4, none⟩ = some (.slice L.p4 d.ss.length L.c4)) ∧ Ext (fun _ => False) W0 w' from fun w' hx => by
    have bb := hx.obj hb (fun h => h)
    exact ⟨⟨blk_cell bb 0, blk_cell bb 1, blk_cell bb 2, blk_cell bb 3, blk_cell bb 4⟩, hx⟩)
  have XX := Lib.hid X0
  have D0 := Lib.hid (show Ext (fun _ => False) W0 W0.drew from (Ext.refl _ _).drew)
  clear h hb X0 hsp hf
  go_enter Tryz.func66, Tryz.ntmps66
  go_wp2_with fail
  try rw [hW0]
  clear hW0
  go_region_held3 (fun w' => (w'.cell? ⟨w.heap.size, 0, none⟩ = some (.slice L.p0 d.ws.length L.c0) ∧ w'.cell? ⟨w.heap.size, 1, none⟩ = some (.slice L.p1 d.ms.length L.c1) ∧ w'.cell? ⟨w.heap.size, 2, none⟩ = some (.slice L.p2 d.ls.length L.c2) ∧ w'.cell? ⟨w.heap.size, 3, none⟩ = some (.slice L.p3 d.ns.length L.c3) ∧ w'.cell? ⟨w.heap.size, 4, none⟩ = some (.slice L.p4 d.ss.length L.c4)) ∧ Ext (fun _ => False) W0 w')
    (first | exact CD.out _ D0.out | exact CD.out _ G2.out | exact CD.out _ G1.out)
    (first
      | (go_at_call 93; (with_reducible refine (IC.out _).mono ?_); rintro e V1 ⟨q1, c1, rfl, hA1, hx1, hf1⟩; have G1 := Lib.hid (D0.out.trans hx1 (fun _ _ h => h)); have R1 := Lib.hid (Rd.of_arr hA1); clear hx1 hA1 hf1)
      | (go_at_call 92; (with_reducible refine (OC.out _ ?_ q1 c1 ?_).mono ?_); (exact XX.out.trans G1.out (fun _ _ h => h)); (exact R1.out); rintro e V2 ⟨q2, c2, n2, rfl, hT⟩; have T2 := Lib.hid hT; have G2 := Lib.hid (G1.out.trans hT.2.1 (fun _ _ h => h)); clear hT))
  have F1 := Lib.hid (show w.heap.size ≤ V1.heap.size from by have := XX.out.size; have := G1.out.size; omega)
  have X2 := Lib.hid (XX.out.trans G2.out (fun _ _ h => h))
  go_wp2_with fail
  go_ret
  exact ⟨q2, c2, rfl, T2.out.1, X2.out, fun j hj => Nat.le_trans F1.out (T2.out.2.2 j hj)⟩
end Go.Proofs.YtigpaaelggnffaaGreatDoor.R2
