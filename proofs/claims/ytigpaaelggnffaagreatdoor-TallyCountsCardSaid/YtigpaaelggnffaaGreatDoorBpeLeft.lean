/- Merged of BpeStep, BpeLeft. -/
import Derived.Test.YtigpaaelggnffaaGreatDoorHeapBc
import Derived.Deep.RegionHeld3
import Derived.Test.YtigpaaelggnffaaGreatDoorItems
import Derived.Test.YtigpaaelggnffaaGreatDoorHeapBa
/- (*bpe.work).step. -/
namespace Go.Proofs.YtigpaaelggnffaaGreatDoor.Bpe
open Go.RowKit Go.Proofs.YtigpaaelggnffaaGreatDoor.Lib Go.Proofs.YtigpaaelggnffaaGreatDoor.Sl Go.Proofs.YtigpaaelggnffaaGreatDoor.Chain Go.Proofs.YtigpaaelggnffaaGreatDoor.ElBpe Go.Proofs.YtigpaaelggnffaaGreatDoor.HeapPure
set_option linter.unusedVariables false
set_option linter.unusedSimpArgs false

section
variable {B : Nat} {w w' : World} {b : Nat} {d : Dat} {n : Nat} {I : List Int} {al : Nat → Bool} {H : List El} {P : Pw} {p2 : Option Addr} {c2 : Nat}
theorem St.model_ext {S : Nat → Prop} (h : St B w b d n I al H P p2 c2) (hx : Ext S w w') (hS : ∀ k, S k → B ≤ k) : ∃ w0, IsModel w0 P.m d ∧ w0.heap.size ≤ B ∧ Ext (fun _ => False) w0 w' := by
  obtain ⟨w0, m1, m2, m3⟩ := h.model
  exact ⟨w0, m1, m2, m3.trans hx (fun i hi hS' => by have := hS i hS'; omega)⟩
theorem St.pop {H' : List El} (h : St B w b d n I al H P p2 c2) (hM : HeapB.Mem w' P.h p2 c2 H') (hx : Ext (fun k => k = P.h ∨ blkOf p2 = some k) w w') : St B w' b d n I al H' P p2 c2 := by
  have e1 := h.lhb
  have e2 := h.l1h
  have e3 := h.l01
  have e4 := h.lo0
  refine ⟨h.lo, h.lo0, h.l01, h.l1h, h.lhb, h.lrow, hx.obj h.blk (fun hk => ?_), arr_ext h.row hx (fun k hk hS => ?_), h.chain.ext hx (fun k hk _ hS => ?_), hM, h.model_ext hx (fun k hS => ?_), h.len⟩
  · rcases hk with rfl | hk
    · omega
    · exact absurd (h.lrow b hk) (by omega)
  · have := h.lo k hk
    rcases hS with rfl | hS
    · omega
    · have := h.lrow k hS
      omega
  · rcases hS with rfl | hS
    · omega
    · have := h.lrow k hS
      omega
  · rcases hS with rfl | hS
    · omega
    · have := h.lrow k hS
      omega
theorem St.set {a : Nat} (h : St B w b d n I al H P p2 c2) (hp : P.p = some ⟨a, 0, none⟩) (i : Nat) (v : Int) : St B (w.setCell ⟨a, i, none⟩ (.int .i64 v)) b d n (I.set i v) al H P p2 c2 ∧ Ext (fun k => blkOf P.p = some k) w (w.setCell ⟨a, i, none⟩ (.int .i64 v)) := by
  have hb : blkOf P.p = some a := by rw [hp]; rfl
  have hx : Ext (fun k => blkOf P.p = some k) w (w.setCell ⟨a, i, none⟩ (.int .i64 v)) := (Ext.refl _ w).setCell (p := ⟨a, i, none⟩) (fun _ => hb) _
  have e0 := h.lo a hb
  have e1 := h.lhb
  have e2 := h.l1h
  have e3 := h.l01
  have e4 := h.lo0
  have hk : ∀ k, blkOf P.p = some k → k = a := fun k hk => by rw [hb] at hk; cases hk; rfl
  refine ⟨⟨h.lo, h.lo0, h.l01, h.l1h, h.lhb, h.lrow, hx.obj h.blk (fun hS => ?_), ?_, h.chain.ext hx (fun k hk' _ hS => ?_), h.heap.ext hx (fun hS => ?_) (fun k hk' hS => ?_), h.model_ext hx (fun k hS => ?_), by rw [List.length_set]; exact h.len⟩, hx⟩
  · have := hk _ hS; omega
  · have := h.row
    rw [hp] at this ⊢
    have := arr_set this i (.int .i64 v)
    rwa [show (Chain.ints I).set i (.int .i64 v) = Chain.ints (I.set i v) from by unfold Chain.ints; rw [List.map_set]] at this
  · have := hk _ hS; omega
  · have := hk _ hS; omega
  · have := hk _ hS; have := h.lrow _ hk'; omega
  · have := hk _ hS; omega
theorem St.cut {al' : Nat → Bool} (h : St B w b d n I al H P p2 c2) (hC : IsChain w' P.g (fun k => P.c0 ≤ k ∧ k < P.c1) n al') (hx : Ext (fun k => P.c0 ≤ k ∧ k < P.c1) w w') : St B w' b d n I al' H P p2 c2 := by
  have e1 := h.lhb
  have e2 := h.l1h
  have e3 := h.l01
  have e4 := h.lo0
  refine ⟨h.lo, h.lo0, h.l01, h.l1h, h.lhb, h.lrow, hx.obj h.blk (fun hS => by omega), arr_ext h.row hx (fun k hk hS => by have := h.lo k hk; omega), hC, h.heap.ext hx (fun hS => by omega) (fun k hk hS => by have := h.lrow k hk; omega), h.model_ext hx (fun k hS => by omega), h.len⟩
/-- A work's own memory, that a step changes. -/
def Own (P : Pw) (p2 : Option Addr) (k : Nat) : Prop := k = P.h ∨ blkOf p2 = some k ∨ blkOf P.p = some k ∨ (P.c0 ≤ k ∧ k < P.c1)
theorem St.own (h : St B w b d n I al H P p2 c2) {k : Nat} (hk : Own P p2 k) : B ≤ k := by
  have e1 := h.lhb
  have e2 := h.l1h
  have e3 := h.l01
  have e4 := h.lo0
  rcases hk with rfl | hk | hk | hk
  · omega
  · have := h.lrow k hk; omega
  · exact (h.lo k hk).1
  · omega
theorem St.own_lt (h : St B w b d n I al H P p2 c2) {k : Nat} (hk : Own P p2 k) : k < w.heap.size := by
  have e1 := h.lhb
  have e2 := blk_lt h.blk
  have e3 := h.l1h
  rcases hk with rfl | hk | hk | hk
  · omega
  · exact arr_lt h.heap.row hk
  · exact arr_lt h.row hk
  · omega
end
section
variable {B : Nat} {w w' : World} {b : Nat} {d : Dat} {n : Nat} {I : List Int} {al : Nat → Bool} {H : List El} {P : Pw} {p2 : Option Addr} {c2 : Nat}
/-- What is no part of the work changes. -/
theorem St.side {T : Nat → Prop} (h : St B w b d n I al H P p2 c2) (hx : Ext T w w') (hT : ∀ k, T k → ¬ Own P p2 k ∧ k ≠ b ∧ B ≤ k) : St B w' b d n I al H P p2 c2 :=
  ⟨h.lo, h.lo0, h.l01, h.l1h, h.lhb, h.lrow, hx.obj h.blk (fun hk => (hT _ hk).2.1 rfl), arr_ext h.row hx (fun k hk hS => (hT k hS).1 (.inr (.inr (.inl hk)))), h.chain.ext hx (fun k hk _ hS => (hT k hS).1 (.inr (.inr (.inr hk)))),
    h.heap.ext hx (fun hS => (hT _ hS).1 (.inl rfl)) (fun k hk hS => (hT k hS).1 (.inr (.inl hk))), h.model_ext hx (fun k hS => (hT k hS).2.2), h.len⟩
end
/-- A pair is put into a box. -/
def put6 (w : World) (r : Nat) (x : El) : World := ((((((w.setCell ⟨r, 0, none⟩ (.int .i64 x.f0)).setCell ⟨r, 1, none⟩ (.int .i64 x.f1)).setCell ⟨r, 2, none⟩ (.int .i64 x.f2)).setCell ⟨r, 3, none⟩ (.int .i64 x.f3)).setCell ⟨r, 4, none⟩ (.int .i64 x.f4)).setCell ⟨r, 5, none⟩ (.int .i64 x.f5))
theorem put6_ext (w : World) (r : Nat) (x : El) : Ext (fun k => k = r) w (put6 w r x) :=
  (((((((Ext.refl (fun k => k = r) w).setCell (p := ⟨r, 0, none⟩) (fun _ => rfl) _).setCell (p := ⟨r, 1, none⟩) (fun _ => rfl) _).setCell (p := ⟨r, 2, none⟩) (fun _ => rfl) _).setCell (p := ⟨r, 3, none⟩) (fun _ => rfl) _).setCell (p := ⟨r, 4, none⟩) (fun _ => rfl) _).setCell (p := ⟨r, 5, none⟩) (fun _ => rfl) _)
/-- A box of a pair. -/
def Box (w : World) (r : Nat) (x : El) : Prop := w.heap[r]? = some (.cells #[.int .i64 x.f0, .int .i64 x.f1, .int .i64 x.f2, .int .i64 x.f3, .int .i64 x.f4, .int .i64 x.f5] 197 (0, 0))
theorem put6_box {w : World} {r : Nat} {y : El} (h : Box w r y) (x : El) : Box (put6 w r x) r x := by
  unfold Box put6 at *
  have h0 : (w.setCell ⟨r, 0, none⟩ (.int .i64 x.f0)).heap[r]? = some (.cells #[.int .i64 x.f0, .int .i64 y.f1, .int .i64 y.f2, .int .i64 y.f3, .int .i64 y.f4, .int .i64 y.f5] 197 (0, 0)) := blk_set h 0 _
  generalize w.setCell ⟨r, 0, none⟩ (.int .i64 x.f0) = w0 at h0 ⊢
  have h1 : (w0.setCell ⟨r, 1, none⟩ (.int .i64 x.f1)).heap[r]? = some (.cells #[.int .i64 x.f0, .int .i64 x.f1, .int .i64 y.f2, .int .i64 y.f3, .int .i64 y.f4, .int .i64 y.f5] 197 (0, 0)) := blk_set h0 1 _
  generalize w0.setCell ⟨r, 1, none⟩ (.int .i64 x.f1) = w1 at h1 ⊢
  have h2 : (w1.setCell ⟨r, 2, none⟩ (.int .i64 x.f2)).heap[r]? = some (.cells #[.int .i64 x.f0, .int .i64 x.f1, .int .i64 x.f2, .int .i64 y.f3, .int .i64 y.f4, .int .i64 y.f5] 197 (0, 0)) := blk_set h1 2 _
  generalize w1.setCell ⟨r, 2, none⟩ (.int .i64 x.f2) = w2 at h2 ⊢
  have h3 : (w2.setCell ⟨r, 3, none⟩ (.int .i64 x.f3)).heap[r]? = some (.cells #[.int .i64 x.f0, .int .i64 x.f1, .int .i64 x.f2, .int .i64 x.f3, .int .i64 y.f4, .int .i64 y.f5] 197 (0, 0)) := blk_set h2 3 _
  generalize w2.setCell ⟨r, 3, none⟩ (.int .i64 x.f3) = w3 at h3 ⊢
  have h4 : (w3.setCell ⟨r, 4, none⟩ (.int .i64 x.f4)).heap[r]? = some (.cells #[.int .i64 x.f0, .int .i64 x.f1, .int .i64 x.f2, .int .i64 x.f3, .int .i64 x.f4, .int .i64 y.f5] 197 (0, 0)) := blk_set h3 4 _
  generalize w3.setCell ⟨r, 4, none⟩ (.int .i64 x.f4) = w4 at h4 ⊢
  exact blk_set h4 5 _
theorem Box.on {w w' : World} {r : Nat} {x : El} {S : Nat → Prop} (h : Box w r x) (hx : Ext S w w') (hn : ¬ S r) : Box w' r x := hx.obj h hn
theorem Box.cells {w : World} {r : Nat} {x : El} (h : Box w r x) : r < w.heap.size ∧ w.cell? ⟨r, 0, none⟩ = some (.int .i64 x.f0) ∧ w.cell? ⟨r, 1, none⟩ = some (.int .i64 x.f1) ∧ w.cell? ⟨r, 2, none⟩ = some (.int .i64 x.f2) ∧ w.cell? ⟨r, 3, none⟩ = some (.int .i64 x.f3) ∧ w.cell? ⟨r, 4, none⟩ = some (.int .i64 x.f4) ∧ w.cell? ⟨r, 5, none⟩ = some (.int .i64 x.f5) :=
  ⟨blk_lt h, blk_cell h 0, blk_cell h 1, blk_cell h 2, blk_cell h 3, blk_cell h 4, blk_cell h 5⟩
theorem Box.froz {w : World} {r : Nat} {x : El} (h : Box w r x) : w.frozen? ⟨r, 0, none⟩ = false ∧ w.frozen? ⟨r, 1, none⟩ = false ∧ w.frozen? ⟨r, 2, none⟩ = false ∧ w.frozen? ⟨r, 3, none⟩ = false ∧ w.frozen? ⟨r, 4, none⟩ = false ∧ w.frozen? ⟨r, 5, none⟩ = false :=
  ⟨blk_frozen h 0, blk_frozen h 1, blk_frozen h 2, blk_frozen h 3, blk_frozen h 4, blk_frozen h 5⟩
def StepEnd (B : Nat) (w : World) (b : Nat) (d : Dat) (n : Nat) (I : List Int) (al : Nat → Bool) (P : Pw) (p2 : Option Addr) (e : Ending) (w' : World) : Prop :=
  Ext (Own P p2) w w' ∧ ((nextT d.ms (cur I al n) = none ∧ e = .returned (.tuple #[.agg #[.int .i64 0, .int .i64 0, .int .i64 0, .int .i64 0, .int .i64 0, .int .i64 0], .bool false]) ∧ ∃ c2' H', St B w' b d n I al H' P p2 c2' ∧ Heap HeapB.less H' ∧ BInv d.ms n I al H') ∨
    ∃ x : El, nextT d.ms (cur I al n) = some (x.f0.toNat, cnt al x.f1.toNat, x.f5) ∧ Valid n I al x ∧ (0 ≤ x.f1 ∧ x.f1 < x.f2 ∧ x.f2 < n ∧ 0 ≤ x.f0) ∧ e = .returned (.tuple #[.agg #[.int .i64 x.f0, .int .i64 x.f1, .int .i64 x.f2, .int .i64 x.f3, .int .i64 x.f4, .int .i64 x.f5], .bool true]) ∧
      ∃ p2' c2' H', St B w' b d n (I.set x.f1.toNat x.f5) (cutAl al x.f2.toNat) H' P p2' c2' ∧ Heap HeapB.less H' ∧ BInv d.ms n (I.set x.f1.toNat x.f5) (cutAl al x.f2.toNat) H' ∧ Moved w p2 p2')
/-- The loop's state. -/
structure LpSt (B : Nat) (W wr : World) (b : Nat) (d : Dat) (n : Nat) (I : List Int) (al : Nat → Bool) (P : Pw) (p2 : Option Addr) (c2 : Nat) (H : List El) : Prop where
  st : St B wr b d n I al H P p2 c2
  heap : Heap HeapB.less H
  inv : BInv d.ms n I al H
  res : Box wr W.heap.size ⟨0, 0, 0, 0, 0, 0⟩
  ext : Ext (fun k => k = P.h ∨ blkOf p2 = some k) W wr
theorem LpSt.res_ok {B : Nat} {W wr : World} {b : Nat} {d : Dat} {n : Nat} {I : List Int} {al : Nat → Bool} {P : Pw} {p2 : Option Addr} {c2 : Nat} {H : List El} (h : LpSt B W wr b d n I al P p2 c2 H) : W.heap.size < wr.heap.size := blk_lt h.res
theorem stop_end {B : Nat} {W wr w1 : World} {b : Nat} {d : Dat} {n : Nat} {I : List Int} {al : Nat → Bool} {P : Pw} {p2 : Option Addr} {c2 : Nat} (h : LpSt B W wr b d n I al P p2 c2 []) (hx : Ext (fun _ => False) wr w1) (hW : ∀ k, Own P p2 k → k < W.heap.size) (hb : b < W.heap.size) (o : Obj) :
    StepEnd B W b d n I al P p2 (.returned (.tuple #[.agg #[.int .i64 0, .int .i64 0, .int .i64 0, .int .i64 0, .int .i64 0, .int .i64 0], .bool false])) ((put6 w1 W.heap.size ⟨0, 0, 0, 0, 0, 0⟩).alloc o) := by
  have hy : Ext (fun k => k = W.heap.size) wr ((put6 w1 W.heap.size ⟨0, 0, 0, 0, 0, 0⟩).alloc o) := ((hx.mono (fun _ h => h.elim)).trans (put6_ext w1 W.heap.size _) (fun _ _ h => h)).alloc o
  refine ⟨(h.ext.mono (fun k h => h.elim .inl (fun h => .inr (.inl h)))).trans hy (fun i hi e => by omega), .inl ⟨h.inv.none, rfl, c2, [], h.st.side hy (fun k hk => ⟨fun ho => ?_, ?_, ?_⟩), h.heap, h.inv⟩⟩
  · have := hW k ho; omega
  · omega
  · have := h.st.own (k := P.h) (.inl rfl)
    have := hW P.h (.inl rfl)
    omega
theorem LpSt.throw {B : Nat} {W wr w1 w2 : World} {b : Nat} {d : Dat} {n : Nat} {I : List Int} {al : Nat → Bool} {P : Pw} {p2 : Option Addr} {c2 : Nat} {H : List El} {x : El} (h : LpSt B W wr b d n I al P p2 c2 H) (hp : (x :: popRest HeapB.less H).Perm H) (hv : ¬ Valid n I al x)
    (hS : St B w1 b d n I al (popRest HeapB.less H) P p2 c2) (hR : Box w1 W.heap.size ⟨0, 0, 0, 0, 0, 0⟩) (hx1 : Ext (fun k => k = P.h ∨ blkOf p2 = some k) wr w1) (hx2 : Ext (fun _ => False) w1 w2) : LpSt B W w2 b d n I al P p2 c2 (popRest HeapB.less H) :=
  ⟨hS.on hx2, popRest_heap weak_less h.heap, (h.inv.perm hp.symm).throw hv, hR.on hx2 (fun h => h), (h.ext.trans hx1 (fun _ _ h => h)).trans hx2 (fun _ _ h => h.elim)⟩
theorem next_q {w : World} {g : Nat} {S : Nat → Prop} {n : Nat} {al : Nat → Bool} (h : IsChain w g S n al) (i : Int) (m : Nat) :
    Calls Tryz.prog 134 #[.pointer (some ⟨g, 0, none⟩), .int .i64 i] (w.drewN m) fun e w' => e = .returned (.int .i64 (if inAl al i then nextOf n al i else -1)) ∧ w' = w.drewN m :=
  (next_any (h.ext ((Ext.refl (fun _ => False) w).drewN m) (fun _ _ _ h => h)) i).mono fun e w' ⟨h1, h2⟩ => ⟨h1, h2.symm⟩
theorem prev_in {w : World} {g : Nat} {S : Nat → Prop} {n : Nat} {al : Nat → Bool} (h : IsChain w g S n al) (p : Nat) (ha : al p = true) :
    Calls Tryz.prog 136 #[.pointer (some ⟨g, 0, none⟩), .int .i64 (p : Int)] w fun e w' => e = .returned (.int .i64 (prevOf al p)) ∧ w = w' := by
  have := prev_any h (p : Int)
  rwa [if_pos (by simp [inAl, ha])] at this
theorem next_in {w : World} {g : Nat} {S : Nat → Prop} {n : Nat} {al : Nat → Bool} (h : IsChain w g S n al) (p : Nat) (ha : al p = true) :
    Calls Tryz.prog 134 #[.pointer (some ⟨g, 0, none⟩), .int .i64 (p : Int)] w fun e w' => e = .returned (.int .i64 (nextOf n al p)) ∧ w = w' := by
  have := next_any h (p : Int)
  rwa [if_pos (by simp [inAl, ha])] at this
/-- What a step leaves. -/
theorem merge_end {B : Nat} {W wr w1 w3 w4 w5 w6 w7 : World} {b : Nat} {d : Dat} {n : Nat} {I : List Int} {al : Nat → Bool} {P : Pw} {p2 p3 p4 : Option Addr} {c2 c4 : Nat} {H H2 H3 : List El} {x : El}
    (h : LpSt B W wr b d n I al P p2 c2 H) (hp : (x :: popRest HeapB.less H).Perm H) (hle : ∀ e ∈ H, HeapB.less e x = false) (hv : Valid n I al x) (hb : b < W.heap.size) (hW : ∀ k, Own P p2 k → k < W.heap.size)
    (x1 : Ext (fun k => k = P.h ∨ blkOf p2 = some k) wr w1) (x3 : Ext (fun _ => False) w1 w3) (x4 : Ext (fun k => blkOf P.p = some k) w3 w4) (x5 : Ext (fun k => P.c0 ≤ k ∧ k < P.c1) w4 w5)
    (x6 : Ext (fun k => k = P.h ∨ blkOf p2 = some k) w5 w6) (x7 : Ext (fun k => k = P.h ∨ blkOf p3 = some k) w6 w7) (m6 : Moved w5 p2 p3) (m7 : Moved w6 p3 p4)
    (q6 : H2.Perm (popRest HeapB.less H ++ lookL d.ms n (I.set x.f1.toNat x.f5) (prevOf (cutAl al x.f2.toNat) x.f1) x.f1)) (q7 : H3.Perm (H2 ++ lookL d.ms n (I.set x.f1.toNat x.f5) x.f1 (nextOf n (cutAl al x.f2.toNat) x.f1)))
    (k6 : Heap HeapB.less (popRest HeapB.less H) → Heap HeapB.less H2) (k7 : Heap HeapB.less H2 → Heap HeapB.less H3)
    (s7 : St B w7 b d n (I.set x.f1.toNat x.f5) (cutAl al x.f2.toNat) H3 P p4 c4) :
    StepEnd B W b d n I al P p2 (.returned (.tuple #[.agg #[.int .i64 x.f0, .int .i64 x.f1, .int .i64 x.f2, .int .i64 x.f3, .int .i64 x.f4, .int .i64 x.f5], .bool true])) (put6 w7 W.heap.size x) := by
  have hmem : x ∈ H := hp.mem_iff.1 (List.mem_cons_self ..)
  obtain ⟨a1, a2, a3, r, a4, a5⟩ := h.inv.pair x hmem
  have z0 := h.ext.size
  have z1 := x1.size
  have z3 := x3.size
  have z4 := x4.size
  have z5 := x5.size
  have z6 := x6.size
  have hres := blk_lt h.res
  have e7 := put6_ext w7 W.heap.size x
  have hmv : ∀ k, blkOf p4 = some k → blkOf p2 = some k ∨ W.heap.size < k := fun k hk => by
    rcases m7 k hk with hh | hh
    · rcases m6 k hh with h2 | h2
      · exact .inl h2
      · exact .inr (by omega)
    · exact .inr (by omega)
  have hm3 : ∀ k, blkOf p3 = some k → blkOf p2 = some k ∨ W.heap.size < k := fun k hh => by
    rcases m6 k hh with h2 | h2
    · exact .inl h2
    · exact .inr (by omega)
  refine ⟨?_, .inr ⟨x, h.inv.next hmem hv hle, hv, ⟨a1, a2, a3, by omega⟩, rfl, p4, c4, H3, s7.side e7 (fun k hk => ⟨fun ho => ?_, ?_, ?_⟩), k7 (k6 (popRest_heap weak_less h.heap)), ?_, fun k hk => (hmv k hk).imp id (fun h => by omega)⟩⟩
  · have o1 : ∀ k, (k = P.h ∨ blkOf p2 = some k) → Own P p2 k := fun k h => h.elim .inl (fun h => .inr (.inl h))
    refine (((((((h.ext.mono o1).trans x1 (fun i _ hh => o1 i hh)).trans x3 (fun _ _ h => h.elim)).trans x4 (fun i _ hh => .inr (.inr (.inl hh)))).trans x5 (fun i _ hh => .inr (.inr (.inr hh)))).trans x6 (fun i _ hh => o1 i hh)).trans x7 (fun i hi hh => ?_)).trans e7 (fun i hi hh => by omega)
    rcases hh with hh | hh
    · exact .inl hh
    · rcases hm3 i hh with h2 | h2
      · exact .inr (.inl h2)
      · omega
  · rcases ho with ho | ho | ho | ho
    · have := hW P.h (.inl rfl); omega
    · rcases hmv k ho with h2 | h2
      · have := hW k (.inr (.inl h2)); omega
      · omega
    · have := hW k (.inr (.inr (.inl ho))); omega
    · have := hW k (.inr (.inr (.inr ho))); omega
  · omega
  · have := h.st.own (k := P.h) (.inl rfl)
    have := hW P.h (.inl rfl)
    omega
  · exact ((h.inv.perm hp.symm).merge hv).perm ((q7.trans (q6.append_right _)).symm)
theorem own_pop {P : Pw} {p2 : Option Addr} {w w' : World} (hx : Ext (fun k => k = P.h ∨ blkOf p2 = some k) w w') : Ext (Own P p2) w w' := hx.mono (fun k h => h.elim .inl (fun h => .inr (.inl h)))
set_option maxRecDepth 100000 in
set_option maxHeartbeats 4000000 in
theorem step_any {B : Nat} {w : World} {b : Nat} {d : Dat} {n : Nat} {I : List Int} {al : Nat → Bool} {H : List El} {P : Pw} {p2 : Option Addr} {c2 : Nat} (h : St B w b d n I al H P p2 c2) (hh : Heap HeapB.less H) (hi : BInv d.ms n I al H) (hp : OnePair d.ms) (hn : n ≤ 1048576) :
    Calls Tryz.prog 113 #[.pointer (some ⟨b, 0, none⟩)] w fun e w' => StepEnd B w b d n I al P p2 e w' := by
  have H0 := Lib.hid h
  have HP := Lib.hid hp
  have S0 := Lib.hid (show LpSt B w (w.alloc (.cells #[.int .i64 0, .int .i64 0, .int .i64 0, .int .i64 0, .int .i64 0, .int .i64 0] 197)) b d n I al P p2 c2 H from
    ⟨h.on ((Ext.refl _ _).alloc _), hh, hi, heap_alloc_new _ _, (Ext.refl _ _).alloc _⟩)
  have HW := Lib.hid (show ∀ k, Own P p2 k → k < w.heap.size from fun k hk => h.own_lt hk)
  clear h hh hi hp
  go_enter Tryz.func113, Tryz.ntmps113
  go_wp2_with fail
  go_loopg [] H.length (fun gk wr => ∃ H', H'.length ≤ gk ∧ LpSt B w wr b d n I al P p2 c2 H')
  case atStart => exact ⟨H, Nat.le_refl _, S0.out⟩
  case round =>
    obtain ⟨H', hgk, hst⟩ := hrel
    have ST := Lib.hid hst
    have rs := hst.res_ok
    clear hst S0
    obtain ⟨bl, q0, q1, q2, q3⟩ := ST.out.st.cells
    have hH3 : H'.length < 1000000000 := by have := ST.out.inv.size; omega
    by_cases hne : H' = []
    · subst hne
      have PN := Lib.hid (HeapB.pop_none ST.out.st.heap)
      go_wp2_with fail
      refine PN.out.mono ?_
      rintro e w1 ⟨rfl, x1⟩
      have R1 := Lib.hid (ST.out.res.on x1 (fun h => h))
      have X1 := Lib.hid x1
      obtain ⟨rl, r0, r1, r2, r3, r4, r5⟩ := R1.out.cells
      obtain ⟨f0, f1, f2, f3, f4, f5⟩ := R1.out.froz
      clear x1 q0 q1 q2 q3
      go_wp2_with fail
      have SE := Lib.hid (stop_end ST.out X1.out HW.out (blk_lt H0.out.blk))
      exact bodyPost_ret (v := .tuple #[.agg #[.int .i64 0, .int .i64 0, .int .i64 0, .int .i64 0, .int .i64 0, .int .i64 0], .bool false]) (by simp [results, Tryz.results113, go_sem, rl, r0, r1, r2, r3, r4, r5]) rfl (SE.out _)
    · obtain ⟨x, hx⟩ : ∃ x, at_ H' 0 = x := ⟨_, rfl⟩
      have hl0 : 0 < H'.length := List.length_pos_iff.2 hne
      have PS := Lib.hid (HeapB.pop_some wr P.h p2 c2 H' ST.out.st.heap hne x hx hH3)
      have PM := Lib.hid (show (x :: popRest HeapB.less H').Perm H' from hx ▸ popRest_perm HeapB.less H' hne)
      have LE := Lib.hid (show ∀ e ∈ H', HeapB.less e x = false from fun e he => by
        obtain ⟨i, hi, rfl⟩ := List.getElem_of_mem he
        have := ST.out.heap.least weak_less i hi
        rwa [hx, at_eq _ _ hi] at this)
      have PR := Lib.hid (ST.out.inv.pair x (PM.out.mem_iff.1 (List.mem_cons_self ..)))
      clear hx
      obtain ⟨F0, F1, F2, F3, F4, F5⟩ := x
      obtain ⟨p, hp⟩ : ∃ p : Nat, F1 = p := ⟨F1.toNat, by have := PR.out; simp only at this; omega⟩
      obtain ⟨q, hq⟩ : ∃ q : Nat, F2 = q := ⟨F2.toNat, by have := PR.out; simp only at this; omega⟩
      subst hp hq
      have hpq : p < q ∧ q < n := by have := PR.out; simp only at this; omega
      obtain ⟨hpq, hqn⟩ := hpq
      go_wp2_with fail
      refine PS.out.mono ?_
      rintro e w1 ⟨rfl, M1, x1⟩
      have S1 := Lib.hid (ST.out.st.pop M1 x1)
      have R1 := Lib.hid (ST.out.res.on x1 (fun h => by have := HW.out w.heap.size (h.elim .inl (fun h => .inr (.inl h))); omega))
      have X1 := Lib.hid x1
      clear M1 x1 q0 q1 q2 q3 bl
      go_wp2_with fail
      obtain ⟨W2, hW2⟩ : ∃ W2, w1.alloc (.cells #[.int .i64 F0, .int .i64 (p : Int), .int .i64 (q : Int), .int .i64 F3, .int .i64 F4, .int .i64 F5] 197) = W2 := ⟨_, rfl⟩
      obtain ⟨xb, hxb⟩ : ∃ xb, w1.heap.size = xb := ⟨_, rfl⟩
      have Y2 := Lib.hid (show Ext (fun _ => False) w1 W2 from by rw [← hW2]; exact (Ext.refl _ _).alloc _)
      have BX := Lib.hid (show Box W2 xb ⟨F0, p, q, F3, F4, F5⟩ from by rw [← hW2, ← hxb]; exact heap_alloc_new w1 _)
      have S2 := Lib.hid (S1.out.on Y2.out)
      have XL := Lib.hid (show w.heap.size < xb from by have := blk_lt R1.out; omega)
      rw [hW2, hxb]
      clear hW2 hxb
      obtain ⟨bl, q0, q1, q2, q3⟩ := S2.out.cells
      obtain ⟨xl, z0, z1, z2, z3, z4, z5⟩ := BX.out.cells
      simp only at z0 z1 z2 z3 z4 z5
      obtain ⟨a, hpa⟩ := arr_some S2.out.row (by omega)
      obtain ⟨al2, g1⟩ := S2.out.id hpa p (by omega)
      obtain ⟨_, g2⟩ := S2.out.id hpa q hqn
      have PA := Lib.hid hpa
      rw [hpa] at q1
      clear hpa
      have i1 : (p : Int) < (n : Int) := by omega
      have i2 : (q : Int) < (n : Int) := by omega
      obtain ⟨A, hA⟩ : ∃ A, (if inAl al (p : Int) then nextOf n al (p : Int) else -1) = A := ⟨_, rfl⟩
      have NX := Lib.hid (fun m => next_q S2.out.chain (p : Int) m)
      rw [hA] at NX
      have V1 := Lib.hid (show A = (q : Int) → Adj n al p q from fun e => by
        rw [← hA] at e
        by_cases hin : inAl al (p : Int) = true
        · rw [if_pos hin] at e
          have hap : al p = true := by simpa [inAl] using hin
          have := adj_of hap e (by omega)
          simpa using this
        · rw [if_neg hin] at e
          omega)
      have V2 := Lib.hid (show Adj n al p q → A = (q : Int) from fun e => by
        rw [← hA, if_pos (by simp [inAl, e.left]), e.next])
      clear hA
      by_cases c1 : A = (q : Int)
      · by_cases c2 : val I p = F3
        · by_cases c3 : val I q = F4
          · have VD := Lib.hid (show Valid n I al ⟨F0, p, q, F3, F4, F5⟩ from ⟨V1.out c1, c2, c3⟩)
            have b1 : (A != (q : Int)) = false := by simp [c1]
            have b2 : (val I p != F3) = false := by simp [c2]
            have b3 : (val I q != F4) = false := by simp [c3]
            clear c1 c2 c3
            go_quiet ((go_at_call 134; exact Calls.quiet_of_same (NX.out _)))
            go_wp2_with fail
            obtain ⟨W3, hW3⟩ : ∃ W3, W2.drewN nq = W3 := ⟨_, rfl⟩
            have Y3 := Lib.hid (show Ext (fun _ => False) W2 W3 from by rw [← hW3]; exact (Ext.refl _ _).drewN nq)
            rw [hW3]
            clear hW3 q0 q1 q2 q3 z0 z1 z2 z3 z4 z5 g1 g2 bl xl al2
            have S3 := Lib.hid (S2.out.on Y3.out)
            have BX3 := Lib.hid (BX.out.on Y3.out (fun h => h))
            obtain ⟨bl, q0, q1, q2, q3⟩ := S3.out.cells
            obtain ⟨xl, z0, z1, z2, z3, z4, z5⟩ := BX3.out.cells
            simp only at z0 z1 z2 z3 z4 z5
            obtain ⟨al2, g1⟩ := S3.out.id PA.out p (by omega)
            have gf := arr_frozen (show Arr W3 3 1 (some ⟨a, 0, none⟩) n P.c (Chain.ints I) from PA.out ▸ S3.out.row) p
            rw [PA.out] at q1
            go_region
            go_wp2_with fail
            obtain ⟨W4, hW4⟩ : ∃ W4, (W3.setCell ⟨a, p, none⟩ (.int .i64 F5)).drew = W4 := ⟨_, rfl⟩
            have S4 := Lib.hid (show St B W4 b d n (I.set p F5) al (popRest HeapB.less H') P p2 c2 from by rw [← hW4]; exact (S3.out.set PA.out p F5).1.on (Ext.refl _ _).drew)
            have Y4 := Lib.hid (show Ext (fun k => blkOf P.p = some k) W3 W4 from by rw [← hW4]; exact (S3.out.set PA.out p F5).2.drew)
            have HXB := Lib.hid (show ∀ k, Own P p2 k → k ≠ xb from fun k hk e => by have := HW.out k hk; have := XL.out; omega)
            have BX4 := Lib.hid (BX3.out.on Y4.out (fun h => HXB.out _ (.inr (.inr (.inl h))) rfl))
            have AQ := Lib.hid (show inAl al (q : Int) = true from by have := VD.out.1.right; simp at this; simp [inAl, this])
            have AP := Lib.hid (show cutAl al q p = true from by have := VD.out.1.left; simp at this; rw [cutAl_ne (by omega)]; exact this)
            rw [hW4]
            clear hW4 q0 q1 q2 q3 z0 z1 z2 z3 z4 z5 g1 gf bl xl al2
            obtain ⟨bl, q0, q1, q2, q3⟩ := S4.out.cells
            obtain ⟨xl, z0, z1, z2, z3, z4, z5⟩ := BX4.out.cells
            simp only at z0 z1 z2 z3 z4 z5
            have CI := Lib.hid (cut_in (S4.out.on (Ext.refl _ _).drew).chain (q : Int) AQ.out)
            go_still_tail 6, (by kernel_rfl)
            change wpList _ _ _ _ _ W4.drew
            go_wp2_with fail
            refine CI.out.mono ?_
            rintro e W5 ⟨rfl, C5, y5⟩
            have Y5 := Lib.hid y5.undrew
            have S5 := Lib.hid (show St B W5 b d n (I.set p F5) (cutAl al q) (popRest HeapB.less H') P p2 c2 from S4.out.cut C5 y5.undrew)
            have BX5 := Lib.hid (BX4.out.on Y5.out (fun h => HXB.out _ (.inr (.inr (.inr h))) rfl))
            clear C5 y5 q0 q1 q2 q3 z0 z1 z2 z3 z4 z5 bl xl
            obtain ⟨bl, q0, q1, q2, q3⟩ := S5.out.cells
            obtain ⟨xl, z0, z1, z2, z3, z4, z5⟩ := BX5.out.cells
            simp only at z0 z1 z2 z3 z4 z5
            go_wp2_with fail
            have HBO := Lib.hid (show ¬ Own P p2 b from fun h => by
              have := S5.out.lhb
              have := S5.out.l1h
              rcases h with h | h | h | h
              · omega
              · have := S5.out.lrow b h; omega
              · have := S5.out.lo b h; have := S5.out.l01; omega
              · omega)
            have MS5 := Lib.hid (show ∀ w', Ext (fun k => k = P.h ∨ blkOf p2 = some k) W5 w' → (w'.cell? ⟨b, 2, none⟩ = some (.pointer (some ⟨P.g, 0, none⟩)) ∧ w'.cell? ⟨xb, 1, none⟩ = some (.int .i64 (p : Int))) ∧ Ext (fun k => k = P.h ∨ blkOf p2 = some k) W5 w' from fun w' e =>
              ⟨⟨(e.cell (p := ⟨b, 2, none⟩) bl (fun h => HBO.out (h.elim .inl (fun h => .inr (.inl h))))).trans q2, (e.cell (p := ⟨xb, 1, none⟩) xl (fun h => HXB.out _ (h.elim .inl (fun h => .inr (.inl h))) rfl)).trans z1⟩, e⟩)
            have B5 := Lib.hid (show Ext (fun k => k = P.h ∨ blkOf p2 = some k) W5 W5.drew from Ext.drew (Ext.refl _ _))
            have PV := Lib.hid (prev_in (S5.out.on (Ext.refl _ _).drew).chain p AP.out)
            have hRL : (popRest HeapB.less H').length < 1000000000 := by have := popRest_length HeapB.less H' hne; omega
            have LK := Lib.hid (look_any (S5.out.on (Ext.refl _ _).drew) HP.out (prevOf (cutAl al q) p) p (by rcases (prevOf_is (cutAl al q) p).range with hh | hh <;> omega) hRL hn)
            clear q0 q1 q2 q3 z0 z1 z2 z3 z4 z5
            go_region_held3 (fun w' => (w'.cell? ⟨b, 2, none⟩ = some (.pointer (some ⟨P.g, 0, none⟩)) ∧ w'.cell? ⟨xb, 1, none⟩ = some (.int .i64 (p : Int))) ∧ Ext (fun k => k = P.h ∨ blkOf p2 = some k) W5 w')
              (first | exact MS5.out _ (by assumption) | exact MS5.out _ B5.out)
              (first
                | (go_at_call 136; (with_reducible refine PV.out.mono ?_); rintro e w6 ⟨rfl, rfl⟩)
                | (go_at_call 132; (with_reducible refine LK.out.mono ?_); rintro e W6 ⟨rfl, p3, c3, H2, s6, q6, k6, y6, m6⟩; have E6 := y6.undrew; have S6 := Lib.hid s6; have Q6 := Lib.hid q6; have K6 := Lib.hid k6; have M6 := Lib.hid m6; clear s6 q6 k6 m6 y6))
            go_wp2_with fail
            have Y6 := Lib.hid E6
            have MX := Lib.hid (show ¬ (xb = P.h ∨ blkOf p3 = some xb) from fun h => by
              rcases h with h | h
              · exact HXB.out _ (.inl rfl) h.symm
              · rcases M6.out xb h with hh | hh
                · exact HXB.out _ (.inr (.inl hh)) rfl
                · simp at hh; omega)
            have BX6 := Lib.hid (BX5.out.on Y6.out (fun h => HXB.out _ (h.elim .inl (fun h => .inr (.inl h))) rfl))
            have MB := Lib.hid (show ¬ (b = P.h ∨ blkOf p3 = some b) from fun h => by
              have := S6.out.lhb
              rcases h with h | h
              · omega
              · have := S6.out.lrow b h; omega)
            have hRL2 : H2.length < 1000000000 := by
              have h1 := Q6.out.length_eq
              have h2 := lookL_length d.ms n (I.set p F5) (prevOf (cutAl al q) p) p
              have h3 := popRest_length HeapB.less H' hne
              have h4 := ST.out.inv.size
              rw [List.length_append] at h1
              omega
            clear E6 bl xl
            obtain ⟨bl, q0, q1, q2, q3⟩ := S6.out.cells
            obtain ⟨xl, z0, z1, z2, z3, z4, z5⟩ := BX6.out.cells
            simp only at z0 z1 z2 z3 z4 z5
            have MS6 := Lib.hid (show ∀ w', Ext (fun k => k = P.h ∨ blkOf p3 = some k) W6 w' → (w'.cell? ⟨b, 2, none⟩ = some (.pointer (some ⟨P.g, 0, none⟩)) ∧ w'.cell? ⟨xb, 1, none⟩ = some (.int .i64 (p : Int))) ∧ Ext (fun k => k = P.h ∨ blkOf p3 = some k) W6 w' from fun w' e =>
              ⟨⟨(e.cell (p := ⟨b, 2, none⟩) bl MB.out).trans q2, (e.cell (p := ⟨xb, 1, none⟩) xl MX.out).trans z1⟩, e⟩)
            have B6 := Lib.hid (show Ext (fun k => k = P.h ∨ blkOf p3 = some k) W6 W6.drew from Ext.drew (Ext.refl _ _))
            have PN := Lib.hid (next_in (S6.out.on (Ext.refl _ _).drew).chain p AP.out)
            have LN := Lib.hid (look_any (S6.out.on (Ext.refl _ _).drew) HP.out p (nextOf n (cutAl al q) p) i1 hRL2 hn)
            clear q0 q1 q2 q3 z0 z1 z2 z3 z4 z5
            go_region_held3 (fun w' => (w'.cell? ⟨b, 2, none⟩ = some (.pointer (some ⟨P.g, 0, none⟩)) ∧ w'.cell? ⟨xb, 1, none⟩ = some (.int .i64 (p : Int))) ∧ Ext (fun k => k = P.h ∨ blkOf p3 = some k) W6 w')
              (first | exact MS6.out _ (by assumption) | exact MS6.out _ B6.out)
              (first
                | (go_at_call 134; (with_reducible refine PN.out.mono ?_); rintro e w7 ⟨rfl, rfl⟩)
                | (go_at_call 132; (with_reducible refine LN.out.mono ?_); rintro e W7 ⟨rfl, p4, c4, H3, s7, q7, k7, y7, m7⟩; have E7 := y7.undrew; have S7 := Lib.hid s7; have Q7 := Lib.hid q7; have K7 := Lib.hid k7; have M7 := Lib.hid m7; clear s7 q7 k7 m7 y7))
            have Y7 := Lib.hid E7
            have BX7 := Lib.hid (BX6.out.on Y7.out MX.out)
            have HRB := Lib.hid (show ∀ k, Own P p2 k → k ≠ w.heap.size from fun k hk e => by have := HW.out k hk; omega)
            have R5 := Lib.hid (((R1.out.on (Y2.out.trans Y3.out (fun _ _ h => h)) (fun h => h)).on Y4.out (fun h => HRB.out _ (.inr (.inr (.inl h))) rfl)).on Y5.out (fun h => HRB.out _ (.inr (.inr (.inr h))) rfl))
            have R7 := Lib.hid ((R5.out.on Y6.out (fun h => HRB.out _ (h.elim .inl (fun h => .inr (.inl h))) rfl)).on Y7.out (fun h => by
              rcases h with h | h
              · exact HRB.out _ (.inl rfl) h.symm
              · rcases M6.out _ h with hh | hh
                · exact HRB.out _ (.inr (.inl hh)) rfl
                · have := blk_lt R5.out; simp at hh; omega))
            clear E7 bl xl
            obtain ⟨xl, z0, z1, z2, z3, z4, z5⟩ := BX7.out.cells
            simp only at z0 z1 z2 z3 z4 z5
            obtain ⟨rl, r0, r1, r2, r3, r4, r5⟩ := R7.out.cells
            simp only at r0 r1 r2 r3 r4 r5
            obtain ⟨f0, f1, f2, f3, f4, f5⟩ := R7.out.froz
            have ME := Lib.hid (merge_end ST.out PM.out LE.out VD.out (blk_lt H0.out.blk) HW.out X1.out (Y2.out.trans Y3.out (fun _ _ h => h)) Y4.out Y5.out Y6.out Y7.out M6.out M7.out Q6.out Q7.out K6.out K7.out S7.out)
            go_wp2_with fail
            exact bodyPost_ret (v := .tuple #[.agg #[.int .i64 F0, .int .i64 (p : Int), .int .i64 (q : Int), .int .i64 F3, .int .i64 F4, .int .i64 F5], .bool true]) (by simp [results, Tryz.results113, go_sem, rl, r0, r1, r2, r3, r4, r5]) rfl ME.out
          · have NV := Lib.hid (show ¬ Valid n I al ⟨F0, p, q, F3, F4, F5⟩ from fun h => c3 h.2.2)
            have b1 : (A != (q : Int)) = false := by simp [c1]
            have b2 : (val I p != F3) = false := by simp [c2]
            have b3 : (val I q != F4) = true := by simp [c3]
            clear c1 c2 c3
            go_quiet ((go_at_call 134; exact Calls.quiet_of_same (NX.out _)))
            go_wp2_with fail
            go_roundg (popRest HeapB.less H').length
            case measure => have := popRest_length HeapB.less H' hne; omega
            case rel => exact ⟨_, Nat.le_refl _, ST.out.throw PM.out NV.out S1.out R1.out X1.out (by repeat (first | exact Y2.out | refine Ext.drew ?_ | refine Ext.drewN ?_ _ | refine Ext.alloc ?_ _))⟩
        · have NV := Lib.hid (show ¬ Valid n I al ⟨F0, p, q, F3, F4, F5⟩ from fun h => c2 h.2.1)
          have b1 : (A != (q : Int)) = false := by simp [c1]
          have b2 : (val I p != F3) = true := by simp [c2]
          clear c1 c2
          go_quiet ((go_at_call 134; exact Calls.quiet_of_same (NX.out _)))
          go_wp2_with fail
          go_roundg (popRest HeapB.less H').length
          case measure => have := popRest_length HeapB.less H' hne; omega
          case rel => exact ⟨_, Nat.le_refl _, ST.out.throw PM.out NV.out S1.out R1.out X1.out (by repeat (first | exact Y2.out | refine Ext.drew ?_ | refine Ext.drewN ?_ _ | refine Ext.alloc ?_ _))⟩
      · have NV := Lib.hid (show ¬ Valid n I al ⟨F0, p, q, F3, F4, F5⟩ from fun h => c1 (V2.out h.1))
        have b1 : (A != (q : Int)) = true := by simp [c1]
        clear c1
        go_quiet ((go_at_call 134; exact Calls.quiet_of_same (NX.out _)))
        go_wp2_with fail
        go_roundg (popRest HeapB.less H').length
        case measure => have := popRest_length HeapB.less H' hne; omega
        case rel => exact ⟨_, Nat.le_refl _, ST.out.throw PM.out NV.out S1.out R1.out X1.out (by repeat (first | exact Y2.out | refine Ext.drew ?_ | refine Ext.drewN ?_ _ | refine Ext.alloc ?_ _))⟩
end Go.Proofs.YtigpaaelggnffaaGreatDoor.Bpe

/- (*bpe.work).left: the ids that stand, in new memory. -/
namespace Go.Proofs.YtigpaaelggnffaaGreatDoor.Bpe
open Go.RowKit Go.Shelf Go.Proofs.YtigpaaelggnffaaGreatDoor.Lib Go.Proofs.YtigpaaelggnffaaGreatDoor.Sl Go.Proofs.YtigpaaelggnffaaGreatDoor.Chain Go.Proofs.YtigpaaelggnffaaGreatDoor.ElBpe Go.Proofs.YtigpaaelggnffaaGreatDoor.HeapPure
open Go.Proofs.YtigpaaelggnffaaGreatDoorW.PrintLast
set_option linter.unusedVariables false
set_option linter.unusedSimpArgs false
attribute [local go_sem] Oper.semAt_some

theorem arr_isCells {w : World} {e sz n c : Nat} {p : Option Addr} {cs : List Value} (h : Arr w e sz p n c cs) {k : Nat} (hk : blkOf p = some k) : ∃ o : Obj, w.heap[k]? = some o ∧ o.isCells = true := by
  rcases h.2 with hn' | ⟨g, cap, cur, hv, hb, hgg, rest⟩
  · obtain ⟨hn', _⟩ := hn'
    injection hn' with h1 h2 h3
    subst h1
    cases hk
  · injection hv with hv1 hv2 hv3
    subst hv1
    cases hk
    exact ⟨_, hgg, rfl⟩
theorem cur_upTo (I : List Int) (al : Nat → Bool) (n : Nat) : (upTo al n).map (fun z => val I z.toNat) = cur I al n := by
  unfold upTo cur aliveL
  rw [List.map_map]
  rfl
theorem startIn_ {F : Fence} {N : Nat} {P : Program} {Q : Exit → Act → World → Prop} {id m : Nat} {ops : List Oper} {a : Act} {w : World} {S : World → Prop} {ds : List Nat} (l : Array Bool) (hm : P.follows .mixedOrders = true) (hc : ∀ o ∈ ops, Lib.Calm P o) (hL : ¬ LetsOut Q) (hn : ops.toArray.size = m) (hl : Array.replicate m false = l) (hS : S w.drew)
    (h : S w.drew → wpAnyLast P .any ops.toArray Q S ds m l a w.drew) : (Code.region id ops.toArray true).wpIn F N P Q a w := by
  subst hn
  subst hl
  exact wpIn_region_calm hm hc hL (wpAny_of_last _ _ _ _ (h hS))
theorem leaves_mark1 {F : Fence} {n : Nat} {P : Program} {fn : Func} {tmps : Array Value} {R : Ending → World → Prop} {D : Nat} {w : World} (hD : w.heap[D]? = some (.deferred (some [])))
    (h : ∀ w', Ext (fun k => k = D) w w' → LeavesIn F n P fn tmps R [] .returning w') : LeavesInM F n P fn tmps R [{ target := .collected D, args := #[] }] .returning w :=
  ⟨by simp, .inl ⟨D, w.putObj D (.deferred none), rfl, run_takeDeferred hD, h _ (Ext.of_grown (grownBy_putObj' w D (.deferred none)) (fun k e _ => by cases e; rfl))⟩⟩
/-- Within the loop: pre has come. -/
def LeftI (W0 : World) (tb : Nat) (I : List Int) {n : Nat} {al : Nat → Bool} (pre : List (In n al)) (W : World) : Prop :=
  ∃ p c, Ext (fun k => k = tb) W0 W ∧ Boxed W tb 62 (.slice p pre.length c) ∧ Arr W 3 1 p pre.length c (Chain.ints (pre.map fun z => val I z.1.toNat)) ∧ ∀ k, blkOf p = some k → W0.heap.size ≤ k
theorem leftI_own (W0 : World) (tb : Nat) (I : List Int) {n : Nat} {al : Nat → Bool} : OwnFrom W0.heap.size (LeftI W0 tb I (n := n) (al := al)) := fun pre X Y row ⟨p, c, h1, h2, h3, h4⟩ hg hr => by
  refine ⟨p, c, h1.grown hg (fun k hk hl => absurd (hr k hk).1 (by omega)), h2.kept hg (fun e' => by
    obtain ⟨o, ho, hc⟩ := (hr _ e'.symm).2
    rw [show X.heap[tb]? = _ from h2] at ho
    cases ho; cases hc), arr_ext h3 (Ext.of_grown (S := fun k => row = some k) hg (fun k hk _ => hk)) (fun k hk hS => ?_), h4⟩
  obtain ⟨o, ho, hc⟩ := (hr k hS).2
  obtain ⟨o', ho', hc'⟩ := arr_isCells h3 hk
  rw [ho] at ho'
  cases ho'
  rw [hc] at hc'
  cases hc'
def LeftEnd (w : World) (I : List Int) (al : Nat → Bool) (n : Nat) (e : Ending) (w' : World) : Prop :=
  ∃ p c, e = .returned (.slice p (cnt al n) c) ∧ Arr w' 3 1 p (cnt al n) c (Chain.ints (cur I al n)) ∧ Ext (fun _ => False) w w' ∧ ∀ k, blkOf p = some k → w.heap.size ≤ k
set_option maxRecDepth 100000 in
set_option maxHeartbeats 2000000 in
theorem left_in (F : Fence) (N : Nat) (h36 : F.fn 114) (h60 : F.fn 137) (h77 : F.fn 157) (hro : F.round = none) (hn : 3 ≤ N)
    {B : Nat} {w : World} {b : Nat} {d : Dat} {n : Nat} {I : List Int} {al : Nat → Bool} {H : List El} {P : Pw} {p2 : Option Addr} {c2 : Nat} (h : St B w b d n I al H P p2 c2) :
    CallsIn F N Tryz.prog 114 #[.pointer (some ⟨b, 0, none⟩)] w fun e w' => LeftEnd w I al n e w' := by
  have HS := Lib.hid h
  obtain ⟨bl, q0, q1, q2, q3⟩ := h.cells
  have hch := h.chain
  obtain ⟨pc, cc, qc, dc, nx, pv, first, len, hM, hI, hn2, hg1, hg2, hg3⟩ := hch
  have h1 : 1 ≤ N := by omega
  clear h
  refine callsIn_of_wp_marks Tryz.func114 rfl h36 ?_ hro
  simp only [Tryz.ntmps114, List.size_toArray, List.length_cons, List.length_nil, Nat.reduceAdd, Nat.reduceSub, Array.replicate_succ, Array.replicate_zero, List.push_toArray, List.append_toArray, List.nil_append, List.cons_append]
  have hnil : ∀ b W, (binOp .eql 231 (.func (.func 157) #[] #[.pointer b]) Value.nilFunc).run Tryz.prog W = .ok (.bool false) W := fun b W => by kernel_rfl
  gi_wp2_with (gi_at_call 137; refine (all_in F (N - 1) h60 hro _ _).mono ?_; rintro e w' ⟨rfl, rfl⟩)
  obtain ⟨W0, hW0⟩ : ∃ W0, ((w.alloc (.cells #[.pointer (some ⟨b, 0, none⟩)] 194)).alloc (.cells #[.slice none 0 0] 62)).alloc (.cells #[.pointer (some ⟨P.g, 0, none⟩)] 223) = W0 := ⟨_, rfl⟩
  have X0 : Ext (fun _ => False) w W0 := by rw [← hW0]; exact (((Ext.refl _ _).alloc _).alloc _).alloc _
  have sz0 : W0.heap.size = w.heap.size + 3 := by rw [← hW0]; simp
  have bw : Boxed W0 w.heap.size 194 (.pointer (some ⟨b, 0, none⟩)) := by rw [← hW0]; exact ((Boxed.new w _ _).alloc _).alloc _
  have bt : Boxed W0 (w.heap.size + 1) 62 (.slice none 0 0) := by
    rw [← hW0]
    have := Boxed.new (w.alloc (.cells #[.pointer (some ⟨b, 0, none⟩)] 194)) 62 (.slice none 0 0)
    rw [World.size_alloc] at this
    exact this.alloc _
  have bg : Boxed W0 (w.heap.size + 1 + 1) 223 (.pointer (some ⟨P.g, 0, none⟩)) := by
    rw [← hW0]
    have := Boxed.new ((w.alloc (.cells #[.pointer (some ⟨b, 0, none⟩)] 194)).alloc (.cells #[.slice none 0 0] 62)) 223 (.pointer (some ⟨P.g, 0, none⟩))
    simpa using this
  rw [hW0]
  clear hW0
  have S0 := Lib.hid (HS.out.on X0)
  have glt : P.g < w.heap.size := blk_lt hM.blk
  have CT : ChT (fun k => k = w.heap.size + 1 + 1 ∨ k = P.g ∨ blkOf pc = some k) W0 P.g n pc cc al := by
    have hM0 := hM.ext X0 (fun h => h) (fun _ _ h => h) (fun _ _ h => h)
    refine ⟨⟨.inr (.inl rfl), by omega⟩, ?_, ?_, fun i hi ha => ?_⟩
    · rw [← hI.first]; exact (blk_cell hM0.blk 2).trans rfl
    · exact (blk_cell hM0.blk 0).trans rfl
    · obtain ⟨x, rfl⟩ := arr_some hM0.nx (by omega)
      refine ⟨x, rfl, .inr (.inr rfl), arr_lt hM0.nx rfl, (arr_cell hM0.nx i (by omega)).trans ?_⟩
      simp [Chain.ints, hI.next i hi ha]
  have hTl : ∀ k, (k = w.heap.size + 1 + 1 ∨ k = P.g ∨ blkOf pc = some k) → k < W0.heap.size ∧ k ≠ w.heap.size + 1 := fun k hk => by
    rcases hk with rfl | rfl | hk
    · omega
    · omega
    · have := arr_lt hM.nx hk
      omega
  have HT := Lib.hid hTl
  have LI0 : LeftI W0 (w.heap.size + 1) I (n := n) (al := al) [] W0 := ⟨none, 0, Ext.refl _ _, bt, arr_nil _ _ _, fun k hk => by cases hk⟩
  have BW := Lib.hid bw
  have BG := Lib.hid bg
  refine wpIn_rangeFunc_ownF hro h1 (gf := 157) (lb := #[.pointer (some ⟨w.heap.size + 1 + 1, 0, none⟩)]) rfl h77 (enters_of Tryz.func157 (by kernel_rfl) rfl)
    (all_stops_t F (N - 1) h77 hro (by omega) (w.heap.size + 1 + 1) P.g n cc (fun k => k = w.heap.size + 1 + 1 ∨ k = P.g ∨ blkOf pc = some k) pc al W0 (.inl rfl) bg.lt bg.cell CT) Stay.trans (stayK_b (fun k hk => (hTl k hk).1)) (Below.refl _ _) (fun _ => rfl)
    (fun pre W => LeftI W0 (w.heap.size + 1) I pre W) (fun _ _ _ => False) (leftI_own W0 _ I) (fun _ _ _ _ _ h _ _ => h) LI0
    (fun x => { tmps := #[.pointer (some ⟨b, 0, none⟩), .pointer (some ⟨w.heap.size, 0, none⟩), .slice none 0 0, .pointer (some ⟨w.heap.size + 1, 0, none⟩), .int .i64 x.1, .pointer (some ⟨b, 0, none⟩), .pointer (some ⟨b, 0, none⟩), .pointer (some ⟨b, 2, none⟩), .pointer (some ⟨P.g, 0, none⟩), .func (.func 157) #[] #[.pointer (some ⟨w.heap.size + 1 + 1, 0, none⟩)], .int .i64 x.1, undef, undef, undef, undef, undef, undef, undef, undef, undef, undef, undef], defers := [] }) ?assign ?body ?done ?stop
  case assign =>
    intro l x W K hK
    gi_wp2
    exact hK
  case body =>
    rintro l pre ⟨x, j, rfl, hj, ha⟩ W ⟨p', c', x1, bx, ar, fr⟩ hlen
    have SW := S0.out.side x1 (fun k hk => ?hside)
    case hside =>
      subst hk
      have hb := S0.out.lhb
      have hbl : b < w.heap.size := bl
      refine ⟨fun ho => ?_, by omega, by have := HS.out.own (k := P.h) (.inl rfl); have := HS.out.lhb; omega⟩
      have := HS.out.own_lt ho
      omega
    obtain ⟨a, hpa⟩ := arr_some SW.row (by omega)
    obtain ⟨al2, c3⟩ := SW.id hpa j hj
    obtain ⟨bl2, _, c2, _, _⟩ := SW.cells
    rw [hpa] at c2
    have c0 := bx.cell
    have f0 := bx.frozen
    have tl := bx.lt
    have c1 := (x1.cell (p := ⟨w.heap.size, 0, none⟩) (by show w.heap.size < W0.heap.size; omega) (by show ¬ (w.heap.size = w.heap.size + 1); omega)).trans BW.out.cell
    have i1 : (j : Int) < (n : Int) := by omega
    obtain ⟨CS, hCS⟩ : ∃ CS, Chain.ints (pre.map fun z => val I z.1.toNat) = CS := ⟨_, rfl⟩
    rw [hCS] at ar
    have AR := Lib.hid ar
    have HCS := Lib.hid hCS
    clear hCS
    have hpl : pre.length < 1048576 := by rw [upTo_length] at hlen; have := cnt_le al n; omega
    gi_wp2_with fail
    refine startIn_ (m := 11) (S := fun w' => w'.cell? ⟨w.heap.size + 1, 0, none⟩ = some (.slice p' pre.length c') ∧ w'.cell? ⟨w.heap.size, 0, none⟩ = some (.pointer (some ⟨b, 0, none⟩)) ∧ w'.cell? ⟨b, 1, none⟩ = some (.slice (some ⟨a, 0, none⟩) n P.c) ∧ w'.cell? ⟨a, j, none⟩ = some (.int .i64 (val I j))) (ds := [9, 10]) (ls 11 0) (by kernel_rfl) (List.forall_mem_cons.2 ⟨calm_load rfl, (List.forall_mem_cons.2 ⟨calm_load rfl, (List.forall_mem_cons.2 ⟨calm_nil rfl, (List.forall_mem_cons.2 ⟨calm_field rfl, (List.forall_mem_cons.2 ⟨calm_load rfl, (List.forall_mem_cons.2 ⟨calm_move rfl, (List.forall_mem_cons.2 ⟨calm_index rfl, (List.forall_mem_cons.2 ⟨calm_load rfl, (List.forall_mem_cons.2 ⟨calm_slice rfl, (List.forall_mem_cons.2 ⟨calm_append rfl, (List.forall_mem_cons.2 ⟨calm_store rfl, (fun _ h => by cases h)⟩)⟩)⟩)⟩)⟩)⟩)⟩)⟩)⟩)⟩)⟩) (fun ⟨_, _, h⟩ => h) rfl rfl ⟨c0, c1, c2, c3⟩ (fun hHeld => ?_)
    refine pure_ (i := 5) (N := some 16) (v := ?_) (a' := ?_) (ls 11 32) rfl rfl (by kernel_rfl) (fun _ _ _ h => h) (Or.inl ⟨by rfl, ?_⟩) ?_ ?_
    rotate_left
    · intro w'; go_simp; with_reducible rfl
    rotate_left
    · simp only [Act.put, List.setIfInBounds_toArray, List.set_cons_zero, List.set_cons_succ, i64_w, i32_w]; rfl
    refine take_ (i := 0) (N := some 11) (v := ?_) (a' := ?_) (ls 11 33) rfl rfl (by kernel_rfl) (fun _ _ _ h => h) (Or.inl ⟨by rfl, ?_⟩) hHeld ?_ ?_
    rotate_left
    · rintro w' ⟨s0, s1, s2, s3⟩; go_simp; with_reducible rfl
    rotate_left
    · simp only [Act.put, List.setIfInBounds_toArray, List.set_cons_zero, List.set_cons_succ, i64_w, i32_w]; rfl
    refine take_ (i := 1) (N := some 12) (v := ?_) (a' := ?_) (ls 11 35) rfl rfl (by kernel_rfl) (fun _ _ _ h => h) (Or.inl ⟨by rfl, ?_⟩) hHeld ?_ ?_
    rotate_left
    · rintro w' ⟨s0, s1, s2, s3⟩; go_simp; with_reducible rfl
    rotate_left
    · simp only [Act.put, List.setIfInBounds_toArray, List.set_cons_zero, List.set_cons_succ, i64_w, i32_w]; rfl
    refine one_ (i := 2) (N := some 13) (ls 11 39) rfl rfl (by kernel_rfl) (by decide) (fun K hK => ?_)
    refine value_ (w1 := ?_) (v := ?_) (by rfl) rfl ?_ ?_
    rotate_left 2
    · go_simp
      constructor
      · rfl
      · rfl
    refine hK.out _ _ hHeld (fun hHeld => ?_)
    clear hK K
    refine norm_ (a' := ?_) ?_ ?_
    rotate_left
    · simp only [Act.put, List.setIfInBounds_toArray, List.set_cons_zero, List.set_cons_succ, i64_w, i32_w]; rfl
    refine pure_ (i := 3) (N := some 14) (v := ?_) (a' := ?_) (ls 11 47) rfl rfl (by kernel_rfl) (fun _ _ _ h => h) (Or.inl ⟨by rfl, ?_⟩) ?_ ?_
    rotate_left
    · intro w'; go_simp; with_reducible rfl
    rotate_left
    · simp only [Act.put, List.setIfInBounds_toArray, List.set_cons_zero, List.set_cons_succ, i64_w, i32_w]; rfl
    refine take_ (i := 4) (N := some 15) (v := ?_) (a' := ?_) (ls 11 63) rfl rfl (by kernel_rfl) (fun _ _ _ h => h) (Or.inl ⟨by rfl, ?_⟩) hHeld ?_ ?_
    rotate_left
    · rintro w' ⟨s0, s1, s2, s3⟩; go_simp; with_reducible rfl
    rotate_left
    · simp only [Act.put, List.setIfInBounds_toArray, List.set_cons_zero, List.set_cons_succ, i64_w, i32_w]; rfl
    refine pure_ (i := 6) (N := some 17) (v := ?_) (a' := ?_) (ls 11 127) rfl rfl (by kernel_rfl) (fun _ _ _ h => h) (Or.inl ⟨by rfl, ?_⟩) ?_ ?_
    rotate_left
    · intro w'; go_simp; with_reducible rfl
    rotate_left
    · simp only [Act.put, List.setIfInBounds_toArray, List.set_cons_zero, List.set_cons_succ, i64_w, i32_w]; rfl
    refine take_ (i := 7) (N := some 18) (v := ?_) (a' := ?_) (ls 11 255) rfl rfl (by kernel_rfl) (fun _ _ _ h => h) (Or.inl ⟨by rfl, ?_⟩) hHeld ?_ ?_
    rotate_left
    · rintro w' ⟨s0, s1, s2, s3⟩; go_simp; with_reducible rfl
    rotate_left
    · simp only [Act.put, List.setIfInBounds_toArray, List.set_cons_zero, List.set_cons_succ, i64_w, i32_w]; rfl
    refine one_ (i := 8) (N := some 19) (ls 11 511) rfl rfl (by kernel_rfl) (by decide) (fun K hK => ?_)
    refine value_ (w1 := ?_) (v := ?_) (by rfl) rfl ?_ ?_
    rotate_left 2
    · go_simp
      constructor
      · rfl
      · rfl
    refine hK.out _ _ (by obtain ⟨s0, s1, s2, s3⟩ := hHeld; exact ⟨cell_alloc s0, cell_alloc s1, cell_alloc s2, cell_alloc s3⟩) (fun hHeld => ?_)
    clear hK K
    refine norm_ (a' := ?_) ?_ ?_
    rotate_left
    · simp only [Act.put, List.setIfInBounds_toArray, List.set_cons_zero, List.set_cons_succ, i64_w, i32_w]; rfl
    refine last_ (i := 9) (N := some 20) (ls 11 1023) rfl rfl (by kernel_rfl) (by decide) (fun K hK => ?_)
    refine arr_append1_step (W := W.drew) (by rfl) (.tmp 11) (.tmp 19) 62 3 1 8 (.int .i64 0) rfl Tryz.underlying62 infoI rfl (by decide) (by decide) p' pre.length c' CS [.int .i64 (val I j)] rfl _ rfl rfl rfl (by simp [Value.oneCell']) AR.out.drew (by omega) ?_
    intro p1 c1' w1 hA hx hm
    have A1 := Lib.hid hA
    have X1 := Lib.hid hx.undrew
    have M1 := Lib.hid hm
    have xt : Boxed w1 (w.heap.size + 1) 62 (.slice p' pre.length c') := X1.out.obj bx (fun h => by have := fr _ h; omega)
    have t0 := xt.cell
    have tf := xt.frozen
    have XT := Lib.hid xt
    clear hA hx hm xt
    refine hK.out _ _ ?_
    clear hK K
    refine norm_ (a' := ?_) ?_ ?_
    rotate_left
    · simp only [Act.put, List.setIfInBounds_toArray, List.set_cons_zero, List.set_cons_succ, i64_w, i32_w]; rfl
    refine last_ (i := 10) (N := none) (ls 11 2047) rfl rfl (by kernel_rfl) (by decide) (fun K hK => ?_)
    refine skip_ (w1 := ?_) (by rfl) rfl ?_ ?_
    rotate_left 1
    · go_simp; rfl
    refine hK.out _ _ ?_
    clear hK K
    refine done_ (by kernel_rfl) ?_
    show KeepsOthers W (w1.setCell ⟨w.heap.size + 1, 0, none⟩ (.slice p1 (pre.length + 1) c1')) ∧ Stay (fun k => k = w.heap.size + 1 + 1 ∨ k = P.g ∨ blkOf pc = some k) W (w1.setCell ⟨w.heap.size + 1, 0, none⟩ (.slice p1 (pre.length + 1) c1')) ∧ LeftI W0 (w.heap.size + 1) I (pre ++ [⟨(j : Int), j, rfl, hj, ha⟩]) (w1.setCell ⟨w.heap.size + 1, 0, none⟩ (.slice p1 (pre.length + 1) c1'))
    have K1 : KeepsOthers W w1 := ⟨X1.out.size, fun k o hk ho => X1.out.obj hk (fun hS => by
      obtain ⟨o', h1', h2'⟩ := arr_isCells AR.out hS
      rw [hk] at h1'
      cases h1'
      rw [ho] at h2'
      cases h2')⟩
    have hfar : ∀ k, blkOf p1 = some k → W0.heap.size ≤ k := fun k hk => by
      rcases M1.out k hk with hh | hh
      · exact fr k hh
      · have := x1.size
        simp at hh
        omega
    refine ⟨K1.trans (KeepsOthers.setCell _ _ _), Stay.ext (S := fun k => k = w.heap.size + 1 ∨ blkOf p' = some k) ((X1.out.mono (fun k h => .inr h)).setCell (p := ⟨w.heap.size + 1, 0, none⟩) (fun _ => .inl rfl) _) (fun k hk hS => ?_), p1, c1', ?_, ?_, ?_, hfar⟩
    · have h1' := HT.out k hk
      rcases hS with hS | hS
      · exact h1'.2 hS
      · have := fr k hS
        omega
    · exact (x1.trans X1.out (fun i hi hS => by have := fr i hS; omega)).setCell (p := ⟨w.heap.size + 1, 0, none⟩) (fun _ => rfl) _
    · have := Boxed.set (.slice p1 (pre.length + 1) c1') XT.out
      simpa using this
    · have h1' := arr_far A1.out (q := ⟨w.heap.size + 1, 0, none⟩) (fun h => by have := hfar _ h; simp at this; omega) (.slice p1 (pre.length + 1) c1')
      rw [← HCS.out] at h1'
      simpa [Chain.ints] using h1'
  case done =>
    rintro D zs W hBD hzs ⟨p', c', x1, bx, ar, fr⟩ hK
    have t0 := bx.cell
    have tl := bx.lt
    have hz : zs.length = cnt al n := by have := congrArg List.length hzs; rw [List.length_map, upTo_length] at this; exact this
    rw [hz] at t0
    have HZ := Lib.hid hz
    have HZS := Lib.hid hzs
    clear hz hzs
    gi_wp2
    show LeavesInM F N _ _ _ _ [{ target := .collected D, args := #[] }] .returning W
    refine leaves_mark1 hK (fun w' hw' => ?_)
    refine ⟨.slice p' (cnt al n) c', by simp [results, Tryz.f114, go_sem], p', c', rfl, ?_, (X0.trans ((x1.mono (S' := fun k => k = w.heap.size + 1) (fun k h => h)).trans hw' (fun i hi e => absurd hi (by omega))) (fun i hi e => absurd hi (by omega))), fun k hk => by have := fr k hk; omega⟩
    have h2 := arr_ext ar hw' (fun k hk e => by
      obtain ⟨o, ho, hc⟩ := arr_isCells ar hk
      rw [e, hK] at ho
      cases ho
      cases hc)
    rw [HZ.out] at h2
    rw [← cur_upTo, ← HZS.out, List.map_map]
    exact h2
  case stop =>
    rintro D cd pre W hBD hpre hf hK
    exact hf.elim
theorem left_any {B : Nat} {w : World} {b : Nat} {d : Dat} {n : Nat} {I : List Int} {al : Nat → Bool} {H : List El} {P : Pw} {p2 : Option Addr} {c2 : Nat} (h : St B w b d n I al H P p2 c2) :
    Calls Tryz.prog 114 #[.pointer (some ⟨b, 0, none⟩)] w fun e w' => LeftEnd w I al n e w' :=
  callsIn_wide.1 (left_in Fence.wide 3 trivial trivial trivial rfl (by omega) h)
end Go.Proofs.YtigpaaelggnffaaGreatDoor.Bpe
