/- bpe.work: its memory; look. -/
import Derived.Test.YtbepmbihonnkaaaBpeModel
import Derived.Test.YtbepmbihonnkaaaChain
import Derived.Test.YtbepmbihonnkaaaHeapBb
import Derived.StillTailTactics
import Derived.Deep.RegionHeld3
namespace Go.Proofs.Ytbepmbihonnkaaa.Bpe
open Go.RowKit Go.Proofs.Ytbepmbihonnkaaa.Lib Go.Proofs.Ytbepmbihonnkaaa.Sl Go.Proofs.Ytbepmbihonnkaaa.Chain Go.Proofs.Ytbepmbihonnkaaa.ElBpe Go.Proofs.Ytbepmbihonnkaaa.HeapPure
set_option linter.unusedVariables false
set_option linter.unusedSimpArgs false

/-- Where a work lies: its model, its ids, its chain, its heap. -/
structure Pw where
  m : Nat
  p : Option Addr
  c : Nat
  g : Nat
  c0 : Nat
  c1 : Nat
  h : Nat
/-- A work at b: all of its own memory is at B or later. -/
structure St (B : Nat) (w : World) (b : Nat) (d : Dat) (n : Nat) (I : List Int) (al : Nat → Bool) (H : List El) (P : Pw) (p2 : Option Addr) (c2 : Nat) : Prop where
  lo : ∀ k, blkOf P.p = some k → B ≤ k ∧ k < P.c0
  lo0 : B ≤ P.c0
  l01 : P.c0 ≤ P.c1
  l1h : P.c1 ≤ P.h
  lhb : P.h < b
  lrow : ∀ k, blkOf p2 = some k → b < k
  blk : w.heap[b]? = some (.cells #[.pointer (some ⟨P.m, 0, none⟩), .slice P.p n P.c, .pointer (some ⟨P.g, 0, none⟩), .pointer (some ⟨P.h, 0, none⟩)] 126 (0, 0))
  row : Arr w 3 1 P.p n P.c (ints I)
  chain : IsChain w P.g (fun k => P.c0 ≤ k ∧ k < P.c1) n al
  heap : HeapB.Mem w P.h p2 c2 H
  model : ∃ w0, IsModel w0 P.m d ∧ w0.heap.size ≤ B ∧ Ext (fun _ => False) w0 w
  len : I.length = n
theorem St.on {B : Nat} {w w' : World} {b : Nat} {d : Dat} {n : Nat} {I : List Int} {al : Nat → Bool} {H : List El} {P : Pw} {p2 : Option Addr} {c2 : Nat} (h : St B w b d n I al H P p2 c2) (hx : Ext (fun _ => False) w w') : St B w' b d n I al H P p2 c2 :=
  ⟨h.lo, h.lo0, h.l01, h.l1h, h.lhb, h.lrow, hx.obj h.blk (fun h => h), arr_ext h.row hx (fun _ _ h => h), h.chain.ext hx (fun _ _ _ h => h), h.heap.ext hx (fun h => h) (fun _ _ h => h), (let ⟨w0, h1, h2, h3⟩ := h.model; ⟨w0, h1, h2, h3.trans hx (fun _ _ h => h)⟩), h.len⟩
theorem St.mod {B : Nat} {w : World} {b : Nat} {d : Dat} {n : Nat} {I : List Int} {al : Nat → Bool} {H : List El} {P : Pw} {p2 : Option Addr} {c2 : Nat} (h : St B w b d n I al H P p2 c2) : IsModel w P.m d :=
  let ⟨_, h1, _, h3⟩ := h.model; h1.on h3
theorem St.cells {B : Nat} {w : World} {b : Nat} {d : Dat} {n : Nat} {I : List Int} {al : Nat → Bool} {H : List El} {P : Pw} {p2 : Option Addr} {c2 : Nat} (h : St B w b d n I al H P p2 c2) :
    b < w.heap.size ∧ w.cell? ⟨b, 0, none⟩ = some (.pointer (some ⟨P.m, 0, none⟩)) ∧ w.cell? ⟨b, 1, none⟩ = some (.slice P.p n P.c) ∧ w.cell? ⟨b, 2, none⟩ = some (.pointer (some ⟨P.g, 0, none⟩)) ∧ w.cell? ⟨b, 3, none⟩ = some (.pointer (some ⟨P.h, 0, none⟩)) :=
  ⟨blk_lt h.blk, blk_cell h.blk 0, blk_cell h.blk 1, blk_cell h.blk 2, blk_cell h.blk 3⟩
theorem St.id {B : Nat} {w : World} {b : Nat} {d : Dat} {n : Nat} {I : List Int} {al : Nat → Bool} {H : List El} {P : Pw} {p2 : Option Addr} {c2 : Nat} (h : St B w b d n I al H P p2 c2) {a : Nat} (hp : P.p = some ⟨a, 0, none⟩) (i : Nat) (hi : i < n) :
    a < w.heap.size ∧ w.cell? ⟨a, i, none⟩ = some (.int .i64 (val I i)) := by
  have := h.row
  rw [hp] at this
  have hl := h.len
  refine ⟨arr_lt this (by rfl), (arr_cell this i (by omega)).trans ?_⟩
  unfold ints val
  rw [List.getElem?_map, List.getElem?_eq_getElem (by omega)]
  rfl
/-- What a look leaves. -/
def LookEnd (B : Nat) (w : World) (b : Nat) (d : Dat) (n : Nat) (I : List Int) (al : Nat → Bool) (H : List El) (P : Pw) (p2 : Option Addr) (l r : Int) (e : Ending) (w' : World) : Prop :=
  e = .returned (.tuple #[]) ∧ ∃ p2' c2' H', St B w' b d n I al H' P p2' c2' ∧ H'.Perm (H ++ lookL d.ms n I l r) ∧ (Heap HeapB.less H → Heap HeapB.less H') ∧ Ext (fun k => k = P.h ∨ blkOf p2 = some k) w w' ∧ Moved w p2 p2'
theorem LookEnd.no {B : Nat} {w w' : World} {b : Nat} {d : Dat} {n : Nat} {I : List Int} {al : Nat → Bool} {H : List El} {P : Pw} {p2 : Option Addr} {c2 : Nat} (h : St B w b d n I al H P p2 c2) {l r : Int} (hx : Ext (fun _ => False) w w') (hl : lookL d.ms n I l r = []) :
    LookEnd B w b d n I al H P p2 l r (.returned (.tuple #[])) w' :=
  ⟨rfl, p2, c2, H, h.on hx, by rw [hl, List.append_nil], fun h => h, hx.mono (fun _ h => h.elim), Moved.refl _ _⟩
theorem LookEnd.put {B : Nat} {w w1 w2 : World} {b : Nat} {d : Dat} {n : Nat} {I : List Int} {al : Nat → Bool} {H : List El} {P : Pw} {p2 : Option Addr} {c2 : Nat} (h : St B w b d n I al H P p2 c2) {l r : Int} (hx : Ext (fun _ => False) w w1) {x : El} (hl : lookL d.ms n I l r = [x]) {p' : Option Addr} {c' : Nat}
    (hM : HeapB.Mem w2 P.h p' c' (push HeapB.less H x)) (hx2 : Ext (fun k => k = P.h ∨ blkOf p2 = some k) w1 w2) (hm : Moved w1 p2 p') :
    LookEnd B w b d n I al H P p2 l r (.returned (.tuple #[])) w2 := by
  have h1 := h.on hx
  have e1 := h.lhb
  have e2 := h.l1h
  have e3 := h.l01
  have e4 := h.lo0
  have hb := blk_lt h.blk
  have hs := hx.size
  refine ⟨rfl, p', c', push HeapB.less H x, ⟨h.lo, h.lo0, h.l01, h.l1h, h.lhb, fun k hk => ?_, hx2.obj h1.blk (fun hk => ?_), arr_ext h1.row hx2 (fun k hk hS => ?_), h1.chain.ext hx2 (fun k hk _ hS => ?_), hM, ?_, h.len⟩, by rw [hl]; exact push_perm _ _ _, fun hh => push_heap weak_less x hh, (hx.mono (fun _ h => h.elim)).trans hx2 (fun i _ h => h), fun k hk => ?_⟩
  · rcases hm k hk with hh | hh
    · exact h.lrow k hh
    · omega
  · rcases hk with rfl | hk
    · omega
    · exact absurd (h.lrow b hk) (by omega)
  · have := h.lo k hk
    rcases hS with rfl | hS
    · omega
    · have := h.lrow k hS
      omega
  · rcases hS with rfl | hS
    · omega
    · have := h.lrow k hS
      omega
  · obtain ⟨w0, m1, m2, m3⟩ := h1.model
    refine ⟨w0, m1, m2, m3.trans hx2 (fun i hi hS => ?_)⟩
    rcases hS with rfl | hS
    · omega
    · have := h.lrow i hS
      omega
  · rcases hm k hk with hh | hh
    · exact .inl hh
    · exact .inr (by omega)

set_option maxRecDepth 100000 in
set_option maxHeartbeats 2000000 in
theorem look_any {B : Nat} {w : World} {b : Nat} {d : Dat} {n : Nat} {I : List Int} {al : Nat → Bool} {H : List El} {P : Pw} {p2 : Option Addr} {c2 : Nat} (h : St B w b d n I al H P p2 c2) (hp : OnePair d.ms) (l r : Int) (hl : l < n) (hH : H.length < 1000000000) (hn : n ≤ 1048576) :
    Calls Try.prog 68 #[.pointer (some ⟨b, 0, none⟩), .int .i64 l, .int .i64 r] w fun e w' => LookEnd B w b d n I al H P p2 l r e w' := by
  have HS := Lib.hid h
  have HP := Lib.hid hp
  have HH := Lib.hid hH
  obtain ⟨bl, q0, q1, q2, q3⟩ := h.cells
  have hid := fun a hp i hi => h.id (a := a) hp i hi
  have hrow := h.row
  clear h hp hH
  go_enter Try.func68, Try.ntmps68
  by_cases hout : l < 0 ∨ r < 0 ∨ (n : Int) ≤ r
  · have LL := Lib.hid (show lookL d.ms n I l r = [] from if_pos hout)
    by_cases h0 : l < 0
    · have d0 : decide (l < 0) = true := decide_eq_true h0
      clear hout hid hrow h0
      go_wp2_with fail
      refine bodyPost_ret (results_none rfl _ _ _) rfl ?_
      exact LookEnd.no HS.out (by repeat (first | exact Ext.refl _ _ | refine Ext.drew ?_ | refine Ext.drewN ?_ _ | refine Ext.alloc ?_ _)) LL.out
    · have d0 : decide (l < 0) = false := decide_eq_false h0
      by_cases h1 : r < 0
      · have d1 : decide (r < 0) = true := decide_eq_true h1
        clear hout hid hrow h0 h1
        go_wp2_with fail
        refine bodyPost_ret (results_none rfl _ _ _) rfl ?_
        exact LookEnd.no HS.out (by repeat (first | exact Ext.refl _ _ | refine Ext.drew ?_ | refine Ext.drewN ?_ _ | refine Ext.alloc ?_ _)) LL.out
      · have d1 : decide (r < 0) = false := decide_eq_false h1
        have d2 : decide (r ≥ (n : Int)) = true := decide_eq_true (by omega)
        clear hout hid hrow h0 h1
        go_wp2_with fail
        refine bodyPost_ret (results_none rfl _ _ _) rfl ?_
        exact LookEnd.no HS.out (by repeat (first | exact Ext.refl _ _ | refine Ext.drew ?_ | refine Ext.drewN ?_ _ | refine Ext.alloc ?_ _)) LL.out
  · obtain ⟨x, rfl⟩ : ∃ x : Nat, l = x := ⟨l.toNat, by omega⟩
    obtain ⟨y, rfl⟩ : ∃ y : Nat, r = y := ⟨r.toNat, by omega⟩
    have d0 : decide ((x : Int) < 0) = false := decide_eq_false (by omega)
    have d1 : decide ((y : Int) < 0) = false := decide_eq_false (by omega)
    have d2 : decide ((y : Int) ≥ (n : Int)) = false := decide_eq_false (by omega)
    have i1 : (x : Int) < (n : Int) := by omega
    have i2 : (y : Int) < (n : Int) := by omega
    obtain ⟨a, hpa⟩ := arr_some hrow (by omega)
    obtain ⟨ga, g1⟩ := hid a hpa x (by omega)
    obtain ⟨_, g2⟩ := hid a hpa y (by omega)
    rw [hpa] at q1
    have NO := Lib.hid hout
    clear hid hrow hout hpa
    go_wp2_with fail
    go_region
    go_wp2_with fail
    obtain ⟨W, hW⟩ : ∃ W, (w.alloc (.cells #[.int .i64 (val I x), .int .i64 (val I y)] 102)).drew = W := ⟨_, rfl⟩
    have HX := Lib.hid (show Ext (fun _ => False) w W from by rw [← hW]; exact ((Ext.refl _ w).alloc _).drew)
    have z0 : W.cell? ⟨w.heap.size, 0, none⟩ = some (.int .i64 (val I x)) := by rw [← hW]; exact blk_cell (heap_alloc_new w _) 0
    have z1 : W.cell? ⟨w.heap.size, 1, none⟩ = some (.int .i64 (val I y)) := by rw [← hW]; exact blk_cell (heap_alloc_new w _) 1
    have ZB := Lib.hid (show W.heap[w.heap.size]? = some (.cells #[.int .i64 (val I x), .int .i64 (val I y)] 102 (0, 0)) from by rw [← hW]; exact heap_alloc_new w _)
    rw [hW]
    clear hW q0 q1 q2 q3 g1 g2
    obtain ⟨bl, q0, q1, q2, q3⟩ := (HS.out.on HX.out).cells
    have MM := Lib.hid (merge_any (HS.out.on HX.out).mod HP.out (val I x) (val I y))
    clear q0 q1 q2 q3
    obtain ⟨bl, q0, q1, q2, q3⟩ := (HS.out.on HX.out).cells
    have lz := blk_lt ZB.out
    have MS := Lib.hid (show ∀ w', Ext (fun _ => False) W w' → (w'.cell? ⟨b, 0, none⟩ = some (.pointer (some ⟨P.m, 0, none⟩)) ∧ w'.cell? ⟨w.heap.size, 0, none⟩ = some (.int .i64 (val I x)) ∧ w'.cell? ⟨w.heap.size, 1, none⟩ = some (.int .i64 (val I y))) ∧ Ext (fun _ => False) W w' from fun w' e =>
      ⟨⟨(e.cell (p := ⟨b, 0, none⟩) bl (fun h => h)).trans q0, (e.cell (p := ⟨w.heap.size, 0, none⟩) lz (fun h => h)).trans z0, (e.cell (p := ⟨w.heap.size, 1, none⟩) lz (fun h => h)).trans z1⟩, e⟩)
    have B0 := Lib.hid (show Ext (fun _ => False) W W.drew from Ext.drew (Ext.refl _ _))
    have IM := Lib.hid (show ∀ w', Ext (fun _ => False) W w' → IsModel w' P.m d from fun w' e => ((HS.out.on HX.out).on e).mod)
    cases hm : mergeOf d.ms (val I x) (val I y) with
    | none =>
      have MV := Lib.hid (show mergeV d.ms (val I x) (val I y) = .tuple #[.int .i64 0, .int .i64 0, .bool false] from by unfold mergeV; rw [hm])
      have LL := Lib.hid (show lookL d.ms n I x y = [] from by unfold lookL; rw [if_neg NO.out, Int.toNat_natCast, Int.toNat_natCast, hm])
      clear hm q0 q1 q2 q3 z0 z1
      go_region_held3 (fun w' => (w'.cell? ⟨b, 0, none⟩ = some (.pointer (some ⟨P.m, 0, none⟩)) ∧ w'.cell? ⟨w.heap.size, 0, none⟩ = some (.int .i64 (val I x)) ∧ w'.cell? ⟨w.heap.size, 1, none⟩ = some (.int .i64 (val I y))) ∧ Ext (fun _ => False) W w')
        (first | exact MS.out _ (by assumption) | exact MS.out _ B0.out)
        ((go_at_call 83; (with_reducible refine (merge_any (d := d) ?_ HP.out (val I x) (val I y)).mono ?_); (exact IM.out _ B0.out); rw [MV.out]; rintro e w1 ⟨rfl, x1⟩; have E1 := B0.out.trans x1 (fun _ _ h => h)))
      go_wp2_with fail
      refine bodyPost_ret (results_none rfl _ _ _) rfl ?_
      exact LookEnd.no HS.out (HX.out.trans E1 (fun _ _ h => h)) LL.out
    | some t =>
      obtain ⟨k, id⟩ := t
      have MV := Lib.hid (show mergeV d.ms (val I x) (val I y) = .tuple #[.int .i64 (k : Int), .int .i64 id, .bool true] from by unfold mergeV; rw [hm])
      have LL := Lib.hid (show lookL d.ms n I x y = [⟨k, x, y, val I x, val I y, id⟩] from by unfold lookL; rw [if_neg NO.out, Int.toNat_natCast, Int.toNat_natCast, hm])
      clear hm q0 q1 q2 q3 z0 z1
      go_region_held3 (fun w' => (w'.cell? ⟨b, 0, none⟩ = some (.pointer (some ⟨P.m, 0, none⟩)) ∧ w'.cell? ⟨w.heap.size, 0, none⟩ = some (.int .i64 (val I x)) ∧ w'.cell? ⟨w.heap.size, 1, none⟩ = some (.int .i64 (val I y))) ∧ Ext (fun _ => False) W w')
        (first | exact MS.out _ (by assumption) | exact MS.out _ B0.out)
        ((go_at_call 83; (with_reducible refine (merge_any (d := d) ?_ HP.out (val I x) (val I y)).mono ?_); (exact IM.out _ B0.out); rw [MV.out]; rintro e w1 ⟨rfl, x1⟩; have E1 := B0.out.trans x1 (fun _ _ h => h)))
      go_wp2_with fail
      have HE := Lib.hid (HX.out.trans E1 (fun _ _ h => h))
      have SW := HS.out.on HE.out
      obtain ⟨bl, q0, q1, q2, q3⟩ := SW.cells
      have ZW := E1.obj ZB.out (fun h => h)
      have lz := blk_lt ZW
      have z0 := blk_cell ZW 0
      have z1 := blk_cell ZW 1
      simp at z0 z1
      have hM := Lib.hid (SW.heap.drew)
      clear SW ZW E1 x1
      go_still_tail 10, (by kernel_rfl)
      change wpList _ _ _ _ _ w1.drew
      go_wp2_with fail
      refine (HeapB.push_any _ P.h p2 c2 H ⟨k, x, y, val I x, val I y, id⟩ hM.out HH.out).mono ?_
      rintro e w2 ⟨v, p', c', rfl, hM2, hx2, hm2⟩
      have K := Lib.hid (LookEnd.put HS.out HE.out.drew LL.out hM2 hx2 hm2)
      clear hM2 hx2 hm2
      go_wp2_with fail
      go_end0
      exact K.out
end Go.Proofs.Ytbepmbihonnkaaa.Bpe
