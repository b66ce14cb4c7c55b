/- tesseralaw9.all: three turns over the iterator. -/
import Derived.Test.YtjaehghnjolaaaaChainAll
import Derived.Test.YtjaehghnjolaaaaChainPlays
import Derived.Test.YtjaehghnjolaaaaMarks
import Derived.RangeFuncFrom
import Derived.RangeFuncBox
namespace Go.Proofs.Ytjaehghnjolaaaa.Chain
open Go.RowKit Go.Shelf Go.Proofs.Ytjaehghnjolaaaa.Lib
set_option linter.unusedVariables false
set_option linter.unusedSimpArgs false
attribute [local go_sem] Oper.semAt_some

/-- k turns are done. -/
structure TurnSt (w W0 wr : World) (k tb : Nat) (Ds : List Nat) : Prop where
  kl : k ≤ 3
  bel : Below (w.heap.size + 4) W0 wr
  tl : w.heap.size + 4 ≤ tb
  turn : Boxed wr tb 3 (.int .i64 k)
  mks : ∀ D ∈ Ds, w.heap.size + 4 ≤ D ∧ wr.heap[D]? = some (.deferred (some []))
  nd : Ds.Nodup
/-- What lies when the loop of turns begins. -/
structure Starts (w W0 : World) (g a n c : Nat) (p : Option Addr) (al : Nat → Bool) (stop : Int) : Prop where
  bel : Below w.heap.size w W0
  ch : ChAt (w.heap.size + 4) W0 g n p c al
  row : Arr W0 4 1 (some ⟨a, 0, none⟩) n n (bools (alL n al))
  al : a < w.heap.size
  bi : Boxed W0 w.heap.size 31 (.slice (some ⟨a, 0, none⟩) n n)
  bs : Boxed W0 (w.heap.size + 1) 3 (.int .i64 stop)
  br : Boxed W0 (w.heap.size + 1 + 1) 4 (.bool false)
  bc : Boxed W0 (w.heap.size + 1 + 1 + 1) 22 (.pointer (some ⟨g, 0, none⟩))
  sz : W0.heap.size = w.heap.size + 5
theorem start_facts {w W0 : World} {g a n c : Nat} {p : Option Addr} {al : Nat → Bool} {stop : Int} (hC : ChAt w.heap.size w g n p c al) (hrow : Arr w 4 1 (some ⟨a, 0, none⟩) n n (bools (alL n al)))
    (h : (((((w.alloc (.cells #[.slice (some ⟨a, 0, none⟩) n n] 31)).alloc (.cells #[.int .i64 stop] 3)).alloc (.cells #[.bool false] 4)).alloc (.cells #[.pointer (some ⟨g, 0, none⟩)] 22)).alloc (.cells #[.int .i64 0] 3)) = W0) :
    TurnSt w W0 W0 0 (w.heap.size + 4) [] ∧ Starts w W0 g a n c p al stop := by
  have hx : Ext (fun _ => False) w W0 := by
    rw [← h]
    repeat (first | exact Ext.refl _ _ | refine Ext.alloc ?_ _)
  have hb := hx.below
  have blk : ∀ (W : World) (o o2 : Obj) (k : Nat), W.heap[k]? = some o → (W.alloc o2).heap[k]? = some o := fun W o o2 k hk => blk_alloc hk o2
  refine ⟨⟨by omega, Below.refl _ _, by omega, ?_, by simp, by simp⟩, ⟨hb, ?_, arr_ext hrow hx (fun _ _ h => h), arr_lt hrow rfl, ?_, ?_, ?_, ?_, ?_⟩⟩
  · rw [← h]
    have := heap_alloc_new ((((w.alloc (.cells #[.slice (some ⟨a, 0, none⟩) n n] 31)).alloc (.cells #[.int .i64 stop] 3)).alloc (.cells #[.bool false] 4)).alloc (.cells #[.pointer (some ⟨g, 0, none⟩)] 22)) (.cells #[.int .i64 0] 3)
    simp only [World.size_alloc] at this
    exact this
  · have h2 := hC.below hb
    exact ⟨by have := h2.gl; omega, h2.first, h2.row, fun i hi ha => by
      obtain ⟨x, e, hl, hc⟩ := h2.nx i hi ha
      exact ⟨x, e, by omega, hc⟩⟩
  · rw [← h]
    exact blk _ _ _ _ (blk _ _ _ _ (blk _ _ _ _ (blk _ _ _ _ (heap_alloc_new _ _))))
  · rw [← h]
    have := heap_alloc_new (w.alloc (.cells #[.slice (some ⟨a, 0, none⟩) n n] 31)) (.cells #[.int .i64 stop] 3)
    simp only [World.size_alloc] at this
    exact blk _ _ _ _ (blk _ _ _ _ (blk _ _ _ _ this))
  · rw [← h]
    have := heap_alloc_new ((w.alloc (.cells #[.slice (some ⟨a, 0, none⟩) n n] 31)).alloc (.cells #[.int .i64 stop] 3)) (.cells #[.bool false] 4)
    simp only [World.size_alloc] at this
    exact blk _ _ _ _ (blk _ _ _ _ this)
  · rw [← h]
    have := heap_alloc_new (((w.alloc (.cells #[.slice (some ⟨a, 0, none⟩) n n] 31)).alloc (.cells #[.int .i64 stop] 3)).alloc (.cells #[.bool false] 4)) (.cells #[.pointer (some ⟨g, 0, none⟩)] 22)
    simp only [World.size_alloc] at this
    exact blk _ _ _ _ this
  · rw [← h]; simp
/-- Within a turn: pre has come. -/
structure RoundI (n₀ : Nat) (W0 W : World) (tb nb lb k : Nat) (Ds : List Nat) (pre : List Int) : Prop where
  bel : Below n₀ W0 W
  turn : Boxed W tb 3 (.int .i64 k)
  nbx : Boxed W nb 3 (.int .i64 pre.length)
  lbx : Boxed W lb 3 (.int .i64 (pre.getLastD (-1)))
  lge : -1 ≤ pre.getLastD (-1)
  mks : ∀ D ∈ Ds, W.heap[D]? = some (.deferred (some []))
theorem roundI_own {n₀ B : Nat} {W0 : World} {tb nb lb k : Nat} {Ds : List Nat} (hn : n₀ ≤ W0.heap.size) (hB : n₀ ≤ B) (hD : ∀ D ∈ Ds, D < B) : OwnFrom B (fun pre W => RoundI n₀ W0 W tb nb lb k Ds pre) := fun pre X Y row hs hg hr => by
  have box : ∀ {b : Nat} {t : TypeId} {v : Value}, Boxed X b t v → Boxed Y b t v := fun {b t v} h => h.kept hg (fun e' => by
    obtain ⟨o, ho, hc⟩ := (hr _ e'.symm).2
    rw [show X.heap[b]? = _ from h] at ho
    cases ho; cases hc)
  refine ⟨hs.bel.grown hg (Nat.le_trans hn hs.bel.size) (fun k e => Nat.le_trans hB (hr k e).1), box hs.turn, box hs.nbx, box hs.lbx, hs.lge, fun D hD' => ?_⟩
  have h1 := hs.mks D hD'
  exact (hg.block D (Array.getElem?_eq_some_iff.1 h1).1 (fun e => by have := (hr D e.symm).1; have := hD D hD'; omega)).trans h1
theorem RoundI.step {n₀ : Nat} {W0 W : World} {tb nb lb k j : Nat} {Ds : List Nat} {pre : List Int} (h : RoundI n₀ W0 W tb nb lb k Ds pre) (h1 : tb ≠ nb) (h2 : tb ≠ lb) (h3 : nb ≠ lb) (hl : n₀ ≤ lb) (hn : n₀ ≤ nb) {u : Int} (hu : u = (pre.length : Int) + 1) :
    RoundI n₀ W0 ((W.setCell ⟨lb, 0, none⟩ (.int .i64 j)).setCell ⟨nb, 0, none⟩ (.int .i64 u)) tb nb lb k Ds (pre ++ [(j : Int)]) ∧ Below n₀ W ((W.setCell ⟨lb, 0, none⟩ (.int .i64 j)).setCell ⟨nb, 0, none⟩ (.int .i64 u)) := by
  have hb : Below n₀ W ((W.setCell ⟨lb, 0, none⟩ (.int .i64 j)).setCell ⟨nb, 0, none⟩ (.int .i64 u)) := ((Below.refl n₀ W).setCell (p := ⟨lb, 0, none⟩) hl _).setCell (p := ⟨nb, 0, none⟩) hn _
  refine ⟨⟨h.bel.trans hb, blk_far (blk_far h.turn (p := ⟨lb, 0, none⟩) h2 _) (p := ⟨nb, 0, none⟩) h1 _, ?_, ?_, ?_, fun D hD => ?_⟩, hb⟩
  · have := Boxed.set (.int .i64 u) (show Boxed (W.setCell ⟨lb, 0, none⟩ (.int .i64 j)) nb 3 _ from blk_far h.nbx (p := ⟨lb, 0, none⟩) h3 (.int .i64 j))
    subst hu
    simpa using this
  · have := blk_far (Boxed.set (.int .i64 j) h.lbx) (p := ⟨nb, 0, none⟩) h3.symm (.int .i64 u)
    simpa [Boxed] using this
  · simp
  · have hD1 := h.mks D hD
    have e1 : D ≠ lb := fun e => by have := h.lbx; unfold Boxed at this; rw [← e, hD1] at this; cases this
    have e2 : D ≠ nb := fun e => by have := h.nbx; unfold Boxed at this; rw [← e, hD1] at this; cases this
    exact blk_far (blk_far hD1 (p := ⟨lb, 0, none⟩) e1 _) (p := ⟨nb, 0, none⟩) e2 _
/-- A turn is left early: with true, or by a number that never comes. -/
structure LeftI (n₀ : Nat) (W0 W : World) (rb k : Nat) (Ds : List Nat) : Prop where
  res : Boxed W rb 4 (.bool true)
  bel : Below n₀ W0 W
  mks : ∀ D ∈ Ds, W.heap[D]? = some (.deferred (some []))
theorem leftI_own {n₀ B : Nat} {W0 : World} {rb k : Nat} {Ds : List Nat} {al : Nat → Bool} {n : Nat} (hn : n₀ ≤ W0.heap.size) (hB : n₀ ≤ B) (hD : ∀ D ∈ Ds, D < B) (c : Code) : OwnFrom B (fun pre W => c = .ret ∧ (LeftI n₀ W0 W rb k Ds ∨ ¬ pre <+: upTo al n)) := fun pre X Y row hs hg hr => by
  refine ⟨hs.1, hs.2.imp (fun h => ?_) id⟩
  refine ⟨h.res.kept hg (fun e' => by
    obtain ⟨o, ho, hc⟩ := (hr _ e'.symm).2
    rw [show X.heap[rb]? = _ from h.res] at ho
    cases ho; cases hc), h.bel.grown hg (Nat.le_trans hn h.bel.size) (fun k e => Nat.le_trans hB (hr k e).1), fun D hD' => ?_⟩
  have h1 := h.mks D hD'
  exact (hg.block D (Array.getElem?_eq_some_iff.1 h1).1 (fun e => by have := (hr D e.symm).1; have := hD D hD'; omega)).trans h1
def turnOf (a : Act) (w : World) : Nat := match a.tmps.getD 10 undef with
  | .pointer (some ad) => match w.cell? ad with
    | some (.int _ k) => 3 - k.toNat
    | _ => 0
  | _ => 0
theorem turnOf_eq {a : Act} {w : World} {ad : Addr} {z : Int} (h : a.tmps.getD 10 undef = .pointer (some ad)) (hc : w.cell? ad = some (.int .i64 z)) : turnOf a w = 3 - z.toNat := by
  unfold turnOf
  rw [h]
  simp only [hc]

set_option maxRecDepth 100000 in
set_option maxHeartbeats 2000000 in
theorem allf_in (F : Fence) (N : Nat) (h17 : F.fn 17) (h35 : F.fn 35) (h40 : F.fn 40) (hro : F.round = none) (hn : 3 ≤ N) (w : World) (g a n c : Nat) (p : Option Addr) (al : Nat → Bool) (stop : Int)
    (hC : ChAt w.heap.size w g n p c al) (hrow : Arr w 4 1 (some ⟨a, 0, none⟩) n n (bools (alL n al))) :
    CallsIn F N Try.prog 17 #[.pointer (some ⟨g, 0, none⟩), .slice (some ⟨a, 0, none⟩) n n, .int .i64 (cnt al n), .int .i64 stop] w fun e W' => e = .returned (.bool true) ∧ Below w.heap.size w W' := by
  have h1 : 1 ≤ N := by omega
  refine callsIn_of_wp_marks Try.func17 rfl h17 ?_ hro
  simp only [Try.ntmps17, List.size_toArray, List.length_cons, List.length_nil, Nat.reduceAdd, Nat.reduceSub, Array.replicate_succ, Array.replicate_zero, List.push_toArray, List.append_toArray, List.nil_append, List.cons_append]
  have hnil : ∀ b W, (binOp .eql 58 (.func (.func 40) #[] #[.pointer b]) Value.nilFunc).run Try.prog W = .ok (.bool false) W := fun b W => by kernel_rfl
  gi_wp2_with (gi_at_call 35; refine (all_in F (N - 1) h35 hro _ _).mono ?_; rintro e w' ⟨rfl, rfl⟩)
  obtain ⟨W0, hW0⟩ : ∃ W0, (((((w.alloc (.cells #[.slice (some ⟨a, 0, none⟩) n n] 31)).alloc (.cells #[.int .i64 stop] 3)).alloc (.cells #[.bool false] 4)).alloc (.cells #[.pointer (some ⟨g, 0, none⟩)] 22)).alloc (.cells #[.int .i64 0] 3)) = W0 := ⟨_, rfl⟩
  rw [hW0]
  have S0 := Lib.hid (start_facts hC hrow hW0)
  clear hW0
  refine wpIn_loop (fun a' wr => ∃ (k tb : Nat) (Ds : List Nat) (u11 u12 u13 u18 u19 u20 u21 u22 u23 u24 u25 u26 u27 u28 u29 u30 u31 u32 u33 u34 u35 u36 u37 u38 u39 u40 u41 u42 u43 u44 u45 u46 u47 u48 u49 u50 u51 u52 u53 : Value), TurnSt w W0 wr k tb Ds ∧ a' = { tmps := #[.pointer (some ⟨g, 0, none⟩), .slice (some ⟨a, 0, none⟩) n n, .int .i64 (cnt al n), .int .i64 stop, undef, .pointer (some ⟨w.heap.size, 0, none⟩), undef, .pointer (some ⟨w.heap.size + 1, 0, none⟩), .pointer (some ⟨w.heap.size + 1 + 1, 0, none⟩), .func (.func 40) #[] #[.pointer (some ⟨w.heap.size + 1 + 1 + 1, 0, none⟩)], .pointer (some ⟨tb, 0, none⟩), u11, u12, u13, .pointer (some ⟨g, 0, none⟩), .func (.func 40) #[] #[.pointer (some ⟨w.heap.size + 1 + 1 + 1, 0, none⟩)], .func (.func 40) #[] #[.pointer (some ⟨w.heap.size + 1 + 1 + 1, 0, none⟩)], .bool false, u18, u19, u20, u21, u22, u23, u24, u25, u26, u27, u28, u29, u30, u31, u32, u33, u34, u35, u36, u37, u38, u39, u40, u41, u42, u43, u44, u45, u46, u47, u48, u49, u50, u51, u52, u53], defers := marks Ds }) (fun a' wr => turnOf a' wr) ?_ ?_
  · exact ⟨0, w.heap.size + 4, [], undef, undef, undef, undef, undef, undef, undef, undef, undef, undef, undef, undef, undef, undef, undef, undef, undef, undef, undef, undef, undef, undef, undef, undef, undef, undef, undef, undef, undef, undef, undef, undef, undef, undef, undef, undef, undef, undef, undef, S0.out.1, rfl⟩
  · rintro a' wr ⟨k, tb, Ds, u11, u12, u13, u18, u19, u20, u21, u22, u23, u24, u25, u26, u27, u28, u29, u30, u31, u32, u33, u34, u35, u36, u37, u38, u39, u40, u41, u42, u43, u44, u45, u46, u47, u48, u49, u50, u51, u52, u53, hst, rfl⟩
    have HST := Lib.hid hst
    have c10 := hst.turn.cell
    have f10 := hst.turn.frozen
    by_cases hk : k < 3
    · have i1 : (k : Int) < 3 := by omega
      gi_wp2
      have S := S0.out.2
      have hx : Ext (fun _ => False) wr ((wr.alloc (.cells #[.int .i64 0] 3)).alloc (.cells #[.int .i64 (-1)] 3)) := ((Ext.refl _ _).alloc _).alloc _
      have ssz := hst.bel.size
      have bt := Below.trans hst.bel (hx.below.mono (by have := S.sz; omega))
      have hlt : ∀ D ∈ Ds, D < wr.heap.size := fun D hD => (Array.getElem?_eq_some_iff.1 (hst.mks D hD).2).1
      have R0 : RoundI (w.heap.size + 4) W0 ((wr.alloc (.cells #[.int .i64 0] 3)).alloc (.cells #[.int .i64 (-1)] 3)) tb wr.heap.size (wr.heap.size + 1) k Ds [] := by
        refine ⟨bt, (hst.turn.alloc _).alloc _, (Boxed.new wr _ _).alloc _, ?_, by simp, fun D hD => hx.obj (hst.mks D hD).2 (fun h => h)⟩
        have := Boxed.new (wr.alloc (.cells #[.int .i64 0] 3)) 3 (.int .i64 (-1))
        simpa using this
      have hs2 : ((wr.alloc (.cells #[.int .i64 0] 3)).alloc (.cells #[.int .i64 (-1)] 3)).heap.size = wr.heap.size + 2 := by simp
      have hsz := S.sz
      refine wpIn_rangeFunc_ownF hro h1 (gf := 40) (lb := #[.pointer (some ⟨w.heap.size + 1 + 1 + 1, 0, none⟩)]) rfl h40 (enters_of Try.func40 (by kernel_rfl) rfl)
        (all_stops F (N - 1) h40 hro (by omega) (w.heap.size + 1 + 1 + 1) (w.heap.size + 4) g n c p al ((wr.alloc (.cells #[.int .i64 0] 3)).alloc (.cells #[.int .i64 (-1)] 3)) (by omega) (by omega)
          ((bt.cell (p := ⟨w.heap.size + 1 + 1 + 1, 0, none⟩) (show w.heap.size + 1 + 1 + 1 < w.heap.size + 4 by omega)).trans S.bc.cell) (S.ch.below bt)) belowK_t (belowK_b (by omega)) (Below.refl _ _) (fun _ => rfl)
        (fun pre W => RoundI (w.heap.size + 4) W0 W tb wr.heap.size (wr.heap.size + 1) k Ds pre)
        (fun cd pre W => cd = .ret ∧ (LeftI w.heap.size W0 W (w.heap.size + 1 + 1) k Ds ∨ ¬ pre <+: upTo al n))
        (roundI_own (by omega) (by omega) (fun D hD => by have := hlt D hD; omega))
        (fun cd => leftI_own (by omega) (by omega) (fun D hD => by have := hlt D hD; omega) cd) R0
        (fun x => { tmps := #[.pointer (some ⟨g, 0, none⟩), .slice (some ⟨a, 0, none⟩) n n, .int .i64 (cnt al n), .int .i64 stop, undef, .pointer (some ⟨w.heap.size, 0, none⟩), undef, .pointer (some ⟨w.heap.size + 1, 0, none⟩), .pointer (some ⟨w.heap.size + 1 + 1, 0, none⟩), .func (.func 40) #[] #[.pointer (some ⟨w.heap.size + 1 + 1 + 1, 0, none⟩)], .pointer (some ⟨tb, 0, none⟩), .pointer (some ⟨wr.heap.size, 0, none⟩), .pointer (some ⟨wr.heap.size + 1, 0, none⟩), .int .i64 x, .pointer (some ⟨g, 0, none⟩), .func (.func 40) #[] #[.pointer (some ⟨w.heap.size + 1 + 1 + 1, 0, none⟩)], .func (.func 40) #[] #[.pointer (some ⟨w.heap.size + 1 + 1 + 1, 0, none⟩)], .bool false, .int .i64 k, .bool true, u20, u21, .func (.func 40) #[] #[.pointer (some ⟨w.heap.size + 1 + 1 + 1, 0, none⟩)], .int .i64 x, u24, u25, u26, u27, u28, u29, u30, u31, u32, u33, u34, u35, u36, u37, u38, u39, u40, u41, u42, u43, u44, u45, u46, u47, u48, u49, u50, u51, u52, u53], defers := [] }) ?assign ?body ?done ?stop
      case assign =>
        intro l x W K hK
        gi_wp2
        exact hK
      case body =>
        rintro l pre x W hR hlen
        have fn0 := hR.nbx.cell
        have fn1 := hR.nbx.frozen
        have fl0 := hR.lbx.cell
        have fl1 := hR.lbx.frozen
        have ft0 := hR.turn.cell
        have fi := (hR.bel.cell (p := ⟨w.heap.size, 0, none⟩) (show w.heap.size < w.heap.size + 4 by omega)).trans S.bi.cell
        have fs := (hR.bel.cell (p := ⟨w.heap.size + 1, 0, none⟩) (show w.heap.size + 1 < w.heap.size + 4 by omega)).trans S.bs.cell
        have hbr : Boxed W (w.heap.size + 1 + 1) 4 (.bool false) := (hR.bel.block (w.heap.size + 1 + 1) (by omega)).trans S.br
        have fr0 := hbr.cell
        have fr1 := hbr.frozen
        have HN := Lib.hid (fun h => upTo_next (al := al) (n := n) (pre := pre) (x := x) h)
        have hge := hR.lge
        have HR := Lib.hid hR
        have hpl : pre.length ≤ n := by
          have := cnt_le al n
          rw [upTo_length] at hlen
          omega
        have hst2 := hst
        clear hR hst HST c10 f10 hx bt R0 i1
        generalize hL : pre.getLastD (-1) = L at fl0 hge
        by_cases hx1 : x ≤ L
        · have d1 : decide (x ≤ L) = true := decide_eq_true hx1
          gi_wp2
          exact ⟨KeepsOthers.setCell _ _ _, rfl, .inr (fun h => absurd (HN.out h).1 (by omega))⟩
        · have d1 : decide (x ≤ L) = false := decide_eq_false hx1
          by_cases hx2 : x ≥ (n : Int)
          · have d2 : decide (x ≥ (n : Int)) = true := decide_eq_true hx2
            gi_wp2
            exact ⟨KeepsOthers.setCell _ _ _, rfl, .inr (fun h => absurd (HN.out h).2 (by rintro ⟨j, e, h1, _⟩; omega))⟩
          · have d2 : decide (x ≥ (n : Int)) = false := decide_eq_false hx2
            obtain ⟨j, rfl⟩ := Int.eq_ofNat_of_zero_le (show 0 ≤ x by omega)
            have hj : j < n := by omega
            have j1 : (j : Int) < (n : Int) := by omega
            have rj := (HR.out.bel.cell (p := ⟨a, j, none⟩) (show a < w.heap.size + 4 by have := S.al; omega)).trans ((arr_cell S.row j (by omega)).trans (alL_get n al j hj))
            cases hal : al j with
            | false =>
              rw [hal] at rj
              gi_wp2
              exact ⟨KeepsOthers.setCell _ _ _, rfl, .inr (fun h => absurd (HN.out h).2 (by rintro ⟨j', e, _, h2⟩; have ej : j = j' := (by omega); subst ej; rw [hal] at h2; cases h2))⟩
            | true =>
              rw [hal] at rj
              have htb := hst2.turn.lt
              have hq1 : w.heap.size + 1 < wr.heap.size := by omega
              have hq2 : w.heap.size + 1 + 1 < wr.heap.size := by omega
              have hmx := (arr_cap hrow).2
              have hw : wrap64 ((pre.length : Int) + 1) = (pre.length : Int) + 1 := by
                simp only [maxLen] at hmx
                unfold wrap64
                have := cnt_le al n
                rw [upTo_length] at hlen
                omega
              have T := Lib.hid (fun u hu => HR.out.step (j := j) (u := u) (by have := HR.out.turn.lt; have := hst2.turn.lt; omega) (by have := hst2.turn.lt; omega) (by omega) (by omega) (by omega) hu)
              by_cases hk2 : k = 2
              · subst hk2
                by_cases hs3 : (pre.length : Int) + 1 > stop
                · have d3 : decide ((pre.length : Int) + 1 > stop) = true := decide_eq_true hs3
                  gi_wp2
                  have T1 := (T.out _ rfl).1
                  refine ⟨((KeepsOthers.setCell _ _ _).trans (KeepsOthers.setCell _ _ _)).trans (KeepsOthers.setCell _ _ _), rfl, .inl ⟨Boxed.set _ ((T1.bel.block (w.heap.size + 1 + 1) (by omega)).trans S.br), (T1.bel.mono (by omega)).setCell (p := ⟨w.heap.size + 1 + 1, 0, none⟩) (show w.heap.size ≤ w.heap.size + 1 + 1 by omega) _, fun D hD => blk_far (T1.mks D hD) (p := ⟨w.heap.size + 1 + 1, 0, none⟩) (by have := (hst2.mks D hD).1; show D ≠ w.heap.size + 1 + 1; omega) _⟩⟩
                · have d3 : decide ((pre.length : Int) + 1 > stop) = false := decide_eq_false hs3
                  gi_wp2
                  exact ⟨(KeepsOthers.setCell _ _ _).trans (KeepsOthers.setCell _ _ _), (T.out _ rfl).2, (T.out _ rfl).1⟩
              · have d3 : ((k : Int) == 2) = false := by rw [beq_eq_false_iff_ne]; omega
                gi_wp2
                exact ⟨(KeepsOthers.setCell _ _ _).trans (KeepsOthers.setCell _ _ _), (T.out _ rfl).2, (T.out _ rfl).1⟩
      case done =>
        rintro D zs W hBD rfl hR hK
        have fn0 := hR.nbx.cell
        rw [upTo_length] at fn0
        have ft0 := hR.turn.cell
        have htl := hR.turn.lt
        have hkk : wrap64 ((k : Int) + 1) = (k : Int) + 1 := by unfold wrap64; omega
        have HR := Lib.hid hR
        clear hR c10 f10 hx bt R0
        have c10 := hst.turn.cell
        have hWs : W0.heap.size ≤ W.heap.size := HR.out.bel.size
        have hEx : Ext (fun _ => False) W (W.alloc (.cells #[.int .i64 ((k : Int) + 1)] 3)) := (Ext.refl _ _).alloc _
        have TS : TurnSt w W0 (W.alloc (.cells #[.int .i64 ((k : Int) + 1)] 3)) (k + 1) W.heap.size (D :: Ds) := by
          refine ⟨by omega, HR.out.bel.trans (hEx.below.mono (by omega)), by omega, by simpa using Boxed.new W 3 (.int .i64 ((k : Int) + 1)), fun E hE => ?_, List.nodup_cons.2 ⟨fun h => by have := hlt D h; omega, hst.nd⟩⟩
          rcases List.mem_cons.1 hE with rfl | hE
          · exact ⟨by omega, blk_alloc hK _⟩
          · exact ⟨(hst.mks E hE).1, blk_alloc (HR.out.mks E hE) _⟩
        have TS := Lib.hid TS
        have cN : (W.alloc (.cells #[.int .i64 ((k : Int) + 1)] 3)).cell? ⟨W.heap.size, 0, none⟩ = some (.int .i64 ((k : Int) + 1)) := (Boxed.new W 3 (.int .i64 ((k : Int) + 1))).cell
        have CN := Lib.hid cN
        have C10 := Lib.hid c10
        clear cN c10 hEx
        gi_wp2
        refine ⟨⟨k + 1, W.heap.size, D :: Ds, _, _, _, _, _, _, _, _, _, _, _, _, _, _, _, _, _, _, _, _, _, _, _, _, _, _, _, _, _, _, _, _, _, _, _, _, _, _, _, TS.out, rfl⟩, ?_⟩
        rw [turnOf_eq rfl C10.out, turnOf_eq rfl CN.out]
        omega
      case stop =>
        rintro D cd pre W hBD hpre ⟨rfl, hl | hno⟩ hK
        · gi_wp2
          show LeavesInM F N _ _ _ _ (marks (D :: Ds)) .returning W
          refine leaves_marks (w.heap.size + 4) (D :: Ds) W ?_ ?_ (fun w' hw' => ?_)
          · intro E hE
            rcases List.mem_cons.1 hE with rfl | hE
            · exact ⟨by omega, hK⟩
            · exact ⟨(hst.mks E hE).1, hl.mks E hE⟩
          · exact List.nodup_cons.2 ⟨fun h => by have := hlt D h; omega, hst.nd⟩
          · have hc5 := (hw'.cell (p := ⟨w.heap.size + 1 + 1, 0, none⟩) (show w.heap.size + 1 + 1 < w.heap.size + 4 by omega)).trans hl.res.cell
            refine ⟨.bool true, ?_, rfl, S.bel.trans (hl.bel.trans (hw'.mono (by omega)))⟩
            simp [results, Try.f17, go_sem, hc5]
        · exact absurd hpre hno
    · have i1 : ¬ ((k : Int) < 3) := by omega
      have S := S0.out.2
      have hbr : Boxed wr (w.heap.size + 1 + 1) 4 (.bool false) := (hst.bel.block (w.heap.size + 1 + 1) (by omega)).trans S.br
      have fr0 := hbr.cell
      have fr1 := hbr.frozen
      gi_wp2
      show LeavesInM F N _ _ _ _ (marks Ds) .returning _
      refine leaves_marks (w.heap.size + 4) Ds _ ?_ hst.nd (fun w' hw' => ?_)
      · intro E hE
        obtain ⟨h3, h4⟩ := hst.mks E hE
        exact ⟨h3, blk_far h4 (p := ⟨w.heap.size + 1 + 1, 0, none⟩) (show E ≠ w.heap.size + 1 + 1 by omega) _⟩
      · have hc5 := (hw'.cell (p := ⟨w.heap.size + 1 + 1, 0, none⟩) (show w.heap.size + 1 + 1 < w.heap.size + 4 by omega)).trans (Boxed.set (.bool true) hbr).cell
        refine ⟨.bool true, ?_, rfl, S.bel.trans (((hst.bel.mono (by omega)).setCell (p := ⟨w.heap.size + 1 + 1, 0, none⟩) (show w.heap.size ≤ w.heap.size + 1 + 1 by omega) _).trans (hw'.mono (by omega)))⟩
        simp [results, Try.f17, go_sem, hc5]
end Go.Proofs.Ytjaehghnjolaaaa.Chain
