/- bpe.Steps: its iterator. -/
import Derived.Test.YtiminpcpnblppaaBpeFen
import Derived.Test.YtiminpcpnblppaaMut
import Derived.Test.YtiminpcpnblppaaReg
import Derived.RangeFuncBox
import Derived.RangeFuncBound
import Derived.WalkKit
import Derived.OwnWalkIn
import Derived.TacticsInMore
import Derived.LoopNIn
import Derived.LoopIn
import Derived.Sort.LoopGhostIn
import Derived.Sort.CutIn
import Derived.Sort.QuietIn
import Derived.RegionIn
import Derived.Stop.RegionWithIn
import Derived.Deep.RegionHeld3
namespace Go.Proofs.Ytiminpcpnblppaa.Bpe
open Go.RowKit Go.Shelf Go.Proofs.Ytiminpcpnblppaa.Lib Go.Proofs.Ytiminpcpnblppaa.Sl Go.Proofs.Ytiminpcpnblppaa.Chain Go.Proofs.Ytiminpcpnblppaa.ElBpe Go.Proofs.Ytiminpcpnblppaa.HeapPure
set_option linter.unusedVariables false
set_option linter.unusedSimpArgs false
attribute [local go_sem] Oper.semAt_some

/-- What is no part of the work changes, old or new. -/
theorem St.aside {T : Nat → Prop} {B : Nat} {w w' : World} {b : Nat} {d : Dat} {n : Nat} {I : List Int} {al : Nat → Bool} {H : List El} {P : Pw} {p2 : Option Addr} {c2 : Nat} (h : St B w b d n I al H P p2 c2) (hx : Ext T w w') (hT : ∀ k, T k → ¬ Own P p2 k ∧ k ≠ b)
    (hm : ∃ w0, IsModel w0 P.m d ∧ w0.heap.size ≤ B ∧ Ext (fun _ => False) w0 w') : St B w' b d n I al H P p2 c2 :=
  ⟨h.lo, h.lo0, h.l01, h.l1h, h.lhb, h.lrow, hx.obj h.blk (fun hk => (hT _ hk).2 rfl), arr_ext h.row hx (fun k hk hS => (hT k hS).1 (.inr (.inr (.inl hk)))), h.chain.ext hx (fun k hk _ hS => (hT k hS).1 (.inr (.inr (.inr hk)))),
    h.heap.ext hx (fun hS => (hT _ hS).1 (.inl rfl)) (fun k hk hS => (hT k hS).1 (.inr (.inl hk))), hm, h.len⟩
/-- The steps of a text. -/
def stepsT (d : Dat) (s : ByteArray) : List (Nat × Nat) := (joinT d.ms (bytesL s)).2
/-- The iterator between two rounds; O: all that is its own. -/
structure SpSt (wm wr : World) (B b tb : Nat) (d : Dat) (n : Nat) (I : List Int) (al : Nat → Bool) (H : List El) (P : Pw) (p2 : Option Addr) (c2 : Nat) (O : Nat → Prop) : Prop where
  st : St B wr b d n I al H P p2 c2
  heap : Heap HeapB.less H
  inv : BInv d.ms n I al H
  fen : Fen wr tb n al
  own : ∀ k, Own P p2 k → O k
  ob : O b
  ot : O tb
  tn : ¬ Own P p2 tb ∧ tb ≠ b
  mod : Ext (fun _ => False) wm wr
  ol : ∀ k, O k → B ≤ k ∧ k < wr.heap.size
theorem SpSt.done {wm wr w2 : World} {B b tb : Nat} {d : Dat} {n : Nat} {I : List Int} {al : Nat → Bool} {H H' : List El} {P : Pw} {p2 : Option Addr} {c2 c2' : Nat} {O : Nat → Prop} (h : SpSt wm wr B b tb d n I al H P p2 c2 O) (hB : wm.heap.size ≤ B) (hx : Ext (Own P p2) wr w2) : Ext (fun k => O k) wr w2 ∧ Ext (fun _ => False) wm w2 :=
  ⟨hx.mono (fun k hk => h.own k hk), h.mod.trans hx (fun i hi hk => by have := (h.ol i (h.own i hk)).1; omega)⟩
/-- What a step leaves, and a box for its pair. -/
theorem SpSt.step {wm wr w2 w4 : World} {B b tb : Nat} {d : Dat} {n : Nat} {I I' : List Int} {al al' : Nat → Bool} {H H' : List El} {P : Pw} {p2 p2' : Option Addr} {c2 c2' : Nat} {O : Nat → Prop} (h : SpSt wm wr B b tb d n I al H P p2 c2 O) (hB : wm.heap.size ≤ B)
    (hx : Ext (Own P p2) wr w2) (s' : St B w2 b d n I' al' H' P p2' c2') (mv : Moved wr p2 p2') (hx4 : Ext (fun _ => False) w2 w4) :
    Fen w4 tb n al ∧ St B w4 b d n I' al' H' P p2' c2' ∧ (∀ k, Own P p2' k → O k ∨ (wr.heap.size ≤ k ∧ k < w4.heap.size)) ∧ (¬ Own P p2' tb ∧ tb ≠ b) ∧ Ext (fun _ => False) wm w4 ∧ Ext (fun k => O k ∨ (wr.heap.size ≤ k ∧ k < w4.heap.size)) wr w4 ∧ wr.heap.size ≤ w4.heap.size := by
  have ht := h.ol tb h.ot
  have hs := hx.size
  have hs4 := hx4.size
  refine ⟨(h.fen.ext hx h.tn.1).ext hx4 (fun h => h), s'.on hx4, fun k hk => ?_, ⟨fun hk => ?_, h.tn.2⟩, (h.done (H' := H) (c2' := c2) hB hx).2.trans hx4 (fun _ _ h => h), ((hx.mono (fun k hk => .inl (h.own k hk))).trans hx4 (fun _ _ h => h.elim)), by omega⟩
  · have hlt := s'.own_lt hk
    rcases hk with hk | hk | hk | hk
    · exact .inl (h.own k (.inl hk))
    · rcases mv k hk with hh | hh
      · exact .inl (h.own k (.inr (.inl hh)))
      · exact .inr ⟨hh, by omega⟩
    · exact .inl (h.own k (.inr (.inr (.inl hk))))
    · exact .inl (h.own k (.inr (.inr (.inr hk))))
  · rcases hk with hk | hk | hk | hk
    · exact h.tn.1 (.inl hk)
    · rcases mv tb hk with hh | hh
      · exact h.tn.1 (.inr (.inl hh))
      · omega
    · exact h.tn.1 (.inr (.inr (.inl hk)))
    · exact h.tn.1 (.inr (.inr (.inr hk)))
set_option maxRecDepth 100000 in
set_option maxHeartbeats 4000000 in
theorem steps_mut (N : Nat) (hN : 1 ≤ N) {w wm : World} {m mb sb : Nat} {d : Dat} {s : ByteArray} {V : Nat → Prop} (hm : IsModel wm m d) (hd : RightD d) (hs : s.size ≤ 1048576) (hx : Ext (fun _ => False) wm w) (hV : ∀ k, V k → wm.heap.size ≤ k)
    (bm : Boxed w mb 28 (.pointer (some ⟨m, 0, none⟩))) (bs : Boxed w sb 9 (.string s)) :
    SeqMut Fence.wide N Try.prog 40 #[.pointer (some ⟨mb, 0, none⟩), .pointer (some ⟨sb, 0, none⟩)] (fun x : Nat × Nat => #[.agg #[.int .i64 (x.1 : Int), .int .i64 (x.2 : Int)]]) V (fun pre x => pre ++ [x] <+: stepsT d s) (fun xs => xs = stepsT d s) (fun pre => pre <+: stepsT d s) w := by
  intro l J Jx W hW hJ hJx hY h0
  have HJ := Lib.hid hJ
  have HJx := Lib.hid hJx
  have HY := Lib.hid hY
  have H0 := Lib.hid h0
  have cm : W.cell? ⟨mb, 0, none⟩ = some (.pointer (some ⟨m, 0, none⟩)) := (hW.cell (p := ⟨mb, 0, none⟩) bm.lt (fun h => h)).trans bm.cell
  have cs : W.cell? ⟨sb, 0, none⟩ = some (.string s) := (hW.cell (p := ⟨sb, 0, none⟩) bs.lt (fun h => h)).trans bs.cell
  have lm : mb < W.heap.size := Nat.lt_of_lt_of_le bm.lt hW.size
  have ls0 : sb < W.heap.size := Nat.lt_of_lt_of_le bs.lt hW.size
  have XM := Lib.hid (hx.trans hW (fun _ _ h => h))
  have HV := Lib.hid hV
  have HM := Lib.hid hm
  have HD := Lib.hid hd
  have NW := Lib.hid (show wm.heap.size ≤ w.heap.size ∧ w.heap.size ≤ W.heap.size from ⟨hx.size, hW.size⟩)
  clear hJ hJx hY h0 hW hx hV hm hd bm bs
  have hq : ∀ W, (binOp .eql 28 (.pointer (some ⟨m, 0, none⟩)) (.pointer none)).run Try.prog W = .ok (.bool false) W := fun W => by kernel_rfl
  have i0 : decide ((s.size : Int) > 1048576) = false := decide_eq_false (by omega)
  refine callsIn_of_wp Try.func40 rfl trivial ?_ rfl
  simp only [Try.ntmps40, List.size_toArray, List.length_cons, List.length_nil, Nat.reduceAdd, Nat.reduceSub, Array.replicate_succ, Array.replicate_zero, List.push_toArray, List.append_toArray, List.nil_append, List.cons_append]
  gi_upto_region 1 with (fail)
  refine wpIn_wide.2 ?_
  have D0 := Lib.hid (show Ext (fun _ => False) W W.drew from Ext.drew (Ext.refl _ _))
  have CE := Lib.hid (show ∀ w', Ext (fun _ => False) W w' → (w'.cell? ⟨mb, 0, none⟩ = some (.pointer (some ⟨m, 0, none⟩)) ∧ w'.cell? ⟨sb, 0, none⟩ = some (.string s)) ∧ Ext (fun _ => False) W w' from fun w' e =>
    ⟨⟨(e.cell (p := ⟨mb, 0, none⟩) lm (fun h => h)).trans cm, (e.cell (p := ⟨sb, 0, none⟩) ls0 (fun h => h)).trans cs⟩, e⟩)
  have BY := Lib.hid (bytes_any W.drew s hs)
  have BG := Lib.hid (fun (w1 : World) (A1 : Arr w1 3 1 (some ⟨W.heap.size, 0, none⟩) s.size s.size (Chain.ints (bytesL s))) (X1 : Ext (fun _ => False) W w1) =>
    show Calls Try.prog 34 #[.pointer (some ⟨m, 0, none⟩), .slice (some ⟨W.heap.size, 0, none⟩) s.size s.size] w1 fun e w' => BegEnd w1 m d (bytesL s) e w' from by
      have := begin_any (HM.out.on (XM.out.trans X1 (fun _ _ h => h))) HD.out.pn (p := some ⟨W.heap.size, 0, none⟩) (c := s.size) (ids := bytesL s) (ints_rd A1) (by rw [bytesL_length]; exact hs)
      rwa [bytesL_length] at this)
  clear cm cs
  go_region_held3 (fun w' => (w'.cell? ⟨mb, 0, none⟩ = some (.pointer (some ⟨m, 0, none⟩)) ∧ w'.cell? ⟨sb, 0, none⟩ = some (.string s)) ∧ Ext (fun _ => False) W w')
    (first | exact CE.out _ D0.out | exact CE.out _ Y2.out | exact CE.out _ Y1.out)
    (first
      | (go_at_call 38; (with_reducible refine BY.out.mono ?_); rintro e w1 ⟨rfl, a1, x1⟩; have A1 := Lib.hid (show Arr w1 3 1 (some ⟨W.heap.size, 0, none⟩) s.size s.size (Chain.ints (bytesL s)) from a1); have Y1 := Lib.hid (D0.out.trans x1 (fun _ _ h => h)); clear a1 x1)
      | (go_at_call 34; (with_reducible refine (BG.out w1 A1.out Y1.out).mono ?_); rintro e w2 ⟨b, P, p2, c2, H, rfl, hPm, hS, hH, hB, x2⟩; have GB := Lib.hid (And.intro hPm (And.intro hS (And.intro hH hB))); have Y2 := Lib.hid (Y1.out.trans x2 (fun _ _ h => h)); clear hPm hS hH hB x2))
  have XB := Lib.hid (show Ext (fun _ => False) wm w2 from XM.out.trans Y2.out (fun _ _ h => h))
  have cs2 : w2.cell? ⟨sb, 0, none⟩ = some (.string s) := (CE.out _ Y2.out).1.2
  dsimp only [Exit.then]
  gi_wp2_with fail
  refine ⟨trivial, (callsIn_wide.2 (begun_any w2 s.size hs)).mono ?_⟩
  rintro e w3 ⟨rfl, f3, x3⟩
  obtain ⟨tb, htb⟩ : ∃ tb, w2.heap.size = tb := ⟨_, rfl⟩
  rw [htb] at f3
  rw [htb]
  have G0 := Lib.hid (show ∃ pre O I al H p2 c2, SpSt wm w3 W.heap.size b tb d s.size I al H P p2 c2 O ∧ J pre O w3 ∧ stepsT d s = pre ++ (joinT d.ms (cur I al s.size)).2 ∧ cnt al s.size = s.size ∧ (∀ k, O k → k < w3.heap.size) from by
    obtain ⟨g1, g2, g3, g4⟩ := GB.out
    rw [bytesL_length] at g2 g4
    have z1 := Y1.out.size
    have z2 := Y2.out.size
    have z3 := x3.size
    have e0 := g2.lo0
    have e1 := g2.l01
    have e2 := g2.l1h
    have e3 := g2.lhb
    have bl := blk_lt g2.blk
    have S3 : St W.heap.size w3 b d s.size (bytesL s) (allAl s.size) H P p2 c2 := by
      have t := g2.on x3
      refine ⟨fun k hk => ⟨by have := (t.lo k hk).1; omega, (t.lo k hk).2⟩, by omega, t.l01, t.l1h, t.lhb, t.lrow, t.blk, t.row, t.chain, t.heap, ⟨wm, by rw [g1]; exact HM.out, by have := NW.out; omega, XB.out.trans x3 (fun _ _ h => h)⟩, t.len⟩
    refine ⟨[], fun k => W.heap.size ≤ k ∧ k < w3.heap.size, bytesL s, allAl s.size, H, p2, c2, ⟨S3, g3, g4, f3, fun k hk => ⟨S3.own hk, S3.own_lt hk⟩, ⟨by omega, by omega⟩, ⟨by omega, f3.lt⟩, ⟨fun hk => ?_, by omega⟩, XB.out.trans x3 (fun _ _ h => h), fun k hk => hk⟩, ?_, ?_, cnt_all _ _ (Nat.le_refl _), fun k hk => hk.2⟩
    · have := g2.own_lt hk; omega
    · exact HJ.out _ _ _ _ _ H0.out (fun k h => h.elim) (fun k h => .inr h.1) ((Y2.out.trans x3 (fun _ _ h => h)).mono (fun _ h => h.elim))
    · have := cur_all (bytesL s)
      rw [bytesL_length] at this
      rw [this]
      rfl)
  have PM := Lib.hid GB.out.1
  clear BG BY D0 CE f3 x3 GB A1 XB Y1 Y2 XM lm ls0 H0 cs2 htb i0 hq
  gi_wp2_with fail
  gi_loopg [] s.size (fun gk wr => ∃ pre O I al H p2 c2, SpSt wm wr W.heap.size b tb d s.size I al H P p2 c2 O ∧ J pre O wr ∧ stepsT d s = pre ++ (joinT d.ms (cur I al s.size)).2 ∧ cnt al s.size = gk ∧ (∀ k, O k → k < wr.heap.size))
  case atStart => exact G0.out
  case round =>
    obtain ⟨pre, O, I, al, H1, p3, c3, hS, hj, ht, hg, hO⟩ := hrel
    have SP := Lib.hid hS
    have JW := Lib.hid hj
    have TT := Lib.hid ht
    have GK := Lib.hid hg
    have OL := Lib.hid hO
    have ST := Lib.hid (step_any hS.st hS.heap hS.inv HD.out.pn hs)
    have HB := Lib.hid (show wm.heap.size ≤ W.heap.size from by have := NW.out; omega)
    clear hS hj ht hg hO G0
    gi_wp2_with fail
    refine ⟨trivial, (callsIn_wide.2 ST.out).mono ?_⟩
    rintro e w2 ⟨y2, h⟩
    rcases h with ⟨hn, rfl, c4, H4, s4, k4, v4⟩ | ⟨x, hn, hv, hb, rfl, p4, c4, H4, s4, k4, v4, m4⟩
    · have YY := Lib.hid (SP.out.done (H' := H4) (c2' := c4) HB.out y2)
      have E := Lib.hid (show pre = stepsT d s from by rw [TT.out, joinT_none hn, List.append_nil])
      clear hn s4 k4 v4 y2
      gi_wp2_with fail
      refine wpIn_wide.2 ?_
      go_quiet (fail)
      dsimp only [Exit.then]
      gi_wp2_with fail
      refine bodyPost_ret (results_none rfl _ _ _) rfl ?_
      refine ⟨⟨_, rfl⟩, .inl ⟨stepsT d s, fun k => O k, rfl, fun k hk => (SP.out.ol k hk).1, ?_⟩⟩
      rw [← E.out]
      exact HJ.out _ _ _ _ _ JW.out (fun _ h => h) (fun _ h => .inl h) (by repeat (first | exact YY.out.1 | refine Ext.drew ?_ | refine Ext.drewN ?_ _ | refine Ext.alloc ?_ _))
    · obtain ⟨F0, F1, F2, F3, F4, F5⟩ := x
      simp only at hn hv hb s4 v4
      obtain ⟨p, hp⟩ : ∃ p : Nat, F1 = p := ⟨F1.toNat, by omega⟩
      obtain ⟨q, hq⟩ : ∃ q : Nat, F2 = q := ⟨F2.toNat, by omega⟩
      obtain ⟨r, hr⟩ : ∃ r : Nat, F0 = r := ⟨F0.toNat, by omega⟩
      subst hp hq hr
      have SJ := Lib.hid (by have := step_join SP.out.st.len hn hv; simp only [Int.toNat_natCast] at this; exact this)
      rw [Int.toNat_natCast] at s4 v4
      rw [Int.toNat_natCast] at s4 v4
      have hpq : p < q ∧ q < s.size := by omega
      obtain ⟨hpq, hqn⟩ := hpq
      have AQ := Lib.hid (show al q = true from hv.1.right)
      obtain ⟨W4, hW4⟩ : ∃ W4, w2.alloc (.cells #[.int .i64 (r : Int), .int .i64 (p : Int), .int .i64 (q : Int), .int .i64 F3, .int .i64 F4, .int .i64 F5] 86) = W4 := ⟨_, rfl⟩
      obtain ⟨xb, hxb⟩ : ∃ xb, w2.heap.size = xb := ⟨_, rfl⟩
      have X4 : Ext (fun _ => False) w2 W4 := by rw [← hW4]; exact (Ext.refl _ _).alloc _
      have BX := Lib.hid (show W4.heap[xb]? = some (.cells #[.int .i64 (r : Int), .int .i64 (p : Int), .int .i64 (q : Int), .int .i64 F3, .int .i64 F4, .int .i64 F5] 86 (0, 0)) from by rw [← hW4, ← hxb]; exact heap_alloc_new w2 _)
      have NB := Lib.hid (show wr.heap.size ≤ xb ∧ xb < W4.heap.size from ⟨by have := y2.size; omega, blk_lt BX.out⟩)
      have SS := Lib.hid (SP.out.step HB.out y2 s4 m4 X4)
      obtain ⟨O2, hO2⟩ : ∃ O2 : Nat → Prop, (fun k => O k ∨ (wr.heap.size ≤ k ∧ k < W4.heap.size)) = O2 := ⟨_, rfl⟩
      have JJ := Lib.hid (show ∀ W5, Ext (fun _ => False) W4 W5 → J pre O2 W5 from fun W5 h5 => by
        rw [← hO2]
        exact HJ.out _ _ _ _ _ JW.out (fun _ h => .inl h) (fun k h => h.elim .inl (fun h => .inr h.1)) (SS.out.2.2.2.2.2.1.trans h5 (fun _ _ h => h.elim)))
      have HV4 := Lib.hid (And.intro k4 v4)
      have PX := Lib.hid (show pre ++ [(r, cnt al p)] <+: stepsT d s from by
        rw [TT.out, SJ.out.1]
        simp)
      have O2B := Lib.hid (show ∀ k, O2 k → W.heap.size ≤ k ∧ k < W4.heap.size from fun k hk => by
        rw [← hO2] at hk
        rcases hk with hk | hk
        · exact ⟨(SP.out.ol k hk).1, by have := (SP.out.ol k hk).2; have := SS.out.2.2.2.2.2.2; omega⟩
        · have := (SP.out.ol b SP.out.ob); omega)
      have O2i := Lib.hid (show (∀ k, O k → O2 k) ∧ O2 xb ∧ ∀ k, Own P p4 k → O2 k from by
        rw [← hO2]
        exact ⟨fun _ h => .inl h, .inr NB.out, SS.out.2.2.1⟩)
      have BL := Lib.hid (fun W5 (h5 : Ext (fun _ => False) W4 W5) => below_any (SS.out.1.ext h5 (fun h => h)) hs p (by omega))
      have YA := HY.out pre (r, cnt al p) O2 W4.drew (JJ.out _ (Ext.refl _ _).drew) PX.out (fun k hk => O2B.out k hk)
      have YB : YieldAt Fence.wide (N - 1) Try.prog l #[.agg #[.int .i64 (r : Int), .int .i64 (cnt al p : Int)]] W4.drew fun e W' => ∃ v : Bool, e = .returned (.bool v) ∧ ((v = true ∧ J (pre ++ [(r, cnt al p)]) O2 W' ∧ Ext (Free V O2 w.heap.size) W4.drew W') ∨ (v = false ∧ Jx (pre ++ [(r, cnt al p)]) O2 W')) :=
        YieldAt.mono YA (fun e W' h => by
          rcases h with ⟨rfl, h⟩ | ⟨rfl, h⟩
          · exact ⟨true, rfl, .inl ⟨rfl, h⟩⟩
          · exact ⟨false, rfl, .inr ⟨rfl, h⟩⟩)
      obtain ⟨fn, tmps, assign, body, hy, hR⟩ := YB
      have RR := Lib.hid hR
      have bl := blk_lt BX.out
      have b0 := blk_cell BX.out 0
      have b1 := blk_cell BX.out 1
      simp at b0 b1
      have BLW := Lib.hid (BL.out W4.drew (Ext.refl _ _).drew)
      obtain ⟨cp, hcp⟩ : ∃ cp, cnt al p = cp := ⟨_, rfl⟩
      rw [hcp] at BLW hy RR PX
      have HCP := Lib.hid hcp
      have SPB := Lib.hid (show O b ∧ O tb ∧ P.m = m from ⟨SP.out.ob, SP.out.ot, PM.out⟩)
      clear YA hR hn hv hb s4 k4 v4 m4 y2 X4 hO2 SP JW ST hcp
      gi_wp2_with fail
      try rw [hW4]
      try rw [hxb]
      clear hW4 hxb
      gi_region_with (first
        | (refine ⟨trivial, ?_⟩; gi_at_call 42; (with_reducible refine (callsIn_wide.2 BLW.out).mono ?_); rintro e w9 ⟨rfl, rfl⟩)
        | (refine RR.out.mono ?_; rintro e W9 ⟨v, rfl, hv9⟩))
      all_goals
        dsimp only [Exit.then]
        rcases hv9 with ⟨rfl, jv, xv⟩ | ⟨rfl, jx⟩
        · have XN := Lib.hid (show Ext (Free V O2 w.heap.size) W4 W9 from xv.undrew)
          have FN := Lib.hid (show ∀ k, Free V O2 w.heap.size k → ¬ O2 k ∧ ¬ k < wm.heap.size from fun k hk => ⟨hk.1, fun h => by
            rcases hk.2 with h1 | h1
            · have := NW.out; omega
            · have := HV.out k h1; omega⟩)
          have XW := Lib.hid (show Ext (fun _ => False) wm W9 from SS.out.2.2.2.2.1.trans XN.out (fun i hi hk => (FN.out i hk).2 hi))
          have S9 := Lib.hid (show St W.heap.size W9 b d s.size (I.set p F5) (cutAl al q) H4 P p4 c4 from SS.out.2.1.aside XN.out (fun k hk => ⟨fun ho => (FN.out k hk).1 (O2i.out.2.2 k ho), fun e => (FN.out k hk).1 (by rw [e]; exact O2i.out.1 b SPB.out.1)⟩) ⟨wm, by rw [SPB.out.2.2]; exact HM.out, HB.out, XW.out⟩)
          have F9 := Lib.hid (SS.out.1.ext XN.out (fun hk => (FN.out tb hk).1 (O2i.out.1 tb SPB.out.2.1)))
          have B9 := XN.out.obj BX.out (fun hk => (FN.out xb hk).1 O2i.out.2.1)
          have c2' := blk_cell B9 2
          simp at c2'
          have JV := Lib.hid jv
          have CU := Lib.hid (cut_any F9.out hs q hqn AQ.out)
          clear b0 b1 B9 hy jv xv
          gi_wp2_with fail
          refine ⟨trivial, (callsIn_wide.2 CU.out).mono ?_⟩
          rintro e w10 ⟨rfl, f10, x10⟩
          have F10 := Lib.hid f10
          have X10 := Lib.hid x10
          have OT := Lib.hid (O2i.out.1 tb SPB.out.2.1)
          have R := Lib.hid (show ∃ pre O I al_1 H p2 c2, SpSt wm w10 W.heap.size b tb d s.size I al_1 H P p2 c2 O ∧ J pre O w10 ∧ stepsT d s = pre ++ (joinT d.ms (cur I al_1 s.size)).2 ∧ cnt al_1 s.size = cnt (cutAl al q) s.size ∧ (∀ k, O k → k < w10.heap.size) from by
            have z := X10.out.size
            have z2 := XN.out.size
            refine ⟨pre ++ [(r, cp)], O2, I.set p F5, cutAl al q, H4, p4, c4, ⟨?_, HV4.out.1, HV4.out.2, F10.out, O2i.out.2.2, O2i.out.1 b SPB.out.1, OT.out, SS.out.2.2.2.1, XW.out.trans X10.out (fun i hi e => ?_), fun k hk => ⟨(O2B.out k hk).1, ?_⟩⟩, ?_, ?_, rfl, fun k hk => ?_⟩
            · refine S9.out.aside X10.out (fun k e => ?_) ⟨wm, by rw [SPB.out.2.2]; exact HM.out, HB.out, XW.out.trans X10.out (fun i hi e => ?_)⟩
              · subst e; exact ⟨SS.out.2.2.2.1.1, SS.out.2.2.2.1.2⟩
              · have := (O2B.out tb OT.out).1; have := HB.out; omega
            · have := (O2B.out tb OT.out).1; have := HB.out; omega
            · have := (O2B.out k hk).2; omega
            · exact HJ.out _ _ _ _ _ JV.out (fun _ h => h) (fun _ h => .inl h) (X10.out.mono (fun k e => by subst e; exact OT.out))
            · rw [TT.out, SJ.out.1, HCP.out]; simp
            · have := (O2B.out k hk).2; omega)
          clear f10 x10
          gi_wp2_with fail
          gi_roundg (cnt (cutAl al q) s.size)
          case measure => have := SJ.out.2; have := GK.out; omega
          case rel => exact R.out
        · have JX := Lib.hid jx
          clear b0 b1 hy jx
          gi_wp2_with fail
          refine bodyPost_ret (results_none rfl _ _ _) rfl ?_
          exact ⟨⟨_, rfl⟩, .inr ⟨_, O2, PX.out, fun k hk => (O2B.out k hk).1, JX.out⟩⟩
end Go.Proofs.Ytiminpcpnblppaa.Bpe
