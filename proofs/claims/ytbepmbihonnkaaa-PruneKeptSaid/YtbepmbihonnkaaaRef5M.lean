/- tesseraref5.merges and Check. -/
import Derived.Test.YtbepmbihonnkaaaRef5
import Derived.IntWalk
import Derived.Deep.DeepCutAuto
namespace Go.Proofs.Ytbepmbihonnkaaa.Sl
open Go.Proofs.Ytbepmbihonnkaaa.Lib
open Go.RowKit
set_option linter.unusedVariables false
set_option linter.unusedSimpArgs false

def faultM (r : Int × Int) : Int × Int × Int := if r.2 = 0 then (0, 0, 0) else (r.2, 5, r.1)
/-- k merges are looked at. -/
structure MergesSt (w wr : World) (L : Pl) (d : Dat) (k : Nat) : Prop where
  kl : k ≤ d.ms.length
  eq : pairsGo d.ws 0 [] d.ms = pairsGo d.ws k (d.ms.take k) (d.ms.drop k)
  bx : Bx 76 w wr L d
def MergesEnd (w : World) (d : Dat) (e : Ending) (w' : World) : Prop :=
  e = .returned (.agg #[.int .i64 (faultM (pairsGo d.ws 0 [] d.ms)).1, .int .i64 (faultM (pairsGo d.ws 0 [] d.ms)).2.1, .int .i64 (faultM (pairsGo d.ws 0 [] d.ms)).2.2]) ∧ Ext (fun _ => False) w w'
theorem MergesSt.bad {w wr W : World} {L : Pl} {d : Dat} {k : Nat} (h : MergesSt w wr L d k) {x : Mrg} {y : Int} (hs : d.ms[k]? = some x) (hy : y ≠ 0) (hb : badM d.ws (d.ms.take k) x = y) (hx : Ext (fun _ => False) w W) :
    MergesEnd w d (.returned (.agg #[.int .i64 y, .int .i64 5, .int .i64 k])) W := by
  have hlt := (List.getElem?_eq_some_iff.1 hs).1
  have e : d.ms.drop k = x :: d.ms.drop (k + 1) := by rw [List.drop_eq_getElem_cons hlt]; congr 1; exact (List.getElem?_eq_some_iff.1 hs).2
  have e2 : pairsGo d.ws 0 [] d.ms = ((k : Int), y) := by rw [h.eq, e, pairsGo, hb, if_neg hy]
  exact ⟨by rw [e2]; unfold faultM; rw [if_neg hy], hx⟩
theorem MergesSt.step {w wr W : World} {L : Pl} {d : Dat} {k : Nat} (h : MergesSt w wr L d k) {x : Mrg} (hs : d.ms[k]? = some x) (hb : badM d.ws (d.ms.take k) x = 0) (hB : Bx 76 w W L d) : MergesSt w W L d (k + 1) := by
  have hlt := (List.getElem?_eq_some_iff.1 hs).1
  have e : d.ms.drop k = x :: d.ms.drop (k + 1) := by rw [List.drop_eq_getElem_cons hlt]; congr 1; exact (List.getElem?_eq_some_iff.1 hs).2
  have et : d.ms.take (k + 1) = d.ms.take k ++ [x] := by rw [List.take_succ_eq_append_getElem hlt]; congr 2; exact (List.getElem?_eq_some_iff.1 hs).2
  exact ⟨hlt, by rw [h.eq, e, pairsGo, if_pos hb, et], hB⟩
/-- What a round reads: the box of x. -/
structure MergesRd (w : World) (b7 : Nat) (W : World) (L : Pl) (d : Dat) (x : Mrg) : Prop where
  bx : Bx 76 w W L d
  xb : W.heap[b7]? = some (.cells #[.int .i64 x.l, .int .i64 x.r, .int .i64 x.i] 35 (0, 0))
theorem MergesRd.on {w W W' : World} {b7 : Nat} {L : Pl} {d : Dat} {x : Mrg} (h : MergesRd w b7 W L d x) (hx : Ext (fun _ => False) W W') : MergesRd w b7 W' L d x := ⟨h.bx.on hx, hx.obj h.xb (fun h => h)⟩
theorem MergesRd.facts {w W : World} {b7 : Nat} {L : Pl} {d : Dat} {x : Mrg} (h : MergesRd w b7 W L d x) : W.cell? ⟨b7, 0, none⟩ = some (.int .i64 x.l) ∧ W.cell? ⟨b7, 1, none⟩ = some (.int .i64 x.r) ∧ W.cell? ⟨b7, 2, none⟩ = some (.int .i64 x.i) :=
  ⟨blk_cell h.xb 0, blk_cell h.xb 1, blk_cell h.xb 2⟩

set_option maxRecDepth 100000 in
set_option maxHeartbeats 4000000 in
theorem ref5merges_any (w : World) (L : Pl) (d : Dat) (h : DR w L d) (hw : d.ws.length ≤ 1099511627776) (hm : d.ms.length ≤ 1099511627776) :
    Calls Try.prog 60 #[.agg #[.slice L.p0 d.ws.length L.c0, .slice L.p1 d.ms.length L.c1, .slice L.p2 d.ls.length L.c2, .slice L.p3 d.ns.length L.c3, .slice L.p4 d.ss.length L.c4]] w fun e w' => MergesEnd w d e w' := by
  have R := Lib.hid h
  clear h
  go_enter Try.func60, Try.ntmps60
  go_wp2_with fail
  have B0 := Lib.hid (Bx.new 76 w L d)
  go_loopw [3] (fun i wr => ∃ k : Nat, i = .int .i64 k ∧ MergesSt w wr L d k) (fun i _ => d.ms.length - (intOf i).toNat)
  case atStart => exact ⟨0, rfl, ⟨Nat.zero_le _, rfl, B0.out⟩⟩
  case round =>
    obtain ⟨k, rfl, hst⟩ := hrel
    have ST := Lib.hid hst
    have hk := hst.kl
    clear hst B0
    obtain ⟨e0, e1, e2, e3, e4, f0, f1, f2, g0, g1, g2, l1, l0⟩ := ST.out.bx.facts
    by_cases hlt : k < d.ms.length
    · obtain ⟨x, hs⟩ : ∃ x, d.ms[k]? = some x := ⟨_, List.getElem?_eq_getElem hlt⟩
      have HS := Lib.hid hs
      obtain ⟨b, o, hp, hb, c0, c1, c2⟩ := (R.out.on ST.out.bx.ext).r1.cellM hs
      obtain ⟨il, ir, ii⟩ := R.out.f1 x (List.mem_of_getElem? hs)
      unfold inI at il ir ii
      have i1 : (k : Int) < (d.ms.length : Int) := by omega
      clear hs
      rw [hp] at e1
      go_upto_region 5 with (fail)
      obtain ⟨W1, hW1⟩ : ∃ W1, wr.alloc (.cells #[.int .i64 x.l, .int .i64 x.r, .int .i64 x.i] 35) = W1 := ⟨_, rfl⟩
      have RD := Lib.hid (show MergesRd w wr.heap.size W1 L d x from ⟨by rw [← hW1]; exact ST.out.bx.on ((Ext.refl _ _).alloc _), by rw [← hW1]; exact heap_alloc_new wr _⟩)
      rw [hW1]
      obtain ⟨b7, hb7⟩ : ∃ b7, wr.heap.size = b7 := ⟨_, rfl⟩
      rw [hb7] at RD ⊢
      clear hW1 hb7 c0 c1 c2 hb e0 e1 e2 e3 e4 f0 f1 f2 g0 g1 g2 l1 l0
      obtain ⟨e0, e1, e2, e3, e4, f0, f1, f2, g0, g1, g2, l1, l0⟩ := RD.out.bx.facts
      obtain ⟨x0, x1, x2⟩ := RD.out.facts
      rw [hp] at e1
      by_cases hA1 : x.i < 256
      · have d1 : decide (x.i < 256) = true := decide_eq_true hA1
        go_wp2_with fail
        refine bodyPost_ret (v := .agg #[.int .i64 24, .int .i64 5, .int .i64 k]) (by simp [results, Try.f60, go_sem, f0, f1, f2]) rfl (ST.out.bad HS.out (by decide) (by unfold badM; rw [if_pos (.inl hA1)]) (RD.out.bx.set _ _ _))
      have d1 : decide (x.i < 256) = false := decide_eq_false hA1
      by_cases hA2 : 256 + (d.ws.length : Int) ≤ x.i
      · have d2 : decide (x.i - 256 ≥ (d.ws.length : Int)) = true := decide_eq_true (by omega)
        go_wp2_with fail
        refine bodyPost_ret (v := .agg #[.int .i64 24, .int .i64 5, .int .i64 k]) (by simp [results, Try.f60, go_sem, f0, f1, f2]) rfl (ST.out.bad HS.out (by decide) (by unfold badM; rw [if_pos (.inr (.inl hA2))]) (RD.out.bx.set _ _ _))
      have d2 : decide (x.i - 256 ≥ (d.ws.length : Int)) = false := decide_eq_false (by omega)
      have hid : madeB (d.ms.take k) x.i = isId (d.ms.take k) x.i := by unfold madeB; rw [decide_eq_false hA1, decide_eq_true (show 256 ≤ x.i by omega)]; simp
      go_wp2_with fail
      cases hA3 : isId (d.ms.take k) x.i with
      | true =>
        have HA3 := Lib.hid hA3
        have C := ref5made_any W1 L d k x.i (R.out.on RD.out.bx.ext) hk hm
        rw [hp] at C
        rw [hid, hA3] at C
        clear hid hA3
        have C := Lib.hid C
        refine C.out.mono ?_
        rintro e W2 ⟨rfl, hx⟩
        have RD2 := Lib.hid (RD.out.on hx)
        clear hx C e0 e1 e2 e3 e4 f0 f1 f2 g0 g1 g2 l1 l0 x0 x1 x2
        obtain ⟨e0, e1, e2, e3, e4, f0, f1, f2, g0, g1, g2, l1, l0⟩ := RD2.out.bx.facts
        obtain ⟨x0, x1, x2⟩ := RD2.out.facts
        rw [hp] at e1
        go_wp2_with fail
        refine bodyPost_ret (v := .agg #[.int .i64 24, .int .i64 5, .int .i64 k]) (by simp [results, Try.f60, go_sem, f0, f1, f2]) rfl (ST.out.bad HS.out (by decide) (by unfold badM; rw [if_pos (.inr (.inr HA3.out))]) (RD2.out.bx.set _ _ _))
      | false =>
        have NA := Lib.hid (show ¬ (x.i < 256 ∨ 256 + (d.ws.length : Int) ≤ x.i ∨ isId (d.ms.take k) x.i = true) from fun h => by
          rcases h with h | h | h
          · omega
          · omega
          · rw [hA3] at h; cases h)
        have C := ref5made_any W1 L d k x.i (R.out.on RD.out.bx.ext) hk hm
        rw [hp] at C
        rw [hid, hA3] at C
        clear hid hA3
        have C := Lib.hid C
        refine C.out.mono ?_
        rintro e W2 ⟨rfl, hx⟩
        have RD2 := Lib.hid (RD.out.on hx)
        clear hx C e0 e1 e2 e3 e4 f0 f1 f2 g0 g1 g2 l1 l0 x0 x1 x2
        obtain ⟨e0, e1, e2, e3, e4, f0, f1, f2, g0, g1, g2, l1, l0⟩ := RD2.out.bx.facts
        obtain ⟨x0, x1, x2⟩ := RD2.out.facts
        rw [hp] at e1
        go_wp2_with fail
        cases hB1 : madeB (d.ms.take k) x.l with
        | false =>
          have HB1 := Lib.hid hB1
          have C := ref5made_any W2 L d k x.l (R.out.on RD2.out.bx.ext) hk hm
          rw [hp] at C
          rw [hB1] at C
          clear hB1
          have C := Lib.hid C
          refine C.out.mono ?_
          rintro e W3 ⟨rfl, hx⟩
          have RD3 := Lib.hid (RD2.out.on hx)
          clear hx C e0 e1 e2 e3 e4 f0 f1 f2 g0 g1 g2 l1 l0 x0 x1 x2
          obtain ⟨e0, e1, e2, e3, e4, f0, f1, f2, g0, g1, g2, l1, l0⟩ := RD3.out.bx.facts
          obtain ⟨x0, x1, x2⟩ := RD3.out.facts
          rw [hp] at e1
          go_wp2_with fail
          refine bodyPost_ret (v := .agg #[.int .i64 23, .int .i64 5, .int .i64 k]) (by simp [results, Try.f60, go_sem, f0, f1, f2]) rfl (ST.out.bad HS.out (by decide) (by unfold badM; rw [if_neg NA.out, if_pos (.inl HB1.out)]) (RD3.out.bx.set _ _ _))
        | true =>
          have HB1 := Lib.hid hB1
          have C := ref5made_any W2 L d k x.l (R.out.on RD2.out.bx.ext) hk hm
          rw [hp] at C
          rw [hB1] at C
          clear hB1
          have C := Lib.hid C
          refine C.out.mono ?_
          rintro e W3 ⟨rfl, hx⟩
          have RD3 := Lib.hid (RD2.out.on hx)
          clear hx C e0 e1 e2 e3 e4 f0 f1 f2 g0 g1 g2 l1 l0 x0 x1 x2
          obtain ⟨e0, e1, e2, e3, e4, f0, f1, f2, g0, g1, g2, l1, l0⟩ := RD3.out.bx.facts
          obtain ⟨x0, x1, x2⟩ := RD3.out.facts
          rw [hp] at e1
          go_wp2_with fail
          cases hB2 : madeB (d.ms.take k) x.r with
          | false =>
            have HB2 := Lib.hid hB2
            have C := ref5made_any W3 L d k x.r (R.out.on RD3.out.bx.ext) hk hm
            rw [hp] at C
            rw [hB2] at C
            clear hB2
            have C := Lib.hid C
            refine C.out.mono ?_
            rintro e W4 ⟨rfl, hx⟩
            have RD4 := Lib.hid (RD3.out.on hx)
            clear hx C e0 e1 e2 e3 e4 f0 f1 f2 g0 g1 g2 l1 l0 x0 x1 x2
            obtain ⟨e0, e1, e2, e3, e4, f0, f1, f2, g0, g1, g2, l1, l0⟩ := RD4.out.bx.facts
            obtain ⟨x0, x1, x2⟩ := RD4.out.facts
            rw [hp] at e1
            go_wp2_with fail
            refine bodyPost_ret (v := .agg #[.int .i64 23, .int .i64 5, .int .i64 k]) (by simp [results, Try.f60, go_sem, f0, f1, f2]) rfl (ST.out.bad HS.out (by decide) (by unfold badM; rw [if_neg NA.out, if_pos (.inr HB2.out)]) (RD4.out.bx.set _ _ _))
          | true =>
            have NB := Lib.hid (show ¬ (madeB (d.ms.take k) x.l = false ∨ madeB (d.ms.take k) x.r = false) from by rw [HB1.out, hB2]; simp)
            have C := ref5made_any W3 L d k x.r (R.out.on RD3.out.bx.ext) hk hm
            rw [hp] at C
            rw [hB2] at C
            clear hB2
            have C := Lib.hid C
            refine C.out.mono ?_
            rintro e W4 ⟨rfl, hx⟩
            have RD4 := Lib.hid (RD3.out.on hx)
            clear hx C e0 e1 e2 e3 e4 f0 f1 f2 g0 g1 g2 l1 l0 x0 x1 x2
            obtain ⟨e0, e1, e2, e3, e4, f0, f1, f2, g0, g1, g2, l1, l0⟩ := RD4.out.bx.facts
            obtain ⟨x0, x1, x2⟩ := RD4.out.facts
            rw [hp] at e1
            go_wp2_with fail
            obtain ⟨sl, esl⟩ : ∃ s, (wordOf d.ws x.l).1 = s := ⟨_, rfl⟩
            obtain ⟨bl, ebl⟩ : ∃ s, (wordOf d.ws x.l).2 = s := ⟨_, rfl⟩
            obtain ⟨sr, esr⟩ : ∃ s, (wordOf d.ws x.r).1 = s := ⟨_, rfl⟩
            obtain ⟨br, ebr⟩ : ∃ s, (wordOf d.ws x.r).2 = s := ⟨_, rfl⟩
            have zl := wordOf_size d.ws R.out.z0 x.l
            have zr := wordOf_size d.ws R.out.z0 x.r
            rw [esl] at zl
            rw [esr] at zr
            have wl : (Lit.int .i64 x.l).wf = true := by simp [Lit.wf, IntKind.min, IntKind.max, IntKind.signed, IntKind.bits]; omega
            have wr' : (Lit.int .i64 x.r).wf = true := by simp [Lit.wf, IntKind.min, IntKind.max, IntKind.signed, IntKind.bits]; omega
            have ESL := Lib.hid (And.intro esl ebl)
            have ESR := Lib.hid (And.intro esr ebr)
            clear esl ebl esr ebr
            have C := ref5word_any W4 L d x.l (R.out.on RD4.out.bx.ext) wl hw
            rw [hp] at C
            rw [ESL.out.1, ESL.out.2] at C
            have C := Lib.hid C
            refine C.out.mono ?_
            rintro e W5 ⟨rfl, hx⟩
            have RD5 := Lib.hid (RD4.out.on hx)
            clear hx C e0 e1 e2 e3 e4 f0 f1 f2 g0 g1 g2 l1 l0 x0 x1 x2
            obtain ⟨e0, e1, e2, e3, e4, f0, f1, f2, g0, g1, g2, l1, l0⟩ := RD5.out.bx.facts
            obtain ⟨x0, x1, x2⟩ := RD5.out.facts
            rw [hp] at e1
            go_wp2_with fail
            have C := ref5word_any W5 L d x.r (R.out.on RD5.out.bx.ext) wr' hw
            rw [hp] at C
            rw [ESR.out.1, ESR.out.2] at C
            have C := Lib.hid C
            refine C.out.mono ?_
            rintro e W6 ⟨rfl, hx⟩
            have RD6 := Lib.hid (RD5.out.on hx)
            clear hx C e0 e1 e2 e3 e4 f0 f1 f2 g0 g1 g2 l1 l0 x0 x1 x2
            obtain ⟨e0, e1, e2, e3, e4, f0, f1, f2, g0, g1, g2, l1, l0⟩ := RD6.out.bx.facts
            obtain ⟨x0, x1, x2⟩ := RD6.out.facts
            rw [hp] at e1
            obtain ⟨xw, hxw⟩ : ∃ xw, d.ws[(x.i - 256).toNat]? = some xw := ⟨_, List.getElem?_eq_getElem (by omega)⟩
            obtain ⟨bw, ow, hp0, hbw, cw⟩ := (R.out.on RD6.out.bx.ext).r0.cellS hxw
            have EX := Lib.hid (show (wordOf d.ws x.i).1 = xw from by
              have := wordOf_word hxw
              rw [show (((x.i - 256).toNat : Nat) : Int) + 256 = x.i by omega] at this
              rw [this])
            have hj0 : 0 ≤ x.i - 256 := by omega
            have hj1 : x.i - 256 < (d.ws.length : Int) := by omega
            have zs : sl.size + sr.size ≤ 9223372036854775807 := by omega
            have WL := Lib.hid wl
            clear hxw wl wr'
            by_cases hC : xw = sl ++ sr
            rotate_left
            · have hq := str_beq xw (sl ++ sr)
              rw [decide_eq_false hC] at hq
              have HC := Lib.hid hC
              clear hC
              go_wp2_with fail
              refine bodyPost_ret (v := .agg #[.int .i64 25, .int .i64 5, .int .i64 k]) (by simp [results, Try.f60, go_sem, f0, f1, f2]) rfl (ST.out.bad HS.out (by decide) (by unfold badM; rw [if_neg NA.out, if_neg NB.out, if_pos (by rw [EX.out, ESL.out.1, ESR.out.1]; exact HC.out)]) (RD6.out.bx.set _ _ _))
            · have hq := str_beq xw (sl ++ sr)
              rw [decide_eq_true hC] at hq
              have HC := Lib.hid hC
              clear hC
              go_wp2_with fail
              go_loopw [9] (fun i9 wq => ∃ m : Nat, i9 = .int .i64 m ∧ m ≤ k ∧ MergesRd w b7 wq L d x ∧ hasPair (d.ms.take m) x.l x.r = false) (fun i9 _ => k - (intOf i9).toNat)
              case atStart => exact ⟨0, rfl, Nat.zero_le _, RD6.out, rfl⟩
              case round =>
                obtain ⟨m, rfl, hmk, hrd, hno⟩ := hrel
                have RQ := Lib.hid hrd
                have HNO := Lib.hid hno
                clear hrd hno e0 e1 e2 e3 e4 f0 f1 f2 g0 g1 g2 l1 l0 x0 x1 x2 cw hq hbw
                obtain ⟨e0, e1, e2, e3, e4, f0, f1, f2, g0, g1, g2, l1, l0⟩ := RQ.out.bx.facts
                obtain ⟨x0, x1, x2⟩ := RQ.out.facts
                rw [hp] at e1
                by_cases hm2 : m < k
                · obtain ⟨y, hy⟩ : ∃ y, d.ms[m]? = some y := ⟨_, List.getElem?_eq_getElem (by omega)⟩
                  obtain ⟨b', o', hp', hb', c0, c1, c2⟩ := (R.out.on RQ.out.bx.ext).r1.cellM hy
                  obtain ⟨rfl, rfl⟩ : b = b' ∧ o = o' := by
                    rw [hp] at hp'
                    simpa using hp'
                  clear hp'
                  have HYY := Lib.hid hy
                  clear hy
                  have et : d.ms.take (m + 1) = d.ms.take m ++ [y] := by rw [List.take_succ_eq_append_getElem (by omega)]; congr 2; exact (List.getElem?_eq_some_iff.1 HYY.out).2
                  have i3 : (m : Int) < (k : Int) := by omega
                  have i4 : (m : Int) < (d.ms.length : Int) := by omega
                  have hsn : hasPair (d.ms.take (m + 1)) x.l x.r = (decide (y.l = x.l) && decide (y.r = x.r)) := by
                    rw [et]
                    unfold hasPair
                    rw [List.any_append]
                    have := HNO.out
                    unfold hasPair at this
                    rw [this]
                    simp
                  have HSN := Lib.hid hsn
                  clear et hsn
                  by_cases q1 : y.l = x.l
                  · have t1 : (y.l == x.l) = true := by simpa using q1
                    by_cases q2 : y.r = x.r
                    · have t2 : (y.r == x.r) = true := by simpa using q2
                      have HP := Lib.hid (show hasPair (d.ms.take k) x.l x.r = true from by
                        unfold hasPair
                        rw [List.any_eq_true]
                        exact ⟨y, by rw [List.mem_take_iff_getElem]; exact ⟨m, by omega, (List.getElem?_eq_some_iff.1 HYY.out).2⟩, by simp [q1, q2]⟩)
                      clear q1 q2
                      go_wp2_with fail
                      go_quiet (fail)
                      go_wp2_with fail
                      refine bodyPost_ret (v := .agg #[.int .i64 22, .int .i64 5, .int .i64 k]) (by simp [results, Try.f60, go_sem, f0, f1, f2]) rfl (ST.out.bad HS.out (by decide) (by unfold badM; rw [if_neg NA.out, if_neg NB.out, if_neg (by rw [EX.out, ESL.out.1, ESR.out.1, HC.out]; simp), if_pos HP.out]) ((RQ.out.bx.on ((Ext.refl _ _).drewN _)).set _ _ _))
                    · have t2 : (y.r == x.r) = false := by simpa using q2
                      have HN2 := Lib.hid (show hasPair (d.ms.take (m + 1)) x.l x.r = false from by rw [HSN.out, decide_eq_false q2, Bool.and_false])
                      clear q1 q2
                      go_wp2_with fail
                      go_quiet (fail)
                      go_wp2_with fail
                      go_roundw
                      case rel => exact ⟨m + 1, by go_num, hm2, RQ.out.on ((Ext.refl _ _).drewN _), HN2.out⟩
                      case measure => simp [intOf]; omega
                  · have t1 : (y.l == x.l) = false := by simpa using q1
                    have HN2 := Lib.hid (show hasPair (d.ms.take (m + 1)) x.l x.r = false from by rw [HSN.out, decide_eq_false q1, Bool.false_and])
                    clear q1
                    go_wp2_with fail
                    go_quiet (fail)
                    go_wp2_with fail
                    go_roundw
                    case rel => exact ⟨m + 1, by go_num, hm2, RQ.out.on ((Ext.refl _ _).drewN _), HN2.out⟩
                    case measure => simp [intOf]; omega
                · have hmk3 : m = k := by omega
                  have BM := Lib.hid (show badM d.ws (d.ms.take k) x = 0 from by
                    unfold badM
                    rw [if_neg NA.out, if_neg NB.out, if_neg (by rw [EX.out, ESL.out.1, ESR.out.1, HC.out]; simp), if_neg (by rw [← hmk3, HNO.out]; decide)])
                  have i3 : ¬ ((m : Int) < (k : Int)) := by omega
                  clear hmk3
                  go_wp2_with fail
                  go_roundw
                  case rel =>
                    repeat apply Exists.intro
                    refine ⟨?_, ?_⟩
                    rotate_left
                    · rw [hp, hp0]
                    · exact ⟨k + 1, by go_num, ST.out.step HS.out BM.out RQ.out.bx⟩
                  case measure => simp [intOf]; omega
    · have hk2 : k = d.ms.length := by omega
      have E : pairsGo d.ws 0 [] d.ms = (0, 0) := by rw [ST.out.eq, hk2, List.drop_length]; rfl
      have HE := Lib.hid E
      have i1 : ¬ ((k : Int) < (d.ms.length : Int)) := by omega
      clear E hk2
      go_wp2_with fail
      refine bodyPost_ret (v := .agg #[.int .i64 0, .int .i64 0, .int .i64 0]) (by simp [results, Try.f60, go_sem, f0, f1, f2]) rfl ⟨by rw [HE.out]; rfl, ST.out.bx.set _ _ _⟩

def CheckEnd (w : World) (d : Dat) (e : Ending) (w' : World) : Prop :=
  e = .returned (.agg #[.int .i64 (check5 d).1, .int .i64 (check5 d).2.1, .int .i64 (check5 d).2.2]) ∧ Ext (fun _ => False) w w'
theorem CheckEnd.mk {w w' : World} {d : Dat} {y l r : Int} (h : check5 d = (y, l, r)) (hx : Ext (fun _ => False) w w') : CheckEnd w d (.returned (.agg #[.int .i64 y, .int .i64 l, .int .i64 r])) w' := ⟨by rw [h], hx⟩

set_option maxRecDepth 100000 in
set_option maxHeartbeats 4000000 in
theorem ref5check_any (w : World) (L : Pl) (d : Dat) (h : DR w L d) :
    Calls Try.prog 38 #[.agg #[.slice L.p0 d.ws.length L.c0, .slice L.p1 d.ms.length L.c1, .slice L.p2 d.ls.length L.c2, .slice L.p3 d.ns.length L.c3, .slice L.p4 d.ss.length L.c4]] w fun e w' => CheckEnd w d e w' := by
  have R := Lib.hid h
  have hb0 := h.b0
  clear h
  have B0 := Lib.hid (Bx.new 76 w L d)
  by_cases hA : 4096 < d.ms.length
  · have i0 : (d.ms.length : Int) > 4096 := by omega
    go_enter Try.func38, Try.ntmps38
    go_wp2_with fail
    refine bodyPost_ret (v := .agg #[.int .i64 4, .int .i64 5, .int .i64 4096]) (by simp [results, Try.f38, go_sem]) rfl (CheckEnd.mk (by unfold check5; rw [if_pos hA]) ?_)
    exact ((Ext.refl _ _).alloc _).alloc _
  · have i0 : (d.ms.length : Int) ≤ 4096 := by omega
    by_cases hB : d.ws.length = d.ms.length
    rotate_left
    · have i1 : ((d.ws.length : Int) != (d.ms.length : Int)) = true := by simp; omega
      by_cases hlt : d.ms.length < d.ws.length
      · have i2 : (d.ms.length : Int) < (d.ws.length : Int) := by omega
        have hc : check5 d = (4, 4, (d.ms.length : Int)) := by unfold check5 mn; rw [if_neg hA, if_pos hB, if_pos i2]
        have HC := Lib.hid hc
        clear hc
        go_enter Try.func38, Try.ntmps38
        go_wp2_with fail
        refine bodyPost_ret (v := .agg #[.int .i64 4, .int .i64 4, .int .i64 d.ms.length]) (by simp [results, Try.f38, go_sem]) rfl (CheckEnd.mk HC.out ?_)
        exact ((Ext.refl _ _).alloc _).alloc _
      · have i2 : ¬ ((d.ms.length : Int) < (d.ws.length : Int)) := by omega
        have hc : check5 d = (4, 4, (d.ws.length : Int)) := by unfold check5 mn; rw [if_neg hA, if_pos hB, if_neg i2]
        have HC := Lib.hid hc
        clear hc
        go_enter Try.func38, Try.ntmps38
        go_wp2_with fail
        refine bodyPost_ret (v := .agg #[.int .i64 4, .int .i64 4, .int .i64 d.ws.length]) (by simp [results, Try.f38, go_sem]) rfl (CheckEnd.mk HC.out ?_)
        exact ((Ext.refl _ _).alloc _).alloc _
    · have i1 : ((d.ws.length : Int) != (d.ms.length : Int)) = false := by simp; omega
      have NA := Lib.hid (And.intro hA hB)
      have hmm : d.ms.length ≤ 1099511627776 := by omega
      have hww : d.ws.length ≤ 1099511627776 := by omega
      clear hA hB
      have C4 := Lib.hid (ref4_any _ L.p2 L.p3 L.p4 L.c2 L.c3 L.c4 d.ls d.ns d.ss (R.out.on B0.out.ext).r2 (R.out.on B0.out.ext).r3 (R.out.on B0.out.ext).r4 R.out.k2 R.out.k3 R.out.k4 R.out.b2 R.out.b3 R.out.b4)
      go_enter Try.func38, Try.ntmps38
      go_wp2_with fail
      refine C4.out.mono ?_
      rintro e W1 ⟨rfl, hx⟩
      obtain ⟨y, hy⟩ : ∃ y, (check4 d.ls d.ns d.ss).1 = y := ⟨_, rfl⟩
      obtain ⟨l, hl⟩ : ∃ y, (check4 d.ls d.ns d.ss).2.1 = y := ⟨_, rfl⟩
      obtain ⟨r, hr⟩ : ∃ y, (check4 d.ls d.ns d.ss).2.2 = y := ⟨_, rfl⟩
      rw [hy, hl, hr]
      have HY := Lib.hid (And.intro hy (And.intro hl hr))
      have S1 := Lib.hid (B0.out.on hx)
      clear hx hy hl hr C4
      obtain ⟨e0, e1, e2, e3, e4, f0, f1, f2, g0, g1, g2, l1, l0⟩ := S1.out.facts
      by_cases hy0 : y = 0
      rotate_left
      · have hne : (y != 0) = true := by simpa using hy0
        have hc : check5 d = (y, l, r) := by
          unfold check5
          rw [if_neg NA.out.1, if_neg (Decidable.not_not.2 NA.out.2), if_pos (by rw [HY.out.1]; exact hy0), ← HY.out.1, ← HY.out.2.1, ← HY.out.2.2]
        have HC := Lib.hid hc
        clear hc hy0
        go_wp2_with fail
        refine bodyPost_ret (v := .agg #[.int .i64 y, .int .i64 l, .int .i64 r]) (by simp [results, Try.f38, go_sem, f0, f1, f2, l1]) rfl (CheckEnd.mk HC.out ?_)
        exact (S1.out.set _ _ _).alloc _
      · subst hy0
        go_wp2_with fail
        obtain ⟨W2, hW2⟩ : ∃ W2, W1.alloc (.cells #[.int .i64 0, .int .i64 l, .int .i64 r] 114) = W2 := ⟨_, rfl⟩
        have S2 := Lib.hid (show Bx 76 w W2 L d from by rw [← hW2]; exact S1.out.on ((Ext.refl _ _).alloc _))
        rw [hW2]
        clear hW2 e0 e1 e2 e3 e4 f0 f1 f2 g0 g1 g2 l1 l0
        have C5 := Lib.hid (ref5words_any W2 L d (R.out.on S2.out.ext) hww)
        refine C5.out.mono ?_
        rintro e W3 ⟨rfl, hx⟩
        have S3 := Lib.hid (S2.out.on hx)
        obtain ⟨y, hy⟩ : ∃ y, (faultW (wordsGo 0 [] d.ws)).1 = y := ⟨_, rfl⟩
        obtain ⟨l3, hl⟩ : ∃ y, (faultW (wordsGo 0 [] d.ws)).2.1 = y := ⟨_, rfl⟩
        obtain ⟨r3, hr⟩ : ∃ y, (faultW (wordsGo 0 [] d.ws)).2.2 = y := ⟨_, rfl⟩
        rw [hy, hl, hr]
        have HW := Lib.hid (And.intro hy (And.intro hl hr))
        clear hx hy hl hr C5
        obtain ⟨e0, e1, e2, e3, e4, f0, f1, f2, g0, g1, g2, l1, l0⟩ := S3.out.facts
        by_cases hy0 : y = 0
        rotate_left
        · have hne : (y != 0) = true := by simpa using hy0
          have hw2 : (wordsGo 0 [] d.ws).2 ≠ 0 := fun h => hy0 (by rw [← HW.out.1]; unfold faultW; rw [if_pos h])
          have hc : check5 d = (y, l3, r3) := by
            unfold check5
            rw [if_neg NA.out.1, if_neg (Decidable.not_not.2 NA.out.2), if_neg (by rw [HY.out.1]; simp), if_pos hw2, ← HW.out.1, ← HW.out.2.1, ← HW.out.2.2]
            unfold faultW
            rw [if_neg hw2]
          have HC := Lib.hid hc
          clear hc hy0 hw2
          go_wp2_with fail
          refine bodyPost_ret (v := .agg #[.int .i64 y, .int .i64 l3, .int .i64 r3]) (by simp [results, Try.f38, go_sem, f0, f1, f2, l1]) rfl (CheckEnd.mk HC.out ?_)
          exact (S3.out.set _ _ _).alloc _
        · have hw2 : (wordsGo 0 [] d.ws).2 = 0 := by
            have h1 := HW.out.1
            rw [hy0] at h1
            unfold faultW at h1
            by_cases h : (wordsGo 0 [] d.ws).2 = 0
            · exact h
            · rw [if_neg h] at h1; exact absurd h1 h
          have HW2 := Lib.hid hw2
          clear hw2
          subst hy0
          go_wp2_with fail
          obtain ⟨W4, hW4⟩ : ∃ W4, W3.alloc (.cells #[.int .i64 0, .int .i64 l3, .int .i64 r3] 76) = W4 := ⟨_, rfl⟩
          have S4 := Lib.hid (show Bx 76 w W4 L d from by rw [← hW4]; exact S3.out.on ((Ext.refl _ _).alloc _))
          rw [hW4]
          clear hW4 e0 e1 e2 e3 e4 f0 f1 f2 g0 g1 g2 l1 l0
          have C6 := Lib.hid (ref5merges_any W4 L d (R.out.on S4.out.ext) hww hmm)
          refine C6.out.mono ?_
          rintro e W5 ⟨rfl, hx⟩
          have S5 := Lib.hid (S4.out.on hx)
          obtain ⟨y, hy⟩ : ∃ y, (faultM (pairsGo d.ws 0 [] d.ms)).1 = y := ⟨_, rfl⟩
          obtain ⟨l5, hl⟩ : ∃ y, (faultM (pairsGo d.ws 0 [] d.ms)).2.1 = y := ⟨_, rfl⟩
          obtain ⟨r5, hr⟩ : ∃ y, (faultM (pairsGo d.ws 0 [] d.ms)).2.2 = y := ⟨_, rfl⟩
          rw [hy, hl, hr]
          have HC := Lib.hid (show check5 d = (y, l5, r5) from by
            unfold check5
            rw [if_neg NA.out.1, if_neg (Decidable.not_not.2 NA.out.2), if_neg (by rw [HY.out.1]; simp), if_neg (by rw [HW2.out]; simp), ← hy, ← hl, ← hr]
            unfold faultM
            by_cases h : (pairsGo d.ws 0 [] d.ms).2 = 0
            · rw [if_neg (by simpa using h), if_pos h]
            · rw [if_pos h, if_neg h])
          clear hx hy hl hr C6
          obtain ⟨e0, e1, e2, e3, e4, f0, f1, f2, g0, g1, g2, l1, l0⟩ := S5.out.facts
          go_wp2_with fail
          refine bodyPost_ret (v := .agg #[.int .i64 y, .int .i64 l5, .int .i64 r5]) (by simp [results, Try.f38, go_sem, f0, f1, f2]) rfl (CheckEnd.mk HC.out (S5.out.set _ _ _))
end Go.Proofs.Ytbepmbihonnkaaa.Sl
