/- Merged of Ref5M, Right. -/
import Derived.Test.YtigpaaelggnffaaGreatDoorRef5
import Derived.IntWalk
import Derived.Deep.DeepCutAuto
/- tesseraref5.merges and Check. -/
namespace Go.Proofs.YtigpaaelggnffaaGreatDoor.Sl
open Go.Proofs.YtigpaaelggnffaaGreatDoor.Lib
open Go.RowKit
set_option linter.unusedVariables false
set_option linter.unusedSimpArgs false

def faultM (r : Int × Int) : Int × Int × Int := if r.2 = 0 then (0, 0, 0) else (r.2, 5, r.1)
/-- k merges are looked at. -/
structure MergesSt (w wr : World) (L : Pl) (d : Dat) (k : Nat) : Prop where
  kl : k ≤ d.ms.length
  eq : pairsGo d.ws 0 [] d.ms = pairsGo d.ws k (d.ms.take k) (d.ms.drop k)
  bx : Bx 91 w wr L d
def MergesEnd (w : World) (d : Dat) (e : Ending) (w' : World) : Prop :=
  e = .returned (.agg #[.int .i64 (faultM (pairsGo d.ws 0 [] d.ms)).1, .int .i64 (faultM (pairsGo d.ws 0 [] d.ms)).2.1, .int .i64 (faultM (pairsGo d.ws 0 [] d.ms)).2.2]) ∧ Ext (fun _ => False) w w'
theorem MergesSt.bad {w wr W : World} {L : Pl} {d : Dat} {k : Nat} (h : MergesSt w wr L d k) {x : Mrg} {y : Int} (hs : d.ms[k]? = some x) (hy : y ≠ 0) (hb : badM d.ws (d.ms.take k) x = y) (hx : Ext (fun _ => False) w W) :
    MergesEnd w d (.returned (.agg #[.int .i64 y, .int .i64 5, .int .i64 k])) W := by
  have hlt := (List.getElem?_eq_some_iff.1 hs).1
  have e : d.ms.drop k = x :: d.ms.drop (k + 1) := by rw [List.drop_eq_getElem_cons hlt]; congr 1; exact (List.getElem?_eq_some_iff.1 hs).2
  have e2 : pairsGo d.ws 0 [] d.ms = ((k : Int), y) := by rw [h.eq, e, pairsGo, hb, if_neg hy]
  exact ⟨by rw [e2]; unfold faultM; rw [if_neg hy], hx⟩
theorem MergesSt.step {w wr W : World} {L : Pl} {d : Dat} {k : Nat} (h : MergesSt w wr L d k) {x : Mrg} (hs : d.ms[k]? = some x) (hb : badM d.ws (d.ms.take k) x = 0) (hB : Bx 91 w W L d) : MergesSt w W L d (k + 1) := by
  have hlt := (List.getElem?_eq_some_iff.1 hs).1
  have e : d.ms.drop k = x :: d.ms.drop (k + 1) := by rw [List.drop_eq_getElem_cons hlt]; congr 1; exact (List.getElem?_eq_some_iff.1 hs).2
  have et : d.ms.take (k + 1) = d.ms.take k ++ [x] := by rw [List.take_succ_eq_append_getElem hlt]; congr 2; exact (List.getElem?_eq_some_iff.1 hs).2
  exact ⟨hlt, by rw [h.eq, e, pairsGo, if_pos hb, et], hB⟩
/-- What a round reads: the box of x. -/
structure MergesRd (w : World) (b7 : Nat) (W : World) (L : Pl) (d : Dat) (x : Mrg) : Prop where
  bx : Bx 91 w W L d
  xb : W.heap[b7]? = some (.cells #[.int .i64 x.l, .int .i64 x.r, .int .i64 x.i] 125 (0, 0))
theorem MergesRd.on {w W W' : World} {b7 : Nat} {L : Pl} {d : Dat} {x : Mrg} (h : MergesRd w b7 W L d x) (hx : Ext (fun _ => False) W W') : MergesRd w b7 W' L d x := ⟨h.bx.on hx, hx.obj h.xb (fun h => h)⟩
theorem MergesRd.facts {w W : World} {b7 : Nat} {L : Pl} {d : Dat} {x : Mrg} (h : MergesRd w b7 W L d x) : W.cell? ⟨b7, 0, none⟩ = some (.int .i64 x.l) ∧ W.cell? ⟨b7, 1, none⟩ = some (.int .i64 x.r) ∧ W.cell? ⟨b7, 2, none⟩ = some (.int .i64 x.i) :=
  ⟨blk_cell h.xb 0, blk_cell h.xb 1, blk_cell h.xb 2⟩

set_option maxRecDepth 100000 in
set_option maxHeartbeats 4000000 in
theorem ref5merges_any (w : World) (L : Pl) (d : Dat) (h : DR w L d) (hw : d.ws.length ≤ 1099511627776) (hm : d.ms.length ≤ 1099511627776) :
    Calls Tryz.prog 65 #[.agg #[.slice L.p0 d.ws.length L.c0, .slice L.p1 d.ms.length L.c1, .slice L.p2 d.ls.length L.c2, .slice L.p3 d.ns.length L.c3, .slice L.p4 d.ss.length L.c4]] w fun e w' => MergesEnd w d e w' := by
  have R := Lib.hid h
  clear h
  go_enter Tryz.func65, Tryz.ntmps65
  go_wp2_with fail
  have B0 := Lib.hid (Bx.new 91 w L d)
  go_loopw [3] (fun i wr => ∃ k : Nat, i = .int .i64 k ∧ MergesSt w wr L d k) (fun i _ => d.ms.length - (intOf i).toNat)
  case atStart => exact ⟨0, rfl, ⟨Nat.zero_le _, rfl, B0.out⟩⟩
  case round =>
    obtain ⟨k, rfl, hst⟩ := hrel
    have ST := Lib.hid hst
    have hk := hst.kl
    clear hst B0
    obtain ⟨e0, e1, e2, e3, e4, f0, f1, f2, g0, g1, g2, l1, l0⟩ := ST.out.bx.facts
    by_cases hlt : k < d.ms.length
    · obtain ⟨x, hs⟩ : ∃ x, d.ms[k]? = some x := ⟨_, List.getElem?_eq_getElem hlt⟩
      have HS := Lib.hid hs
      obtain ⟨b, o, hp, hb, c0, c1, c2⟩ := (R.out.on ST.out.bx.ext).r1.cellM hs
      obtain ⟨il, ir, ii⟩ := R.out.f1 x (List.mem_of_getElem? hs)
      unfold inI at il ir ii
      have i1 : (k : Int) < (d.ms.length : Int) := by omega
      clear hs
      rw [hp] at e1
      go_upto_region 5 with (fail)
      obtain ⟨W1, hW1⟩ : ∃ W1, wr.alloc (.cells #[.int .i64 x.l, .int .i64 x.r, .int .i64 x.i] 125) = W1 := ⟨_, rfl⟩
      have RD := Lib.hid (show MergesRd w wr.heap.size W1 L d x from ⟨by rw [← hW1]; exact ST.out.bx.on ((Ext.refl _ _).alloc _), by rw [← hW1]; exact heap_alloc_new wr _⟩)
      rw [hW1]
      obtain ⟨b7, hb7⟩ : ∃ b7, wr.heap.size = b7 := ⟨_, rfl⟩
      rw [hb7] at RD ⊢
      clear hW1 hb7 c0 c1 c2 hb e0 e1 e2 e3 e4 f0 f1 f2 g0 g1 g2 l1 l0
      obtain ⟨e0, e1, e2, e3, e4, f0, f1, f2, g0, g1, g2, l1, l0⟩ := RD.out.bx.facts
      obtain ⟨x0, x1, x2⟩ := RD.out.facts
      rw [hp] at e1
      by_cases hA1 : x.i < 256
      · have d1 : decide (x.i < 256) = true := decide_eq_true hA1
        go_wp2_with fail
        refine bodyPost_ret (v := .agg #[.int .i64 24, .int .i64 5, .int .i64 k]) (by simp [results, Tryz.f65, go_sem, f0, f1, f2]) rfl (ST.out.bad HS.out (by decide) (by unfold badM; rw [if_pos (.inl hA1)]) (RD.out.bx.set _ _ _))
      have d1 : decide (x.i < 256) = false := decide_eq_false hA1
      by_cases hA2 : 256 + (d.ws.length : Int) ≤ x.i
      · have d2 : decide (x.i - 256 ≥ (d.ws.length : Int)) = true := decide_eq_true (by omega)
        go_wp2_with fail
        refine bodyPost_ret (v := .agg #[.int .i64 24, .int .i64 5, .int .i64 k]) (by simp [results, Tryz.f65, go_sem, f0, f1, f2]) rfl (ST.out.bad HS.out (by decide) (by unfold badM; rw [if_pos (.inr (.inl hA2))]) (RD.out.bx.set _ _ _))
      have d2 : decide (x.i - 256 ≥ (d.ws.length : Int)) = false := decide_eq_false (by omega)
      have hid : madeB (d.ms.take k) x.i = isId (d.ms.take k) x.i := by unfold madeB; rw [decide_eq_false hA1, decide_eq_true (show 256 ≤ x.i by omega)]; simp
      go_wp2_with fail
      cases hA3 : isId (d.ms.take k) x.i with
      | true =>
        have HA3 := Lib.hid hA3
        have C := ref5made_any W1 L d k x.i (R.out.on RD.out.bx.ext) hk hm
        rw [hp] at C
        rw [hid, hA3] at C
        clear hid hA3
        have C := Lib.hid C
        refine C.out.mono ?_
        rintro e W2 ⟨rfl, hx⟩
        have RD2 := Lib.hid (RD.out.on hx)
        clear hx C e0 e1 e2 e3 e4 f0 f1 f2 g0 g1 g2 l1 l0 x0 x1 x2
        obtain ⟨e0, e1, e2, e3, e4, f0, f1, f2, g0, g1, g2, l1, l0⟩ := RD2.out.bx.facts
        obtain ⟨x0, x1, x2⟩ := RD2.out.facts
        rw [hp] at e1
        go_wp2_with fail
        refine bodyPost_ret (v := .agg #[.int .i64 24, .int .i64 5, .int .i64 k]) (by simp [results, Tryz.f65, go_sem, f0, f1, f2]) rfl (ST.out.bad HS.out (by decide) (by unfold badM; rw [if_pos (.inr (.inr HA3.out))]) (RD2.out.bx.set _ _ _))
      | false =>
        have NA := Lib.hid (show ¬ (x.i < 256 ∨ 256 + (d.ws.length : Int) ≤ x.i ∨ isId (d.ms.take k) x.i = true) from fun h => by
          rcases h with h | h | h
          · omega
          · omega
          · rw [hA3] at h; cases h)
        have C := ref5made_any W1 L d k x.i (R.out.on RD.out.bx.ext) hk hm
        rw [hp] at C
        rw [hid, hA3] at C
        clear hid hA3
        have C := Lib.hid C
        refine C.out.mono ?_
        rintro e W2 ⟨rfl, hx⟩
        have RD2 := Lib.hid (RD.out.on hx)
        clear hx C e0 e1 e2 e3 e4 f0 f1 f2 g0 g1 g2 l1 l0 x0 x1 x2
        obtain ⟨e0, e1, e2, e3, e4, f0, f1, f2, g0, g1, g2, l1, l0⟩ := RD2.out.bx.facts
        obtain ⟨x0, x1, x2⟩ := RD2.out.facts
        rw [hp] at e1
        go_wp2_with fail
        cases hB1 : madeB (d.ms.take k) x.l with
        | false =>
          have HB1 := Lib.hid hB1
          have C := ref5made_any W2 L d k x.l (R.out.on RD2.out.bx.ext) hk hm
          rw [hp] at C
          rw [hB1] at C
          clear hB1
          have C := Lib.hid C
          refine C.out.mono ?_
          rintro e W3 ⟨rfl, hx⟩
          have RD3 := Lib.hid (RD2.out.on hx)
          clear hx C e0 e1 e2 e3 e4 f0 f1 f2 g0 g1 g2 l1 l0 x0 x1 x2
          obtain ⟨e0, e1, e2, e3, e4, f0, f1, f2, g0, g1, g2, l1, l0⟩ := RD3.out.bx.facts
          obtain ⟨x0, x1, x2⟩ := RD3.out.facts
          rw [hp] at e1
          go_wp2_with fail
          refine bodyPost_ret (v := .agg #[.int .i64 23, .int .i64 5, .int .i64 k]) (by simp [results, Tryz.f65, go_sem, f0, f1, f2]) rfl (ST.out.bad HS.out (by decide) (by unfold badM; rw [if_neg NA.out, if_pos (.inl HB1.out)]) (RD3.out.bx.set _ _ _))
        | true =>
          have HB1 := Lib.hid hB1
          have C := ref5made_any W2 L d k x.l (R.out.on RD2.out.bx.ext) hk hm
          rw [hp] at C
          rw [hB1] at C
          clear hB1
          have C := Lib.hid C
          refine C.out.mono ?_
          rintro e W3 ⟨rfl, hx⟩
          have RD3 := Lib.hid (RD2.out.on hx)
          clear hx C e0 e1 e2 e3 e4 f0 f1 f2 g0 g1 g2 l1 l0 x0 x1 x2
          obtain ⟨e0, e1, e2, e3, e4, f0, f1, f2, g0, g1, g2, l1, l0⟩ := RD3.out.bx.facts
          obtain ⟨x0, x1, x2⟩ := RD3.out.facts
          rw [hp] at e1
          go_wp2_with fail
          cases hB2 : madeB (d.ms.take k) x.r with
          | false =>
            have HB2 := Lib.hid hB2
            have C := ref5made_any W3 L d k x.r (R.out.on RD3.out.bx.ext) hk hm
            rw [hp] at C
            rw [hB2] at C
            clear hB2
            have C := Lib.hid C
            refine C.out.mono ?_
            rintro e W4 ⟨rfl, hx⟩
            have RD4 := Lib.hid (RD3.out.on hx)
            clear hx C e0 e1 e2 e3 e4 f0 f1 f2 g0 g1 g2 l1 l0 x0 x1 x2
            obtain ⟨e0, e1, e2, e3, e4, f0, f1, f2, g0, g1, g2, l1, l0⟩ := RD4.out.bx.facts
            obtain ⟨x0, x1, x2⟩ := RD4.out.facts
            rw [hp] at e1
            go_wp2_with fail
            refine bodyPost_ret (v := .agg #[.int .i64 23, .int .i64 5, .int .i64 k]) (by simp [results, Tryz.f65, go_sem, f0, f1, f2]) rfl (ST.out.bad HS.out (by decide) (by unfold badM; rw [if_neg NA.out, if_pos (.inr HB2.out)]) (RD4.out.bx.set _ _ _))
          | true =>
            have NB := Lib.hid (show ¬ (madeB (d.ms.take k) x.l = false ∨ madeB (d.ms.take k) x.r = false) from by rw [HB1.out, hB2]; simp)
            have C := ref5made_any W3 L d k x.r (R.out.on RD3.out.bx.ext) hk hm
            rw [hp] at C
            rw [hB2] at C
            clear hB2
            have C := Lib.hid C
            refine C.out.mono ?_
            rintro e W4 ⟨rfl, hx⟩
            have RD4 := Lib.hid (RD3.out.on hx)
            clear hx C e0 e1 e2 e3 e4 f0 f1 f2 g0 g1 g2 l1 l0 x0 x1 x2
            obtain ⟨e0, e1, e2, e3, e4, f0, f1, f2, g0, g1, g2, l1, l0⟩ := RD4.out.bx.facts
            obtain ⟨x0, x1, x2⟩ := RD4.out.facts
            rw [hp] at e1
            go_wp2_with fail
            obtain ⟨sl, esl⟩ : ∃ s, (wordOf d.ws x.l).1 = s := ⟨_, rfl⟩
            obtain ⟨bl, ebl⟩ : ∃ s, (wordOf d.ws x.l).2 = s := ⟨_, rfl⟩
            obtain ⟨sr, esr⟩ : ∃ s, (wordOf d.ws x.r).1 = s := ⟨_, rfl⟩
            obtain ⟨br, ebr⟩ : ∃ s, (wordOf d.ws x.r).2 = s := ⟨_, rfl⟩
            have zl := wordOf_size d.ws R.out.z0 x.l
            have zr := wordOf_size d.ws R.out.z0 x.r
            rw [esl] at zl
            rw [esr] at zr
            have wl : (Lit.int .i64 x.l).wf = true := by simp [Lit.wf, IntKind.min, IntKind.max, IntKind.signed, IntKind.bits]; omega
            have wr' : (Lit.int .i64 x.r).wf = true := by simp [Lit.wf, IntKind.min, IntKind.max, IntKind.signed, IntKind.bits]; omega
            have ESL := Lib.hid (And.intro esl ebl)
            have ESR := Lib.hid (And.intro esr ebr)
            clear esl ebl esr ebr
            have C := ref5word_any W4 L d x.l (R.out.on RD4.out.bx.ext) wl hw
            rw [hp] at C
            rw [ESL.out.1, ESL.out.2] at C
            have C := Lib.hid C
            refine C.out.mono ?_
            rintro e W5 ⟨rfl, hx⟩
            have RD5 := Lib.hid (RD4.out.on hx)
            clear hx C e0 e1 e2 e3 e4 f0 f1 f2 g0 g1 g2 l1 l0 x0 x1 x2
            obtain ⟨e0, e1, e2, e3, e4, f0, f1, f2, g0, g1, g2, l1, l0⟩ := RD5.out.bx.facts
            obtain ⟨x0, x1, x2⟩ := RD5.out.facts
            rw [hp] at e1
            go_wp2_with fail
            have C := ref5word_any W5 L d x.r (R.out.on RD5.out.bx.ext) wr' hw
            rw [hp] at C
            rw [ESR.out.1, ESR.out.2] at C
            have C := Lib.hid C
            refine C.out.mono ?_
            rintro e W6 ⟨rfl, hx⟩
            have RD6 := Lib.hid (RD5.out.on hx)
            clear hx C e0 e1 e2 e3 e4 f0 f1 f2 g0 g1 g2 l1 l0 x0 x1 x2
            obtain ⟨e0, e1, e2, e3, e4, f0, f1, f2, g0, g1, g2, l1, l0⟩ := RD6.out.bx.facts
            obtain ⟨x0, x1, x2⟩ := RD6.out.facts
            rw [hp] at e1
            obtain ⟨xw, hxw⟩ : ∃ xw, d.ws[(x.i - 256).toNat]? = some xw := ⟨_, List.getElem?_eq_getElem (by omega)⟩
            obtain ⟨bw, ow, hp0, hbw, cw⟩ := (R.out.on RD6.out.bx.ext).r0.cellS hxw
            have EX := Lib.hid (show (wordOf d.ws x.i).1 = xw from by
              have := wordOf_word hxw
              rw [show (((x.i - 256).toNat : Nat) : Int) + 256 = x.i by omega] at this
              rw [this])
            have hj0 : 0 ≤ x.i - 256 := by omega
            have hj1 : x.i - 256 < (d.ws.length : Int) := by omega
            have zs : sl.size + sr.size ≤ 9223372036854775807 := by omega
            have WL := Lib.hid wl
            clear hxw wl wr'
            by_cases hC : xw = sl ++ sr
            rotate_left
            · have hq := str_beq xw (sl ++ sr)
              rw [decide_eq_false hC] at hq
              have HC := Lib.hid hC
              clear hC
              go_wp2_with fail
              refine bodyPost_ret (v := .agg #[.int .i64 25, .int .i64 5, .int .i64 k]) (by simp [results, Tryz.f65, go_sem, f0, f1, f2]) rfl (ST.out.bad HS.out (by decide) (by unfold badM; rw [if_neg NA.out, if_neg NB.out, if_pos (by rw [EX.out, ESL.out.1, ESR.out.1]; exact HC.out)]) (RD6.out.bx.set _ _ _))
            · have hq := str_beq xw (sl ++ sr)
              rw [decide_eq_true hC] at hq
              have HC := Lib.hid hC
              clear hC
              go_wp2_with fail
              go_loopw [9] (fun i9 wq => ∃ m : Nat, i9 = .int .i64 m ∧ m ≤ k ∧ MergesRd w b7 wq L d x ∧ hasPair (d.ms.take m) x.l x.r = false) (fun i9 _ => k - (intOf i9).toNat)
              case atStart => exact ⟨0, rfl, Nat.zero_le _, RD6.out, rfl⟩
              case round =>
                obtain ⟨m, rfl, hmk, hrd, hno⟩ := hrel
                have RQ := Lib.hid hrd
                have HNO := Lib.hid hno
                clear hrd hno e0 e1 e2 e3 e4 f0 f1 f2 g0 g1 g2 l1 l0 x0 x1 x2 cw hq hbw
                obtain ⟨e0, e1, e2, e3, e4, f0, f1, f2, g0, g1, g2, l1, l0⟩ := RQ.out.bx.facts
                obtain ⟨x0, x1, x2⟩ := RQ.out.facts
                rw [hp] at e1
                by_cases hm2 : m < k
                · obtain ⟨y, hy⟩ : ∃ y, d.ms[m]? = some y := ⟨_, List.getElem?_eq_getElem (by omega)⟩
                  obtain ⟨b', o', hp', hb', c0, c1, c2⟩ := (R.out.on RQ.out.bx.ext).r1.cellM hy
                  obtain ⟨rfl, rfl⟩ : b = b' ∧ o = o' := by
                    rw [hp] at hp'
                    simpa using hp'
                  clear hp'
                  have HYY := Lib.hid hy
                  clear hy
                  have et : d.ms.take (m + 1) = d.ms.take m ++ [y] := by rw [List.take_succ_eq_append_getElem (by omega)]; congr 2; exact (List.getElem?_eq_some_iff.1 HYY.out).2
                  have i3 : (m : Int) < (k : Int) := by omega
                  have i4 : (m : Int) < (d.ms.length : Int) := by omega
                  have hsn : hasPair (d.ms.take (m + 1)) x.l x.r = (decide (y.l = x.l) && decide (y.r = x.r)) := by
                    rw [et]
                    unfold hasPair
                    rw [List.any_append]
                    have := HNO.out
                    unfold hasPair at this
                    rw [this]
                    simp
                  have HSN := Lib.hid hsn
                  clear et hsn
                  by_cases q1 : y.l = x.l
                  · have t1 : (y.l == x.l) = true := by simpa using q1
                    by_cases q2 : y.r = x.r
                    · have t2 : (y.r == x.r) = true := by simpa using q2
                      have HP := Lib.hid (show hasPair (d.ms.take k) x.l x.r = true from by
                        unfold hasPair
                        rw [List.any_eq_true]
                        exact ⟨y, by rw [List.mem_take_iff_getElem]; exact ⟨m, by omega, (List.getElem?_eq_some_iff.1 HYY.out).2⟩, by simp [q1, q2]⟩)
                      clear q1 q2
                      go_wp2_with fail
                      go_quiet (fail)
                      go_wp2_with fail
                      refine bodyPost_ret (v := .agg #[.int .i64 22, .int .i64 5, .int .i64 k]) (by simp [results, Tryz.f65, go_sem, f0, f1, f2]) rfl (ST.out.bad HS.out (by decide) (by unfold badM; rw [if_neg NA.out, if_neg NB.out, if_neg (by rw [EX.out, ESL.out.1, ESR.out.1, HC.out]; simp), if_pos HP.out]) ((RQ.out.bx.on ((Ext.refl _ _).drewN _)).set _ _ _))
                    · have t2 : (y.r == x.r) = false := by simpa using q2
                      have HN2 := Lib.hid (show hasPair (d.ms.take (m + 1)) x.l x.r = false from by rw [HSN.out, decide_eq_false q2, Bool.and_false])
                      clear q1 q2
                      go_wp2_with fail
                      go_quiet (fail)
                      go_wp2_with fail
                      go_roundw
                      case rel => exact ⟨m + 1, by go_num, hm2, RQ.out.on ((Ext.refl _ _).drewN _), HN2.out⟩
                      case measure => simp [intOf]; omega
                  · have t1 : (y.l == x.l) = false := by simpa using q1
                    have HN2 := Lib.hid (show hasPair (d.ms.take (m + 1)) x.l x.r = false from by rw [HSN.out, decide_eq_false q1, Bool.false_and])
                    clear q1
                    go_wp2_with fail
                    go_quiet (fail)
                    go_wp2_with fail
                    go_roundw
                    case rel => exact ⟨m + 1, by go_num, hm2, RQ.out.on ((Ext.refl _ _).drewN _), HN2.out⟩
                    case measure => simp [intOf]; omega
                · have hmk3 : m = k := by omega
                  have BM := Lib.hid (show badM d.ws (d.ms.take k) x = 0 from by
                    unfold badM
                    rw [if_neg NA.out, if_neg NB.out, if_neg (by rw [EX.out, ESL.out.1, ESR.out.1, HC.out]; simp), if_neg (by rw [← hmk3, HNO.out]; decide)])
                  have i3 : ¬ ((m : Int) < (k : Int)) := by omega
                  clear hmk3
                  go_wp2_with fail
                  go_roundw
                  case rel =>
                    repeat apply Exists.intro
                    refine ⟨?_, ?_⟩
                    rotate_left
                    · rw [hp, hp0]
                    · exact ⟨k + 1, by go_num, ST.out.step HS.out BM.out RQ.out.bx⟩
                  case measure => simp [intOf]; omega
    · have hk2 : k = d.ms.length := by omega
      have E : pairsGo d.ws 0 [] d.ms = (0, 0) := by rw [ST.out.eq, hk2, List.drop_length]; rfl
      have HE := Lib.hid E
      have i1 : ¬ ((k : Int) < (d.ms.length : Int)) := by omega
      clear E hk2
      go_wp2_with fail
      refine bodyPost_ret (v := .agg #[.int .i64 0, .int .i64 0, .int .i64 0]) (by simp [results, Tryz.f65, go_sem, f0, f1, f2]) rfl ⟨by rw [HE.out]; rfl, ST.out.bx.set _ _ _⟩

def CheckEnd (w : World) (d : Dat) (e : Ending) (w' : World) : Prop :=
  e = .returned (.agg #[.int .i64 (check5 d).1, .int .i64 (check5 d).2.1, .int .i64 (check5 d).2.2]) ∧ Ext (fun _ => False) w w'
theorem CheckEnd.mk {w w' : World} {d : Dat} {y l r : Int} (h : check5 d = (y, l, r)) (hx : Ext (fun _ => False) w w') : CheckEnd w d (.returned (.agg #[.int .i64 y, .int .i64 l, .int .i64 r])) w' := ⟨by rw [h], hx⟩

set_option maxRecDepth 100000 in
set_option maxHeartbeats 4000000 in
theorem ref5check_any (w : World) (L : Pl) (d : Dat) (h : DR w L d) :
    Calls Tryz.prog 43 #[.agg #[.slice L.p0 d.ws.length L.c0, .slice L.p1 d.ms.length L.c1, .slice L.p2 d.ls.length L.c2, .slice L.p3 d.ns.length L.c3, .slice L.p4 d.ss.length L.c4]] w fun e w' => CheckEnd w d e w' := by
  have R := Lib.hid h
  have hb0 := h.b0
  clear h
  have B0 := Lib.hid (Bx.new 91 w L d)
  by_cases hA : 4096 < d.ms.length
  · have i0 : (d.ms.length : Int) > 4096 := by omega
    go_enter Tryz.func43, Tryz.ntmps43
    go_wp2_with fail
    refine bodyPost_ret (v := .agg #[.int .i64 4, .int .i64 5, .int .i64 4096]) (by simp [results, Tryz.f43, go_sem]) rfl (CheckEnd.mk (by unfold check5; rw [if_pos hA]) ?_)
    exact ((Ext.refl _ _).alloc _).alloc _
  · have i0 : (d.ms.length : Int) ≤ 4096 := by omega
    by_cases hB : d.ws.length = d.ms.length
    rotate_left
    · have i1 : ((d.ws.length : Int) != (d.ms.length : Int)) = true := by simp; omega
      by_cases hlt : d.ms.length < d.ws.length
      · have i2 : (d.ms.length : Int) < (d.ws.length : Int) := by omega
        have hc : check5 d = (4, 4, (d.ms.length : Int)) := by unfold check5 mn; rw [if_neg hA, if_pos hB, if_pos i2]
        have HC := Lib.hid hc
        clear hc
        go_enter Tryz.func43, Tryz.ntmps43
        go_wp2_with fail
        refine bodyPost_ret (v := .agg #[.int .i64 4, .int .i64 4, .int .i64 d.ms.length]) (by simp [results, Tryz.f43, go_sem]) rfl (CheckEnd.mk HC.out ?_)
        exact ((Ext.refl _ _).alloc _).alloc _
      · have i2 : ¬ ((d.ms.length : Int) < (d.ws.length : Int)) := by omega
        have hc : check5 d = (4, 4, (d.ws.length : Int)) := by unfold check5 mn; rw [if_neg hA, if_pos hB, if_neg i2]
        have HC := Lib.hid hc
        clear hc
        go_enter Tryz.func43, Tryz.ntmps43
        go_wp2_with fail
        refine bodyPost_ret (v := .agg #[.int .i64 4, .int .i64 4, .int .i64 d.ws.length]) (by simp [results, Tryz.f43, go_sem]) rfl (CheckEnd.mk HC.out ?_)
        exact ((Ext.refl _ _).alloc _).alloc _
    · have i1 : ((d.ws.length : Int) != (d.ms.length : Int)) = false := by simp; omega
      have NA := Lib.hid (And.intro hA hB)
      have hmm : d.ms.length ≤ 1099511627776 := by omega
      have hww : d.ws.length ≤ 1099511627776 := by omega
      clear hA hB
      have C4 := Lib.hid (ref4_any _ L.p2 L.p3 L.p4 L.c2 L.c3 L.c4 d.ls d.ns d.ss (R.out.on B0.out.ext).r2 (R.out.on B0.out.ext).r3 (R.out.on B0.out.ext).r4 R.out.k2 R.out.k3 R.out.k4 R.out.b2 R.out.b3 R.out.b4)
      go_enter Tryz.func43, Tryz.ntmps43
      go_wp2_with fail
      refine C4.out.mono ?_
      rintro e W1 ⟨rfl, hx⟩
      obtain ⟨y, hy⟩ : ∃ y, (check4 d.ls d.ns d.ss).1 = y := ⟨_, rfl⟩
      obtain ⟨l, hl⟩ : ∃ y, (check4 d.ls d.ns d.ss).2.1 = y := ⟨_, rfl⟩
      obtain ⟨r, hr⟩ : ∃ y, (check4 d.ls d.ns d.ss).2.2 = y := ⟨_, rfl⟩
      rw [hy, hl, hr]
      have HY := Lib.hid (And.intro hy (And.intro hl hr))
      have S1 := Lib.hid (B0.out.on hx)
      clear hx hy hl hr C4
      obtain ⟨e0, e1, e2, e3, e4, f0, f1, f2, g0, g1, g2, l1, l0⟩ := S1.out.facts
      by_cases hy0 : y = 0
      rotate_left
      · have hne : (y != 0) = true := by simpa using hy0
        have hc : check5 d = (y, l, r) := by
          unfold check5
          rw [if_neg NA.out.1, if_neg (Decidable.not_not.2 NA.out.2), if_pos (by rw [HY.out.1]; exact hy0), ← HY.out.1, ← HY.out.2.1, ← HY.out.2.2]
        have HC := Lib.hid hc
        clear hc hy0
        go_wp2_with fail
        refine bodyPost_ret (v := .agg #[.int .i64 y, .int .i64 l, .int .i64 r]) (by simp [results, Tryz.f43, go_sem, f0, f1, f2, l1]) rfl (CheckEnd.mk HC.out ?_)
        exact (S1.out.set _ _ _).alloc _
      · subst hy0
        go_wp2_with fail
        obtain ⟨W2, hW2⟩ : ∃ W2, W1.alloc (.cells #[.int .i64 0, .int .i64 l, .int .i64 r] 133) = W2 := ⟨_, rfl⟩
        have S2 := Lib.hid (show Bx 91 w W2 L d from by rw [← hW2]; exact S1.out.on ((Ext.refl _ _).alloc _))
        rw [hW2]
        clear hW2 e0 e1 e2 e3 e4 f0 f1 f2 g0 g1 g2 l1 l0
        have C5 := Lib.hid (ref5words_any W2 L d (R.out.on S2.out.ext) hww)
        refine C5.out.mono ?_
        rintro e W3 ⟨rfl, hx⟩
        have S3 := Lib.hid (S2.out.on hx)
        obtain ⟨y, hy⟩ : ∃ y, (faultW (wordsGo 0 [] d.ws)).1 = y := ⟨_, rfl⟩
        obtain ⟨l3, hl⟩ : ∃ y, (faultW (wordsGo 0 [] d.ws)).2.1 = y := ⟨_, rfl⟩
        obtain ⟨r3, hr⟩ : ∃ y, (faultW (wordsGo 0 [] d.ws)).2.2 = y := ⟨_, rfl⟩
        rw [hy, hl, hr]
        have HW := Lib.hid (And.intro hy (And.intro hl hr))
        clear hx hy hl hr C5
        obtain ⟨e0, e1, e2, e3, e4, f0, f1, f2, g0, g1, g2, l1, l0⟩ := S3.out.facts
        by_cases hy0 : y = 0
        rotate_left
        · have hne : (y != 0) = true := by simpa using hy0
          have hw2 : (wordsGo 0 [] d.ws).2 ≠ 0 := fun h => hy0 (by rw [← HW.out.1]; unfold faultW; rw [if_pos h])
          have hc : check5 d = (y, l3, r3) := by
            unfold check5
            rw [if_neg NA.out.1, if_neg (Decidable.not_not.2 NA.out.2), if_neg (by rw [HY.out.1]; simp), if_pos hw2, ← HW.out.1, ← HW.out.2.1, ← HW.out.2.2]
            unfold faultW
            rw [if_neg hw2]
          have HC := Lib.hid hc
          clear hc hy0 hw2
          go_wp2_with fail
          refine bodyPost_ret (v := .agg #[.int .i64 y, .int .i64 l3, .int .i64 r3]) (by simp [results, Tryz.f43, go_sem, f0, f1, f2, l1]) rfl (CheckEnd.mk HC.out ?_)
          exact (S3.out.set _ _ _).alloc _
        · have hw2 : (wordsGo 0 [] d.ws).2 = 0 := by
            have h1 := HW.out.1
            rw [hy0] at h1
            unfold faultW at h1
            by_cases h : (wordsGo 0 [] d.ws).2 = 0
            · exact h
            · rw [if_neg h] at h1; exact absurd h1 h
          have HW2 := Lib.hid hw2
          clear hw2
          subst hy0
          go_wp2_with fail
          obtain ⟨W4, hW4⟩ : ∃ W4, W3.alloc (.cells #[.int .i64 0, .int .i64 l3, .int .i64 r3] 91) = W4 := ⟨_, rfl⟩
          have S4 := Lib.hid (show Bx 91 w W4 L d from by rw [← hW4]; exact S3.out.on ((Ext.refl _ _).alloc _))
          rw [hW4]
          clear hW4 e0 e1 e2 e3 e4 f0 f1 f2 g0 g1 g2 l1 l0
          have C6 := Lib.hid (ref5merges_any W4 L d (R.out.on S4.out.ext) hww hmm)
          refine C6.out.mono ?_
          rintro e W5 ⟨rfl, hx⟩
          have S5 := Lib.hid (S4.out.on hx)
          obtain ⟨y, hy⟩ : ∃ y, (faultM (pairsGo d.ws 0 [] d.ms)).1 = y := ⟨_, rfl⟩
          obtain ⟨l5, hl⟩ : ∃ y, (faultM (pairsGo d.ws 0 [] d.ms)).2.1 = y := ⟨_, rfl⟩
          obtain ⟨r5, hr⟩ : ∃ y, (faultM (pairsGo d.ws 0 [] d.ms)).2.2 = y := ⟨_, rfl⟩
          rw [hy, hl, hr]
          have HC := Lib.hid (show check5 d = (y, l5, r5) from by
            unfold check5
            rw [if_neg NA.out.1, if_neg (Decidable.not_not.2 NA.out.2), if_neg (by rw [HY.out.1]; simp), if_neg (by rw [HW2.out]; simp), ← hy, ← hl, ← hr]
            unfold faultM
            by_cases h : (pairsGo d.ws 0 [] d.ms).2 = 0
            · rw [if_neg (by simpa using h), if_pos h]
            · rw [if_pos h, if_neg h])
          clear hx hy hl hr C6
          obtain ⟨e0, e1, e2, e3, e4, f0, f1, f2, g0, g1, g2, l1, l0⟩ := S5.out.facts
          go_wp2_with fail
          refine bodyPost_ret (v := .agg #[.int .i64 y, .int .i64 l5, .int .i64 r5]) (by simp [results, Tryz.f43, go_sem, f0, f1, f2]) rfl (CheckEnd.mk HC.out (S5.out.set _ _ _))
end Go.Proofs.YtigpaaelggnffaaGreatDoor.Sl

/- Merged of Of, House, Right. -/
/- tesserakeep.Of: the model of some data, where these are right. -/
namespace Go.Proofs.YtigpaaelggnffaaGreatDoor.Sl
open Go.Proofs.YtigpaaelggnffaaGreatDoor.Lib
open Go.RowKit
set_option linter.unusedVariables false
set_option linter.unusedSimpArgs false

/-- Data of which a model is made here. -/
def good (d : Dat) : Bool := !large d && decide ((check5 d).1 = 0)
def OfEnd (w : World) (d : Dat) (e : Ending) (w' : World) : Prop :=
  Ext (fun _ => False) w w' ∧ ((good d = false ∧ e = .returned (.tuple #[.pointer none, .bool false, .bool true])) ∨
    (good d = true ∧ ∃ a, e = .returned (.tuple #[.pointer (some ⟨a, 0, none⟩), .bool true, .bool true]) ∧ IsModel w' a d ∧ w.heap.size ≤ a))

set_option maxRecDepth 100000 in
set_option maxHeartbeats 2000000 in
theorem of5_any (w : World) (L : Pl) (d : Dat) (h : DR w L d) :
    Calls Tryz.prog 10 #[.agg #[.slice L.p0 d.ws.length L.c0, .slice L.p1 d.ms.length L.c1, .slice L.p2 d.ls.length L.c2, .slice L.p3 d.ns.length L.c3, .slice L.p4 d.ss.length L.c4]] w fun e w' => OfEnd w d e w' := by
  have R := Lib.hid h
  clear h
  have hb : (w.alloc (.cells #[.slice L.p0 d.ws.length L.c0, .slice L.p1 d.ms.length L.c1, .slice L.p2 d.ls.length L.c2, .slice L.p3 d.ns.length L.c3, .slice L.p4 d.ss.length L.c4] 26)).heap[w.heap.size]? = _ := heap_alloc_new w _
  have X0 := Lib.hid (((Ext.refl (fun _ => False) w).alloc (.cells #[.slice L.p0 d.ws.length L.c0, .slice L.p1 d.ms.length L.c1, .slice L.p2 d.ls.length L.c2, .slice L.p3 d.ns.length L.c3, .slice L.p4 d.ss.length L.c4] 26)))
  have HB := Lib.hid hb
  have CL := Lib.hid (large_any _ L d (R.out.on X0.out))
  clear hb
  have hq : ∀ W, (binOp .neq 87 (.agg #[.int .i64 0, .int .i64 0, .int .i64 0]) (.agg #[.int .i64 0, .int .i64 0, .int .i64 0])).run Tryz.prog W = .ok (.bool false) W := fun W => by kernel_rfl
  cases hL : large d with
  | true =>
    rw [hL] at CL
    have G := Lib.hid (show good d = false from by unfold good; rw [hL]; rfl)
    clear hL
    go_enter Tryz.func10, Tryz.ntmps10
    go_wp2_with fail
    refine CL.out.mono ?_
    rintro e W1 ⟨rfl, hx⟩
    have X1 := Lib.hid (X0.out.trans hx (fun _ _ h => h))
    clear hx
    go_wp2_with fail
    go_ret3
    exact ⟨X1.out, .inl ⟨G.out, rfl⟩⟩
  | false =>
    rw [hL] at CL
    have HL := Lib.hid hL
    clear hL
    go_enter Tryz.func10, Tryz.ntmps10
    go_wp2_with fail
    refine CL.out.mono ?_
    rintro e W1 ⟨rfl, hx⟩
    have X1 := Lib.hid (X0.out.trans hx (fun _ _ h => h))
    have B1 := Lib.hid (hx.obj HB.out (fun h => h))
    have e0 := blk_cell B1.out 0
    have e1 := blk_cell B1.out 1
    have e2 := blk_cell B1.out 2
    have e3 := blk_cell B1.out 3
    have e4 := blk_cell B1.out 4
    simp at e0 e1 e2 e3 e4
    clear hx CL
    have CN := Lib.hid (new5_any W1 L d (R.out.on X1.out))
    go_wp2_with fail
    refine CN.out.mono ?_
    rintro e W2 ⟨hx, ⟨hy, rfl⟩ | ⟨hy, a, rfl, hM, hnew⟩⟩
    · have X2 := Lib.hid (X1.out.trans hx (fun _ _ h => h))
      have B2 := Lib.hid (hx.obj B1.out (fun h => h))
      obtain ⟨y, hy1⟩ : ∃ y, (check5 d).1 = y := ⟨_, rfl⟩
      obtain ⟨l, hl1⟩ : ∃ y, (check5 d).2.1 = y := ⟨_, rfl⟩
      obtain ⟨r, hr1⟩ : ∃ y, (check5 d).2.2 = y := ⟨_, rfl⟩
      rw [hy1] at hy ⊢
      rw [hl1, hr1]
      have HY := Lib.hid (And.intro hy1 (And.intro hl1 hr1))
      have G := Lib.hid (show good d = false from by unfold good; rw [hy1, decide_eq_false hy]; simp)
      have hne : (y != 0) = true := by simpa using hy
      have l2 := blk_lt B2.out
      clear hx hy1 hl1 hr1 e0 e1 e2 e3 e4 CN hy
      have e0 := blk_cell B2.out 0
      have e1 := blk_cell B2.out 1
      have e2 := blk_cell B2.out 2
      have e3 := blk_cell B2.out 3
      have e4 := blk_cell B2.out 4
      simp at e0 e1 e2 e3 e4
      go_wp2_with fail
      obtain ⟨W3, hW3⟩ : ∃ W3, W2.alloc (.cells #[.int .i64 y, .int .i64 l, .int .i64 r] 87) = W3 := ⟨_, rfl⟩
      have X3 := Lib.hid (show Ext (fun _ => False) w W3 from by rw [← hW3]; exact X2.out.alloc _)
      have F3 := Lib.hid (show W3.heap[W2.heap.size]? = some (.cells #[.int .i64 y, .int .i64 l, .int .i64 r] 87 (0, 0)) from by rw [← hW3]; exact heap_alloc_new _ _)
      rw [hW3]
      clear hW3 e0 e1 e2 e3 e4
      have CC := Lib.hid (ref5check_any W3 L d (R.out.on X3.out))
      refine CC.out.mono ?_
      rintro e W4 ⟨rfl, hx⟩
      have X4 := Lib.hid (X3.out.trans hx (fun _ _ h => h))
      have F4 := Lib.hid (hx.obj F3.out (fun h => h))
      rw [HY.out.1, HY.out.2.1, HY.out.2.2]
      clear hx CC
      have l4 := blk_lt F4.out
      have f0 := blk_cell F4.out 0
      have f1 := blk_cell F4.out 1
      have f2 := blk_cell F4.out 2
      simp at f0 f1 f2
      go_wp2_with fail
      go_quiet (fail)
      go_wp2_with fail
      go_ret3
      exact ⟨(X4.out.alloc _).drewN _, .inl ⟨G.out, rfl⟩⟩
    · have X2 := Lib.hid (X1.out.trans hx (fun _ _ h => h))
      have B2 := Lib.hid (hx.obj B1.out (fun h => h))
      have HY := Lib.hid hy
      have G := Lib.hid (show good d = true from by unfold good; rw [HL.out, hy]; simp)
      have M2 := Lib.hid hM
      have NW := Lib.hid (show w.heap.size ≤ a from by have := X1.out.size; omega)
      have l2 := blk_lt B2.out
      clear hx hy hM hnew e0 e1 e2 e3 e4 CN
      have e0 := blk_cell B2.out 0
      have e1 := blk_cell B2.out 1
      have e2 := blk_cell B2.out 2
      have e3 := blk_cell B2.out 3
      have e4 := blk_cell B2.out 4
      simp at e0 e1 e2 e3 e4
      go_wp2_with fail
      obtain ⟨W3, hW3⟩ : ∃ W3, W2.alloc (.cells #[.int .i64 0, .int .i64 0, .int .i64 0] 87) = W3 := ⟨_, rfl⟩
      have X23 : Ext (fun _ => False) W2 W3 := by rw [← hW3]; exact (Ext.refl _ _).alloc _
      have X3 := Lib.hid (X2.out.trans X23 (fun _ _ h => h))
      have M3 := Lib.hid (M2.out.on X23)
      have F3 := Lib.hid (show W3.heap[W2.heap.size]? = some (.cells #[.int .i64 0, .int .i64 0, .int .i64 0] 87 (0, 0)) from by rw [← hW3]; exact heap_alloc_new _ _)
      rw [hW3]
      clear hW3 e0 e1 e2 e3 e4 X23
      have CC := Lib.hid (ref5check_any W3 L d (R.out.on X3.out))
      refine CC.out.mono ?_
      rintro e W4 ⟨rfl, hx⟩
      have X4 := Lib.hid (X3.out.trans hx (fun _ _ h => h))
      have F4 := Lib.hid (hx.obj F3.out (fun h => h))
      have M4 := Lib.hid (M3.out.on hx)
      rw [HY.out]
      clear hx CC
      have l4 := blk_lt F4.out
      have f0 := blk_cell F4.out 0
      have f1 := blk_cell F4.out 1
      have f2 := blk_cell F4.out 2
      simp at f0 f1 f2
      go_wp2_with fail
      go_ret3
      exact ⟨X4.out.alloc _, .inr ⟨G.out, a, rfl, M4.out.on ((Ext.refl _ _).alloc _), NW.out⟩⟩
end Go.Proofs.YtigpaaelggnffaaGreatDoor.Sl

/- tesserabook.House: the small model. -/
namespace Go.Proofs.YtigpaaelggnffaaGreatDoor.Sl
open Go.Proofs.YtigpaaelggnffaaGreatDoor.Lib
open Go.RowKit
set_option linter.unusedVariables false
set_option linter.unusedSimpArgs false

def houseDat : Dat :=
  ⟨[⟨#[97, 98]⟩, ⟨#[32, 97]⟩, ⟨#[116, 104]⟩, ⟨#[116, 104, 101]⟩, ⟨#[104, 101]⟩, ⟨#[195, 169]⟩],
   [⟨97, 98, 256⟩, ⟨32, 97, 257⟩, ⟨116, 104, 258⟩, ⟨258, 101, 259⟩, ⟨104, 101, 260⟩, ⟨195, 169, 261⟩],
   [⟨97, 122⟩, ⟨233, 233⟩], [⟨48, 57⟩], [⟨9, 10⟩, ⟨32, 32⟩]⟩
theorem house_good : good houseDat = true := by decide +kernel
/-- A literal's row is read. -/
theorem Rd.lit {α : Type} {E : En α} {w : World} {b t : Nat} {l : List α} {fr : Nat × Nat} (h : w.heap[b]? = some (.cells (flat E l).toArray t fr)) : Rd E w (some ⟨b, 0, none⟩) l := by
  intro i x hi
  refine ⟨b, 0, rfl, blk_lt h, fun j hj => ?_⟩
  rw [Nat.zero_add, blk_cell h]
  simp only [List.getElem?_toArray]
  exact flat_get E hi j hj
theorem alloc_at (w : World) (o : Obj) (k : Nat) (h : k = w.heap.size) : (w.alloc o).heap[k]? = some o := by subst h; exact heap_alloc_new w o
def HouseEnd (w : World) (e : Ending) (w' : World) : Prop := ∃ L : Pl, e = .returned (.agg #[.slice L.p0 houseDat.ws.length L.c0, .slice L.p1 houseDat.ms.length L.c1, .slice L.p2 houseDat.ls.length L.c2, .slice L.p3 houseDat.ns.length L.c3, .slice L.p4 houseDat.ss.length L.c4]) ∧ DR w' L houseDat ∧ Ext (fun _ => False) w w'

set_option maxRecDepth 100000 in
set_option maxHeartbeats 1000000 in
theorem house_any (w : World) : Calls Tryz.prog 40 #[] w fun e w' => HouseEnd w e w' := by
  go_enter Tryz.func40, Tryz.ntmps40
  go_wp2_with fail
  refine bodyPost_ret (v := .agg #[.slice (Pl.mk (some ⟨w.heap.size + 1, 0, none⟩) 6 (some ⟨w.heap.size + 1 + 1, 0, none⟩) 6 (some ⟨w.heap.size + 1 + 1 + 1, 0, none⟩) 2 (some ⟨w.heap.size + 1 + 1 + 1 + 1, 0, none⟩) 1 (some ⟨w.heap.size + 1 + 1 + 1 + 1 + 1, 0, none⟩) 2).p0 houseDat.ws.length (Pl.mk (some ⟨w.heap.size + 1, 0, none⟩) 6 (some ⟨w.heap.size + 1 + 1, 0, none⟩) 6 (some ⟨w.heap.size + 1 + 1 + 1, 0, none⟩) 2 (some ⟨w.heap.size + 1 + 1 + 1 + 1, 0, none⟩) 1 (some ⟨w.heap.size + 1 + 1 + 1 + 1 + 1, 0, none⟩) 2).c0, .slice (Pl.mk (some ⟨w.heap.size + 1, 0, none⟩) 6 (some ⟨w.heap.size + 1 + 1, 0, none⟩) 6 (some ⟨w.heap.size + 1 + 1 + 1, 0, none⟩) 2 (some ⟨w.heap.size + 1 + 1 + 1 + 1, 0, none⟩) 1 (some ⟨w.heap.size + 1 + 1 + 1 + 1 + 1, 0, none⟩) 2).p1 houseDat.ms.length (Pl.mk (some ⟨w.heap.size + 1, 0, none⟩) 6 (some ⟨w.heap.size + 1 + 1, 0, none⟩) 6 (some ⟨w.heap.size + 1 + 1 + 1, 0, none⟩) 2 (some ⟨w.heap.size + 1 + 1 + 1 + 1, 0, none⟩) 1 (some ⟨w.heap.size + 1 + 1 + 1 + 1 + 1, 0, none⟩) 2).c1, .slice (Pl.mk (some ⟨w.heap.size + 1, 0, none⟩) 6 (some ⟨w.heap.size + 1 + 1, 0, none⟩) 6 (some ⟨w.heap.size + 1 + 1 + 1, 0, none⟩) 2 (some ⟨w.heap.size + 1 + 1 + 1 + 1, 0, none⟩) 1 (some ⟨w.heap.size + 1 + 1 + 1 + 1 + 1, 0, none⟩) 2).p2 houseDat.ls.length (Pl.mk (some ⟨w.heap.size + 1, 0, none⟩) 6 (some ⟨w.heap.size + 1 + 1, 0, none⟩) 6 (some ⟨w.heap.size + 1 + 1 + 1, 0, none⟩) 2 (some ⟨w.heap.size + 1 + 1 + 1 + 1, 0, none⟩) 1 (some ⟨w.heap.size + 1 + 1 + 1 + 1 + 1, 0, none⟩) 2).c2, .slice (Pl.mk (some ⟨w.heap.size + 1, 0, none⟩) 6 (some ⟨w.heap.size + 1 + 1, 0, none⟩) 6 (some ⟨w.heap.size + 1 + 1 + 1, 0, none⟩) 2 (some ⟨w.heap.size + 1 + 1 + 1 + 1, 0, none⟩) 1 (some ⟨w.heap.size + 1 + 1 + 1 + 1 + 1, 0, none⟩) 2).p3 houseDat.ns.length (Pl.mk (some ⟨w.heap.size + 1, 0, none⟩) 6 (some ⟨w.heap.size + 1 + 1, 0, none⟩) 6 (some ⟨w.heap.size + 1 + 1 + 1, 0, none⟩) 2 (some ⟨w.heap.size + 1 + 1 + 1 + 1, 0, none⟩) 1 (some ⟨w.heap.size + 1 + 1 + 1 + 1 + 1, 0, none⟩) 2).c3, .slice (Pl.mk (some ⟨w.heap.size + 1, 0, none⟩) 6 (some ⟨w.heap.size + 1 + 1, 0, none⟩) 6 (some ⟨w.heap.size + 1 + 1 + 1, 0, none⟩) 2 (some ⟨w.heap.size + 1 + 1 + 1 + 1, 0, none⟩) 1 (some ⟨w.heap.size + 1 + 1 + 1 + 1 + 1, 0, none⟩) 2).p4 houseDat.ss.length (Pl.mk (some ⟨w.heap.size + 1, 0, none⟩) 6 (some ⟨w.heap.size + 1 + 1, 0, none⟩) 6 (some ⟨w.heap.size + 1 + 1 + 1, 0, none⟩) 2 (some ⟨w.heap.size + 1 + 1 + 1 + 1, 0, none⟩) 1 (some ⟨w.heap.size + 1 + 1 + 1 + 1 + 1, 0, none⟩) 2).c4]) (by simp [results, Tryz.f40, go_sem, houseDat]) rfl ⟨_, rfl, ?_, ?_⟩
  · refine ⟨Rd.lit (t := 9) (fr := (0, 0)) ?_, Rd.lit (t := 125) (fr := (0, 0)) ?_, Rd.lit (t := 127) (fr := (0, 0)) ?_, Rd.lit (t := 127) (fr := (0, 0)) ?_, Rd.lit (t := 127) (fr := (0, 0)) ?_, Nat.le_refl 6, Nat.le_refl 6, Nat.le_refl 2, Nat.le_refl 1, Nat.le_refl 2, by decide, by decide, by decide, by decide, by decide, ?_, ?_⟩
    · exact blk_alloc (blk_alloc (blk_alloc (blk_alloc (alloc_at _ _ _ (by simp)) _) _) _) _
    · exact blk_alloc (blk_alloc (blk_alloc (alloc_at _ _ _ (by simp)) _) _) _
    · exact blk_alloc (blk_alloc (alloc_at _ _ _ (by simp)) _) _
    · exact blk_alloc (alloc_at _ _ _ (by simp)) _
    · exact alloc_at _ _ _ (by simp)
    · intro s hs
      simp [houseDat] at hs
      rcases hs with rfl | rfl | rfl | rfl | rfl | rfl <;> decide
    · intro x hx
      simp [houseDat] at hx
      unfold inI
      rcases hx with rfl | rfl | rfl | rfl | rfl | rfl <;> simp
  · exact ((((((Ext.refl _ w).alloc _).alloc _).alloc _).alloc _).alloc _).alloc _
end Go.Proofs.YtigpaaelggnffaaGreatDoor.Sl

/- Right models, pure: what follows of 'check5 d' being all right. -/
namespace Go.Proofs.YtigpaaelggnffaaGreatDoor.Sl
open Go.Proofs.YtigpaaelggnffaaGreatDoor.Lib
set_option linter.unusedVariables false
set_option linter.unusedSimpArgs false

theorem pairsGo_zero {ws : List ByteArray} {i : Nat} {done t : List Mrg} (h : (pairsGo ws i done t).2 = 0) : ∀ (j : Nat) (x : Mrg), t[j]? = some x → badM ws (done ++ t.take j) x = 0 := by
  induction t generalizing i done with
  | nil => intro j x hj; simp at hj
  | cons y t ih =>
    unfold pairsGo at h
    by_cases hb : badM ws done y = 0
    · rw [if_pos hb] at h
      intro j x hj
      cases j with
      | zero => simp at hj; subst hj; simpa using hb
      | succ j =>
        have := ih h j x (by simpa using hj)
        simpa using this
    · rw [if_neg hb] at h
      exact absurd h hb
theorem wordsGo_zero {i : Nat} {seen t : List ByteArray} (h : (wordsGo i seen t).2 = 0) : ∀ (j : Nat) (s : ByteArray), t[j]? = some s → 2 ≤ s.size ∧ s.size ≤ 256 ∧ s ∉ seen ++ t.take j := by
  induction t generalizing i seen with
  | nil => intro j x hj; simp at hj
  | cons y t ih =>
    unfold wordsGo at h
    by_cases h1 : y.size < 2 ∨ 256 < y.size
    · rw [if_pos h1] at h; simp at h
    · rw [if_neg h1] at h
      by_cases h2 : had y seen = true
      · rw [if_pos h2] at h; simp at h
      · rw [if_neg h2] at h
        intro j x hj
        cases j with
        | zero =>
          simp at hj
          subst hj
          refine ⟨by omega, by omega, ?_⟩
          simp
          exact fun h => h2 (had_iff.2 h)
        | succ j =>
          have := ih h j x (by simpa using hj)
          simpa using this
/-- A right model's data (of no more than 4096 merges). -/
structure RightD (d : Dat) : Prop where
  len : d.ws.length = d.ms.length
  few : d.ms.length ≤ 4096
  words : ∀ (j : Nat) (s : ByteArray), d.ws[j]? = some s → 2 ≤ s.size ∧ s.size ≤ 256 ∧ s ∉ d.ws.take j
  idr : ∀ (k : Nat) (x : Mrg), d.ms[k]? = some x → 256 ≤ x.i ∧ x.i < 256 + (d.ms.length : Int)
  idn : ∀ (k : Nat) (x : Mrg), d.ms[k]? = some x → isId (d.ms.take k) x.i = false
  pl : ∀ (k : Nat) (x : Mrg), d.ms[k]? = some x → madeB (d.ms.take k) x.l = true
  pr : ∀ (k : Nat) (x : Mrg), d.ms[k]? = some x → madeB (d.ms.take k) x.r = true
  wd : ∀ (k : Nat) (x : Mrg), d.ms[k]? = some x → (wordOf d.ws x.i).1 = (wordOf d.ws x.l).1 ++ (wordOf d.ws x.r).1
  pn : ∀ (k : Nat) (x : Mrg), d.ms[k]? = some x → hasPair (d.ms.take k) x.l x.r = false
theorem badM_zero {ws : List ByteArray} {done : List Mrg} {x : Mrg} (h : badM ws done x = 0) : 256 ≤ x.i ∧ x.i < 256 + (ws.length : Int) ∧ isId done x.i = false ∧ madeB done x.l = true ∧ madeB done x.r = true ∧ (wordOf ws x.i).1 = (wordOf ws x.l).1 ++ (wordOf ws x.r).1 ∧ hasPair done x.l x.r = false := by
  unfold badM at h
  by_cases h1 : x.i < 256 ∨ 256 + (ws.length : Int) ≤ x.i ∨ isId done x.i = true
  · rw [if_pos h1] at h; simp at h
  rw [if_neg h1] at h
  by_cases h2 : madeB done x.l = false ∨ madeB done x.r = false
  · rw [if_pos h2] at h; simp at h
  rw [if_neg h2] at h
  by_cases h3 : (wordOf ws x.i).1 ≠ (wordOf ws x.l).1 ++ (wordOf ws x.r).1
  · rw [if_pos h3] at h; simp at h
  rw [if_neg h3] at h
  by_cases h4 : hasPair done x.l x.r = true
  · rw [if_pos h4] at h; simp at h
  refine ⟨by omega, by omega, ?_, ?_, ?_, Decidable.not_not.1 h3, by simpa using h4⟩
  · cases e : isId done x.i
    · rfl
    · exact absurd (.inr (.inr e)) h1
  · cases e : madeB done x.l
    · exact absurd (.inl e) h2
    · rfl
  · cases e : madeB done x.r
    · exact absurd (.inr e) h2
    · rfl
theorem RightD.of_good {d : Dat} (h : good d = true) : RightD d := by
  unfold good at h
  rw [Bool.and_eq_true] at h
  have hc := of_decide_eq_true h.2
  unfold check5 at hc
  by_cases h1 : 4096 < d.ms.length
  · rw [if_pos h1] at hc; simp at hc
  rw [if_neg h1] at hc
  by_cases h2 : d.ws.length ≠ d.ms.length
  · rw [if_pos h2] at hc; simp at hc
  rw [if_neg h2] at hc
  by_cases h3 : (check4 d.ls d.ns d.ss).1 ≠ 0
  · rw [if_pos h3] at hc; exact absurd hc h3
  rw [if_neg h3] at hc
  by_cases h4 : (wordsGo 0 [] d.ws).2 ≠ 0
  · rw [if_pos h4] at hc; exact absurd hc h4
  rw [if_neg h4] at hc
  by_cases h5 : (pairsGo d.ws 0 [] d.ms).2 ≠ 0
  · rw [if_pos h5] at hc; exact absurd hc h5
  have hl : d.ws.length = d.ms.length := Decidable.not_not.1 h2
  have P : ∀ (k : Nat) (x : Mrg), d.ms[k]? = some x → _ := fun k x hk => badM_zero (by
    have := pairsGo_zero (Decidable.not_not.1 h5) k x hk
    rwa [List.nil_append] at this)
  have W : ∀ (k : Nat) (x : ByteArray), d.ws[k]? = some x → _ := fun k x hk => wordsGo_zero (Decidable.not_not.1 h4) k x hk
  exact ⟨hl, by omega, fun k x hk => by have := W k x hk; rwa [List.nil_append] at this, fun k x hk => by have := P k x hk; omega, fun k x hk => (P k x hk).2.2.1, fun k x hk => (P k x hk).2.2.2.1, fun k x hk => (P k x hk).2.2.2.2.1, fun k x hk => (P k x hk).2.2.2.2.2.1, fun k x hk => (P k x hk).2.2.2.2.2.2⟩
theorem good_few {d : Dat} (h : good d = true) : d.ms.length ≤ 300 := by
  have h1 := (RightD.of_good h).few
  unfold good large at h
  rw [Bool.and_eq_true] at h
  have := h.1
  simp at this
  omega

/-! ### each id is made once -/
theorem isId_iff {l : List Mrg} {id : Int} : isId l id = true ↔ ∃ (j : Nat) (x : Mrg), l[j]? = some x ∧ x.i = id := by
  unfold isId
  rw [List.any_eq_true]
  constructor
  · rintro ⟨x, hx, h⟩
    obtain ⟨j, hj, rfl⟩ := List.getElem_of_mem hx
    exact ⟨j, _, List.getElem?_eq_getElem hj, of_decide_eq_true h⟩
  · rintro ⟨j, x, hx, rfl⟩
    exact ⟨x, List.mem_of_getElem? hx, by simp⟩
theorem RightD.id_inj {d : Dat} (h : RightD d) {j k : Nat} {x y : Mrg} (hj : d.ms[j]? = some x) (hk : d.ms[k]? = some y) (e : x.i = y.i) : j = k := by
  have key : ∀ {j k : Nat} {x y : Mrg}, d.ms[j]? = some x → d.ms[k]? = some y → x.i = y.i → ¬ j < k := by
    intro j k x y hj hk e hlt
    have := h.idn k y hk
    have : isId (d.ms.take k) y.i = true := isId_iff.2 ⟨j, x, by rw [List.getElem?_take, if_pos hlt]; exact hj, e⟩
    simp_all
  have h1 := key hj hk e
  have h2 := key hk hj e.symm
  omega
theorem nodup_len {n : Nat} : ∀ {l : List Nat}, l.Nodup → (∀ x ∈ l, x < n) → l.length ≤ n := by
  induction n with
  | zero =>
    intro l _ h
    cases l with
    | nil => simp
    | cons x l => exact absurd (h x (by simp)) (Nat.not_lt_zero _)
  | succ n ih =>
    intro l hn h
    by_cases hm : n ∈ l
    · have hn2 := hn.erase n
      have := ih hn2 (fun x hx => by
        have h1 := h x (List.mem_of_mem_erase hx)
        have h2 : x ≠ n := fun e => by subst e; exact (List.Nodup.not_mem_erase hn) hx
        omega)
      rw [List.length_erase_of_mem hm] at this
      omega
    · have := ih hn (fun x hx => by
        have h1 := h x hx
        have h2 : x ≠ n := fun e => hm (e ▸ hx)
        omega)
      omega
theorem nodup_full {n : Nat} {l : List Nat} (hn : l.Nodup) (h : ∀ x ∈ l, x < n) (hl : l.length = n) (j : Nat) (hj : j < n) : j ∈ l := by
  apply Decidable.byContradiction
  intro hm
  have := nodup_len (n := n) (l := j :: l) (List.nodup_cons.2 ⟨hm, hn⟩) (fun x hx => by
    rcases List.mem_cons.1 hx with rfl | hx
    · exact hj
    · exact h x hx)
  simp at this
  omega
/-- Each id from 256 on is made by a merge. -/
theorem RightD.made {d : Dat} (h : RightD d) {id : Int} (h0 : 256 ≤ id) (h1 : id < 256 + (d.ms.length : Int)) : ∃ (k : Nat) (x : Mrg), d.ms[k]? = some x ∧ x.i = id := by
  have hnd : (d.ms.map fun x => (x.i - 256).toNat).Nodup := by
    rw [List.Nodup, List.pairwise_map, List.pairwise_iff_getElem]
    intro i j hi hj hij e
    have r1 := h.idr i _ (List.getElem?_eq_getElem hi)
    have r2 := h.idr j _ (List.getElem?_eq_getElem hj)
    have := h.id_inj (List.getElem?_eq_getElem hi) (List.getElem?_eq_getElem hj) (by omega)
    omega
  have := nodup_full (n := d.ms.length) hnd (fun x hx => by
    obtain ⟨y, hy, rfl⟩ := List.mem_map.1 hx
    obtain ⟨j, hj, rfl⟩ := List.getElem_of_mem hy
    have := h.idr j _ (List.getElem?_eq_getElem hj)
    omega) (by simp) (id - 256).toNat (by omega)
  obtain ⟨y, hy, e⟩ := List.mem_map.1 this
  obtain ⟨j, hj, rfl⟩ := List.getElem_of_mem hy
  have := h.idr j _ (List.getElem?_eq_getElem hj)
  exact ⟨j, _, List.getElem?_eq_getElem hj, by omega⟩
/-- A part is a byte, or made by an earlier merge. -/
theorem part_cases {l : List Mrg} {k : Nat} {id : Int} (h : madeB (l.take k) id = true) : (0 ≤ id ∧ id < 256) ∨ ∃ (j : Nat) (x : Mrg), j < k ∧ l[j]? = some x ∧ x.i = id := by
  unfold madeB at h
  rw [Bool.or_eq_true, Bool.and_eq_true, Bool.and_eq_true] at h
  rcases h with h | h
  · exact .inl ⟨of_decide_eq_true h.1, of_decide_eq_true h.2⟩
  · obtain ⟨j, x, hj, e⟩ := isId_iff.1 h.2
    rw [List.getElem?_take] at hj
    split at hj
    · rename_i hlt
      exact .inr ⟨j, x, hlt, hj, e⟩
    · cases hj
theorem RightD.part_range {d : Dat} (h : RightD d) {k : Nat} {id : Int} (hm : madeB (d.ms.take k) id = true) : 0 ≤ id ∧ id < 256 + (d.ms.length : Int) := by
  rcases part_cases hm with h1 | ⟨j, x, _, hj, rfl⟩
  · omega
  · have := h.idr j x hj; omega
/-- Which merge makes an id. -/
def rankOf (ms : List Mrg) (id : Int) : Option Nat := ms.findIdx? fun x => decide (x.i = id)
theorem rankOf_some {ms : List Mrg} {id : Int} {k : Nat} (h : rankOf ms id = some k) : ∃ x : Mrg, ms[k]? = some x ∧ x.i = id ∧ k < ms.length := by
  unfold rankOf at h
  rw [List.findIdx?_eq_some_iff_getElem] at h
  obtain ⟨hk, hp, _⟩ := h
  exact ⟨ms[k], List.getElem?_eq_getElem hk, of_decide_eq_true hp, hk⟩
theorem rankOf_none {ms : List Mrg} {id : Int} (h : rankOf ms id = none) : ∀ (k : Nat) (x : Mrg), ms[k]? = some x → x.i ≠ id := by
  unfold rankOf at h
  rw [List.findIdx?_eq_none_iff] at h
  intro k x hk
  have := h x (List.mem_of_getElem? hk)
  simpa using this
theorem RightD.rank_at {d : Dat} (h : RightD d) {k : Nat} {x : Mrg} (hk : d.ms[k]? = some x) : rankOf d.ms x.i = some k := by
  cases e : rankOf d.ms x.i with
  | none => exact absurd rfl (rankOf_none e k x hk)
  | some j =>
    obtain ⟨y, hy, e2, _⟩ := rankOf_some e
    rw [h.id_inj hy hk e2]
theorem RightD.rank_ex {d : Dat} (h : RightD d) {id : Int} (h0 : 256 ≤ id) (h1 : id < 256 + (d.ms.length : Int)) : ∃ (k : Nat) (x : Mrg), rankOf d.ms id = some k ∧ d.ms[k]? = some x ∧ x.i = id ∧ k < d.ms.length := by
  obtain ⟨k, x, hk, e⟩ := h.made h0 h1
  exact ⟨k, x, by rw [← e]; exact h.rank_at hk, hk, e, (List.getElem?_eq_some_iff.1 hk).1⟩
theorem RightD.rank_low {d : Dat} (h : RightD d) {id : Int} (h0 : id < 256 ∨ 256 + (d.ms.length : Int) ≤ id) : rankOf d.ms id = none := by
  cases e : rankOf d.ms id with
  | none => rfl
  | some k =>
    obtain ⟨x, hx, e2, _⟩ := rankOf_some e
    have := h.idr k x hx
    omega
end Go.Proofs.YtigpaaelggnffaaGreatDoor.Sl
