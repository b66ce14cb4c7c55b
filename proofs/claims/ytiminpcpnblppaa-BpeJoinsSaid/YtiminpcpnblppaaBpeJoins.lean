/- law10.BpeJoins. -/
import Derived.Test.YtiminpcpnblppaaKnown10
import Derived.Test.YtiminpcpnblppaaRef10J
import Derived.Test.YtiminpcpnblppaaRoomI
import Derived.Test.YtiminpcpnblppaaCame
namespace Go.Proofs.Ytiminpcpnblppaa.Bpe
open Go.RowKit Go.Proofs.Ytiminpcpnblppaa.Lib Go.Proofs.Ytiminpcpnblppaa.Sl Go.Proofs.Ytiminpcpnblppaa.Chain
set_option linter.unusedVariables false
set_option linter.unusedSimpArgs false

set_option maxRecDepth 100000 in
set_option maxHeartbeats 16000000 in
theorem bpejoins_any (w : World) (L : Pl) (d : Dat) (h : DR w L d) (p : Option Addr) (len cap : Nat) (hb8 : len * 8 ≤ 140737488351232) (hlc : len ≤ cap) (hcm : cap ≤ maxLen) (ys : Nat → Int) (hC : RowK.CameInts .i64 w p len ys) (hwf : ∀ i, i < len → (Lit.int .i64 (ys i)).wf = true) :
    Calls Try.prog 3 #[.agg #[.slice L.p0 d.ws.length L.c0, .slice L.p1 d.ms.length L.c1, .slice L.p2 d.ls.length L.c2, .slice L.p3 d.ns.length L.c3, .slice L.p4 d.ss.length L.c4], .slice p len cap] w fun e w' => e = .returned (.bool true) ∧ Ext (fun _ => False) w w' := by
  have hb : (w.alloc (.cells (dataCells L d) 26)).heap[w.heap.size]? = _ := heap_alloc_new w _
  have X0 := Lib.hid ((Ext.refl (fun _ => False) w).alloc (.cells (dataCells L d) 26))
  have C := Lib.hid (of5_any _ L d (h.on X0.out))
  have HB := Lib.hid hb
  have R := Lib.hid h
  have XS := Lib.hid (came_list hC hwf)
  have hcm2 : cap ≤ 9223372036854775807 := by unfold maxLen at hcm; omega
  clear hb h hC hwf hcm
  go_enter Try.func3, Try.ntmps3
  go_wp2_with fail
  refine C.out.mono ?_
  rintro e W ⟨hx, h⟩
  have X := Lib.hid (X0.out.trans hx (fun _ _ h => h))
  have B := Lib.hid (hx.obj HB.out (fun h => h))
  clear hx C
  rcases h with ⟨hg, rfl⟩ | ⟨hg, a, rfl, hm, hwa⟩
  · have K := Lib.hid (known10_any W)
    clear hg
    go_wp2_with fail
    refine K.out.mono ?_
    rintro e W2 ⟨rfl, hx2⟩
    have X2 := Lib.hid (X.out.trans hx2 (fun _ _ h => h))
    clear hx2
    go_wp2_with fail
    go_ret
    exact ⟨rfl, X2.out⟩
  · have D := Lib.hid (RightD.of_good hg)
    have M := Lib.hid hm
    have few := good_few hg
    clear hg hm
    obtain ⟨q, hq⟩ : ∃ q, decide (len ≤ 1048576 ∧ 100 < len) = q := ⟨_, rfl⟩
    have HQ := Lib.hid hq
    clear hq
    go_upto_region 4 with (fail)
    go_cut [35] (fun v wc => W = wc ∧ v = .bool q)
    case first =>
      by_cases hbig : 1048576 < len
      · have d0 : decide ((len : Int) ≤ 1048576) = false := decide_eq_false (by omega)
        have E := Lib.hid (show q = false from by rw [← HQ.out]; exact decide_eq_false (by omega))
        go_wp2_with fail
        go_meet
        exact ⟨rfl, by rw [E.out]⟩
      · have d0 : decide ((len : Int) ≤ 1048576) = true := decide_eq_true (by omega)
        have E := Lib.hid (show q = decide ((len : Int) > 100) from by rw [← HQ.out]; exact decide_eq_decide.2 (by omega))
        clear hbig
        go_wp2_with fail
        go_meet
        exact ⟨rfl, by rw [E.out]⟩
    obtain ⟨rfl, rfl⟩ := hcut
    go_upto_if 35 with fail
    go_cut [1] (fun v wc => W = wc ∧ ∃ ids : List Int, v = .slice p ids.length cap ∧ (ids.length ≤ 100 ∨ (1048576 < ids.length ∧ ids.length ≤ 17592186043904)) ∧ ids.length ≤ cap ∧ Rd eI w p ids ∧ ∀ x ∈ ids, (Lit.int .i64 x).wf = true)
    case first =>
      obtain ⟨xs, hxl, hxr, hxw⟩ := XS.out
      have HXR := Lib.hid hxr
      have HXW := Lib.hid hxw
      rcases q
      · have HT := Lib.hid hxl
        have HN := Lib.hid (show ¬ (len ≤ 1048576 ∧ 100 < len) from of_decide_eq_false HQ.out)
        clear hxr hxw hxl
        go_wp2_with fail
        go_meet
        exact ⟨rfl, xs, by rw [HT.out], by rw [HT.out]; have := HN.out; omega, by rw [HT.out]; omega, HXR.out, HXW.out⟩
      · have HN : len ≤ 1048576 ∧ 100 < len := of_decide_eq_true HQ.out
        obtain ⟨hn1, hn2⟩ := HN
        have HT := Lib.hid (show (xs.take 100).length = 100 from by rw [List.length_take]; omega)
        clear hxr hxw hxl
        have h60 : (100 : Int) ≤ (cap : Int) := by omega
        go_wp2_with fail
        go_meet
        exact ⟨rfl, xs.take 100, by rw [HT.out], by rw [HT.out]; omega, by rw [HT.out]; omega, HXR.out.take 100, fun x hx => HXW.out x (List.mem_of_mem_take hx)⟩
    case rest =>
      obtain ⟨rfl, ids, rfl, hlb, hlcap, hq, hqw⟩ := hcut
      have Q := Lib.hid hq
      have QW := Lib.hid hqw
      have hl17 : ids.length ≤ 17592186043904 := by omega
      clear hq hqw XS hb8 hlc
      go_wp2_with fail
      refine (roomyI_any _ p cap ids (-7) (Q.out.on X.out) hl17).mono ?_
      rintro e W2 ⟨fa, rfl, hA, hx3, hfa⟩
      have E3 := Lib.hid (X.out.trans hx3 (fun _ _ h => h))
      have M3 := Lib.hid (M.out.on hx3)
      have B3 := Lib.hid (hx3.obj B.out (fun h => h))
      have FR := Lib.hid (Rd.of_arr (E := eI) hA)
      have hl80 : (ids.length : Int) ≤ ((ids.length + 80 : Nat) : Int) := by omega
      obtain ⟨⟨ts, te⟩, hdt⟩ : ∃ t, joinedT d ids = t := ⟨_, rfl⟩
      have HDT := Lib.hid hdt
      have JN := Lib.hid (joined_any (M.out.on hx3) D.out (p := some ⟨fa, 0, none⟩) (c := ids.length + 80) (ids := ids) (by have := FR.out.take ids.length; rwa [List.take_left' rfl] at this))
      clear hA hx3 X M B hdt
      go_wp2_with fail
      refine JN.out.mono ?_
      rintro e W3 ⟨po, co, rfl, hA, hx4, hpo⟩
      rw [HDT.out] at hA ⊢
      have E4 := Lib.hid (E3.out.trans hx4 (fun _ _ h => h))
      have B4 := Lib.hid (hx4.obj B3.out (fun h => h))
      have FR4 := Lib.hid (FR.out.on hx4)
      have RT := Lib.hid (ints_rd hA)
      clear hA hx4 E3 B3 FR JN hpo M3 hl80
      go_wp2_with fail
      refine (intactI_any W3 (some ⟨fa, 0, none⟩) p (ids.length + 80) cap ids (-7) FR4.out (Q.out.on E4.out) hl17 (by omega)).mono ?_
      rintro e W4 ⟨rfl, hx5⟩
      have E5 := Lib.hid (E4.out.trans hx5 (fun _ _ h => h))
      have B5 := Lib.hid (hx5.obj B4.out (fun h => h))
      have RT5 := Lib.hid (RT.out.on hx5)
      clear hx5 E4 B4 RT FR4
      by_cases hbig : 1048576 < ids.length
      · have EJ : ts = [] ∧ te = 3 := by
          have := HDT.out
          unfold joinedT at this
          rw [if_pos hbig] at this
          cases this
          exact ⟨rfl, rfl⟩
        obtain ⟨rfl, rfl⟩ := EJ
        have K := Lib.hid (known10_any W4)
        have d0 : decide ((ids.length : Int) > 1048576) = true := decide_eq_true (by omega)
        clear hbig hlb hl17
        go_wp2_with fail
        refine K.out.mono ?_
        rintro e W6 ⟨rfl, hx6⟩
        have E8 := Lib.hid (E5.out.trans hx6 (fun _ _ h => h))
        clear hx6
        go_wp2_with fail
        go_ret
        exact ⟨rfl, E8.out⟩
      · have hl1 : ids.length ≤ 100 := by omega
        have d0 : decide ((ids.length : Int) > 1048576) = false := decide_eq_false (by omega)
        clear hbig hlb
        go_wp2_with fail
        go_loopw [11] (fun i wr => ∃ n : Nat, i = .int .i64 n ∧ n ≤ ids.length ∧ (ids.take n).all (okId d) = true ∧ Ext (fun _ => False) W4 wr) (fun i _ => ids.length - (intOf i).toNat)
        case atStart => exact ⟨0, rfl, Nat.zero_le _, rfl, Ext.refl _ _⟩
        case round =>
          obtain ⟨n, rfl, hn, hv, hx⟩ := hrel
          have HV := Lib.hid hv
          have EX := Lib.hid hx
          clear hv hx
          by_cases hlt : n < ids.length
          · have i1 : (n : Int) < (ids.length : Int) := by omega
            obtain ⟨x, hx⟩ : ∃ x, ids[n]? = some x := ⟨_, List.getElem?_eq_getElem hlt⟩
            obtain ⟨b, o, hp, hb, cx⟩ := (Q.out.on (E5.out.trans EX.out (fun _ _ h => h))).cellI hx
            have HX := Lib.hid hx
            have XW := Lib.hid (QW.out x (List.mem_of_getElem? hx))
            rw [hp]
            have CE := Lib.hid (show ∀ w', Ext (fun _ => False) wr w' → (w'.cell? ⟨w.heap.size, 0, none⟩ = some (.slice L.p0 d.ws.length L.c0) ∧ w'.cell? ⟨w.heap.size, 1, none⟩ = some (.slice L.p1 d.ms.length L.c1) ∧ w'.cell? ⟨w.heap.size, 2, none⟩ = some (.slice L.p2 d.ls.length L.c2) ∧ w'.cell? ⟨w.heap.size, 3, none⟩ = some (.slice L.p3 d.ns.length L.c3) ∧ w'.cell? ⟨w.heap.size, 4, none⟩ = some (.slice L.p4 d.ss.length L.c4) ∧ w'.cell? ⟨b, o + n, none⟩ = some (.int .i64 x)) ∧ Ext (fun _ => False) wr w' from fun w' e =>
              have bb := (EX.out.trans e (fun _ _ h => h)).obj B5.out (fun h => h)
              ⟨⟨blk_cell bb 0, blk_cell bb 1, blk_cell bb 2, blk_cell bb 3, blk_cell bb 4, (e.cell (p := ⟨b, _, none⟩) hb (fun h => h)).trans cx⟩, e⟩)
            have D0 := Lib.hid (show Ext (fun _ => False) wr wr.drew from Ext.drew (Ext.refl _ _))
            have WC := Lib.hid (show ∀ w', Ext (fun _ => False) wr w' → Calls Try.prog 15 #[.agg #[.slice L.p0 d.ws.length L.c0, .slice L.p1 d.ms.length L.c1, .slice L.p2 d.ls.length L.c2, .slice L.p3 d.ns.length L.c3, .slice L.p4 d.ss.length L.c4], .int .i64 x] w' fun e w'' => e = .returned (.tuple #[.string (wordOf d.ws x).1, .bool (okId d x)]) ∧ Ext (fun _ => False) wr w'' from fun w' e => by
              have := ref5word_any w' L d x (R.out.on (E5.out.trans (EX.out.trans e (fun _ _ h => h)) (fun _ _ h => h))) XW.out (by have := D.out.len; omega)
              rw [word_ok D.out] at this
              exact this.mono fun e' w'' ⟨h1, h2⟩ => ⟨h1, e.trans h2 (fun _ _ h => h)⟩)
            obtain ⟨wd, hwd⟩ : ∃ wd, (wordOf d.ws x).1 = wd := ⟨_, rfl⟩
            obtain ⟨ok, hok⟩ : ∃ ok, okId d x = ok := ⟨_, rfl⟩
            have OK := Lib.hid hok
            rw [hwd, hok] at WC
            clear hx hp hb cx hwd hok
            go_wp2_with fail
            go_region_held3 (fun w' => (w'.cell? ⟨w.heap.size, 0, none⟩ = some (.slice L.p0 d.ws.length L.c0) ∧ w'.cell? ⟨w.heap.size, 1, none⟩ = some (.slice L.p1 d.ms.length L.c1) ∧ w'.cell? ⟨w.heap.size, 2, none⟩ = some (.slice L.p2 d.ls.length L.c2) ∧ w'.cell? ⟨w.heap.size, 3, none⟩ = some (.slice L.p3 d.ns.length L.c3) ∧ w'.cell? ⟨w.heap.size, 4, none⟩ = some (.slice L.p4 d.ss.length L.c4) ∧ w'.cell? ⟨b, o + n, none⟩ = some (.int .i64 x)) ∧ Ext (fun _ => False) wr w')
              (first | exact CE.out _ D0.out | exact CE.out _ E6.out)
              (first
                | (go_at_call 15; (with_reducible refine (WC.out _ ?_).mono ?_); (exact D0.out); rintro e W5 ⟨rfl, x6⟩; have E6 := Lib.hid x6; clear x6))
            have E7 := Lib.hid (EX.out.trans E6.out (fun _ _ h => h))
            rcases ok
            · have BAD := Lib.hid (show ts = [] ∧ te = 24 from by
                have := HDT.out
                unfold joinedT at this
                rw [if_neg (by omega), if_neg] at this
                · cases this
                  exact ⟨rfl, rfl⟩
                · rw [List.all_eq_true]
                  intro hall
                  have hb := OK.out
                  rw [hall x (List.mem_of_getElem? HX.out)] at hb
                  cases hb)
              obtain ⟨rfl, rfl⟩ := BAD.out
              have K := Lib.hid (known10_any W5)
              go_wp2_with fail
              refine K.out.mono ?_
              rintro e W6 ⟨rfl, hx6⟩
              have E8 := Lib.hid (E5.out.trans (E7.out.trans hx6 (fun _ _ h => h)) (fun _ _ h => h))
              clear hx6
              go_wp2_with fail
              go_ret
              exact ⟨rfl, E8.out⟩
            · have NX := Lib.hid (show (ids.take (n + 1)).all (okId d) = true from by
                rw [List.take_add_one, HX.out, List.all_append, HV.out]
                simp [OK.out])
              go_wp2_with fail
              go_roundw
              case rel => exact ⟨n + 1, by go_num, by omega, NX.out, E7.out⟩
              case measure => simp [intOf]; omega
          · have hn2 : n = ids.length := by omega
            have i1 : ¬ ((n : Int) < (ids.length : Int)) := by omega
            have TE := Lib.hid (show ts = (joinT d.ms ids).1 ∧ te = 0 from by
              have hall : ids.all (okId d) = true := by have := HV.out; rwa [hn2, List.take_length] at this
              have := HDT.out
              unfold joinedT at this
              rw [if_neg (by omega), if_pos hall] at this
              cases this
              exact ⟨rfl, rfl⟩)
            obtain ⟨T1, rfl⟩ := TE.out
            have TL := Lib.hid (show ts.length ≤ 1125899906842624 from by
              have := join_le d.ms ids
              rw [T1]; omega)
            have bb := EX.out.obj B5.out (fun h => h)
            have k0 := blk_cell bb 0
            have k1 := blk_cell bb 1
            have k2 := blk_cell bb 2
            have k3 := blk_cell bb 3
            have k4 := blk_cell bb 4
            simp [dataCells] at k0 k1 k2 k3 k4
            have E6 := Lib.hid (E5.out.trans EX.out (fun _ _ h => h))
            have RJ := Lib.hid (ref10joined_any wr L d p cap ids (R.out.on E6.out) (by omega) (Q.out.on E6.out) (by omega))
            clear bb hn2 T1
            go_wp2_with fail
            refine RJ.out.mono ?_
            rintro e W5 ⟨po2, co2, sp2, sc2, rfl, hA2, _, hx6, _, _⟩
            rw [← TE.out.1] at hA2 ⊢
            have RA := Lib.hid (RT5.out.on (EX.out.trans hx6 (fun _ _ h => h)))
            have E7 := Lib.hid (E6.out.trans hx6 (fun _ _ h => h))
            have HR := Lib.hid (Rd.of_arr hA2)
            clear hA2 hx6 RJ k0 k1 k2 k3 k4
            go_wp2_with fail
            refine (sameI_any W5 po po2 co co2 ts ts RA.out HR.out TL.out).mono ?_
            rintro e W6 ⟨rfl, hx7⟩
            have E8 := Lib.hid (E7.out.trans hx7 (fun _ _ h => h))
            rw [decide_eq_true (rfl : ts = ts)]
            clear hx7
            go_wp2_with fail
            refine (known10_any W6).mono ?_
            rintro e W7 ⟨rfl, hx8⟩
            have E9 := Lib.hid (E8.out.trans hx8 (fun _ _ h => h))
            clear hx8
            go_wp2_with fail
            go_ret
            exact ⟨rfl, E9.out⟩
end Go.Proofs.Ytiminpcpnblppaa.Bpe
