/- law23.TallySums. -/
import Derived.Test.YtigpaaelggnffaaGreatDoorTallySumP
import Derived.Test.YtigpaaelggnffaaGreatDoorTallyTurned
import Derived.Test.YtigpaaelggnffaaGreatDoorTallyRs
namespace Go.Proofs.YtigpaaelggnffaaGreatDoor.Ty
open Go.Sort Go.RowKit Go.Proofs.YtigpaaelggnffaaGreatDoor.Lib Go.Proofs.YtigpaaelggnffaaGreatDoor.Sl Go.Proofs.YtigpaaelggnffaaGreatDoor.Bpe Go.Proofs.YtigpaaelggnffaaGreatDoor.Cut Go.Proofs.YtigpaaelggnffaaGreatDoorW.PrintLast
set_option linter.unusedVariables false
set_option linter.unusedSimpArgs false

theorem cat_snoc (d : Dat) (l : List Int) (y : Int) : (cat d (l ++ [y])).length = (cat d l).length + (wb d y).length := by
  unfold cat
  rw [List.flatMap_append, List.length_append]
  simp
theorem cat_app (d : Dat) (l m : List Int) : (cat d (l ++ m)).length = (cat d l).length + (cat d m).length := by
  unfold cat
  rw [List.flatMap_append, List.length_append]
theorem catAll_le {d : Dat} (hd : RightD d) (most : Int) : ∀ l : List ByteArray, (cat d (idsAll d most l)).length ≤ sumSz l
  | [] => Nat.le_refl _
  | x :: l => by
    have e : sumSz (x :: l) = x.size + sumSz l := rfl
    have h1 := encT_cat hd most x
    have h2 := catAll_le hd most l
    have e2 : idsAll d most (x :: l) = (encT d most x).1 ++ idsAll d most l := rfl
    rw [e2, cat_app]
    omega
theorem less_sum (d : Dat) : ∀ l : List Int, (l.map fun x => ((wb d x).length : Int) - 1).sum = ((cat d l).length : Int) - (l.length : Int)
  | [] => rfl
  | x :: l => by
    have h := less_sum d l
    have e : cat d (x :: l) = wb d x ++ cat d l := rfl
    rw [List.map_cons, List.sum_cons, h, e, List.length_append, List.length_cons]
    omega
theorem sumN_take {R : List TRow} {k : Nat} {x : TRow} (h : R[k]? = some x) : sumN (R.take (k + 1)) = sumN (R.take k) + x.n := by
  rw [List.take_add_one, h, sumN_append]
  simp [sumN]
/-- Rows in their order, each id once. -/
theorem ord_next {ids : List Int} {k : Nat} {x y : TRow} (hx : (countR ids)[k]? = some x) (hy : (countR ids)[k + 1]? = some y) : y.n ≤ x.n ∧ (y.n = x.n → x.id < y.id) := by
  have hs := ordR_sorted (rowsOf ids)
  have hn : ((countR ids).map (·.id)).Nodup := by
    have := (rowsOf_counts ids).nodup
    exact ((ordR_perm (rowsOf ids)).map (·.id)).nodup_iff.2 this
  obtain ⟨h1, rfl⟩ := List.getElem?_eq_some_iff.1 hx
  obtain ⟨h2, rfl⟩ := List.getElem?_eq_some_iff.1 hy
  have h3 := List.pairwise_iff_getElem.1 hs k (k + 1) h1 h2 (by omega)
  have h4 := List.pairwise_iff_getElem.1 hn k (k + 1) (by rw [List.length_map]; exact h1) (by rw [List.length_map]; exact h2) (by omega)
  rw [List.getElem_map, List.getElem_map] at h4
  rw [ltR_false] at h3
  unfold countR at h4 ⊢
  refine ⟨by omega, fun e => ?_⟩
  omega
theorem count_valR {ids : List Int} {x : TRow} (h : x ∈ countR ids) : valR (rowsOf ids) x.id = x.n :=
  valR_mem (rowsOf_counts ids).nodup ((ordR_perm _).mem_iff.1 h)
theorem count_nodup (ids : List Int) : ((countR ids).map (·.id)).Nodup := ((ordR_perm (rowsOf ids)).map (·.id)).nodup_iff.2 (rowsOf_counts ids).nodup
set_option maxRecDepth 100000 in
set_option maxHeartbeats 16000000 in
theorem sums_any (w : World) (hT : Tabs w) (L0 : Pl) (d : Dat) (h : DR w L0 d) (mo : Int) (hmo : (Lit.int .i64 mo).wf = true) (pt : Option Addr) (ct : Nat) (l : List ByteArray) (hl : Rd eS w pt l) (hlc : l.length ≤ ct) (hlb : l.length * 16 ≤ 140737488351232) (hls : ∀ z ∈ l, z.size ≤ 140737488351232) :
    Calls Tryz.prog 8 #[.agg #[.slice L0.p0 d.ws.length L0.c0, .slice L0.p1 d.ms.length L0.c1, .slice L0.p2 d.ls.length L0.c2, .slice L0.p3 d.ns.length L0.c3, .slice L0.p4 d.ss.length L0.c4], .int .i64 mo, .slice pt l.length ct] w fun e w' => e = .returned (.bool true) ∧ Ext (fun _ => False) w w' := by
  have hb : (w.alloc (.cells (dataCells L0 d) 26)).heap[w.heap.size]? = _ := heap_alloc_new w _
  have X0 := Lib.hid ((Ext.refl (fun _ => False) w).alloc (.cells (dataCells L0 d) 26))
  have C := Lib.hid (of5_any _ L0 d (h.on X0.out))
  have HT := Lib.hid (hT.on X0.out)
  have HL := Lib.hid (hl.on X0.out)
  have HMO := Lib.hid (Wi.inI_wf hmo)
  clear hb h hT hmo hl hls
  go_enter Tryz.func8, Tryz.ntmps8
  go_wp2_with fail
  refine C.out.mono ?_
  rintro e W ⟨hx, h⟩
  have X := Lib.hid (X0.out.trans hx (fun _ _ h => h))
  have T := Lib.hid (HT.out.on hx)
  have LT := Lib.hid (HL.out.on hx)
  clear hx C
  rcases h with ⟨hg, rfl⟩ | ⟨hg, a, rfl, hm, hwa⟩
  · have K := Lib.hid (known_any W T.out)
    clear hg
    go_wp2_with fail
    refine K.out.mono ?_
    rintro e W2 ⟨rfl, hx2⟩
    have X2 := Lib.hid (X.out.trans hx2 (fun _ _ h => h))
    clear hx2
    go_wp2_with fail
    go_ret
    exact ⟨rfl, X2.out⟩
  · have D := Lib.hid (RightD.of_good hg)
    have M := Lib.hid (IsCut.of_good hm hg)
    clear hg hm
    go_wp2_with fail
    refine (Wi.within_any W mo 1 50 HMO.out (by omega) (by omega) (by omega)).mono ?_
    rintro e W' ⟨r, rfl, hr0, hr1, rfl⟩
    go_wp2_with fail
    refine (few_any W pt ct l LT.out (by omega) 200 (by decide)).mono ?_
    rintro e W1 ⟨p, c, rfl, hA1, hx1, hf1, hz1⟩
    have hL8 := fewL_length l 200
    have hLS := fewL_sum l 200
    obtain ⟨L, hL⟩ : ∃ L, fewL l 200 = L := ⟨_, rfl⟩
    rw [hL] at hA1 hL8 hLS hz1
    rw [hL]
    have X1 := Lib.hid (X.out.trans hx1 (fun _ _ h => h))
    have T1 := Lib.hid (T.out.on hx1)
    have M1 := Lib.hid (M.out.on hx1)
    have RL := Lib.hid (Rd.of_arr hA1)
    have CT := Lib.hid (catAll_le D.out r L)
    have IL := Lib.hid (idsAll_len D.out r L (by omega))
    have IO := Lib.hid (idsAll_in D.out r L)
    have EN := Lib.hid (fun (W : World) (hx : Ext (fun _ => False) W1 W) (s : ByteArray) (hs : s.size ≤ 1048576) => encode_st (M1.out.on hx) D.out (T1.out.on hx) r hr0 (by omega) s hs)
    have TL := Lib.hid (fun s hs => toks_le_ids D.out r s hs)
    have WO := Lib.hid (fun (W : World) (hx : Ext (fun _ => False) W1 W) (id : Int) => wordI_any (M1.out.on hx).model D.out id)
    clear hA1 hx1 hf1 hL hz1 hwa
    have hmm := @run_makeMap Tryz.prog
    go_upto_region 9 with (fail)
    obtain ⟨mb, hmb⟩ : ∃ mb, W1.heap.size = mb := ⟨_, rfl⟩
    obtain ⟨W2, hW2⟩ : ∃ W2, W1.alloc (.map #[] 0) = W2 := ⟨_, rfl⟩
    have ST0 := Lib.hid (show Ext (fun _ => False) W1 W2 ∧ MapS W2 mb [] ∧ W1.heap.size ≤ mb from by rw [← hW2, ← hmb]; exact ⟨(Ext.refl _ _).alloc _, MapS.new W1, Nat.le_refl _⟩)
    try rw [hW2]
    try rw [hmb]
    clear hW2 hmb hmm
    go_wp2_with fail
    go_loopw [10, 11, 13] (fun vi vb vk wr => ∃ k : Nat, vi = .int .i64 ((idsAll d r (L.take k)).length : Nat) ∧ vb = .int .i64 ((cat d (idsAll d r (L.take k))).length : Nat) ∧ vk = .int .i64 k ∧ k ≤ L.length ∧ MapS wr mb (entsR (rowsOf (idsAll d r (L.take k)))) ∧ Ext (fun j => j = mb) W2 wr) (fun _ _ vk _ => L.length - (intOf vk).toNat)
    case atStart => exact ⟨0, rfl, rfl, rfl, Nat.zero_le _, ST0.out.2.1, Ext.refl _ _⟩
    case round =>
      obtain ⟨k, rfl, rfl, rfl, hk2, hmap, hx⟩ := hrel
      have MP := Lib.hid hmap
      have EX := Lib.hid hx
      have E1 := Lib.hid (show Ext (fun _ => False) W1 wr from ST0.out.1.trans hx (fun i hi e => by have := ST0.out.2.2; omega))
      clear hmap hx
      by_cases hlt2 : k < L.length
      · have i3 : (k : Int) < (L.length : Int) := by omega
        obtain ⟨x, hget⟩ : ∃ x, L[k]? = some x := ⟨_, List.getElem?_eq_getElem hlt2⟩
        obtain ⟨b, o, hp, hb, c0⟩ := (RL.out.on E1.out).cellS hget
        subst hp
        have hxs : x.size ≤ 1048576 := by have := size_le_sum (List.mem_of_getElem? hget); omega
        have EK := Lib.hid (EN.out wr E1.out x hxs)
        have SN := Lib.hid (idsAll_snoc d r hget)
        have hall : idsAll d r L = idsAll d r (L.take (k + 1)) ++ idsAll d r (L.drop (k + 1)) := by
          unfold idsAll
          rw [← List.flatMap_append, List.take_append_drop]
        have SUB := Lib.hid (show ∀ y ∈ idsAll d r (L.take (k + 1)), okId d y = true from fun y hy => IO.out y (by rw [hall]; exact List.mem_append_left _ hy))
        have LEN := Lib.hid (show (idsAll d r (L.take (k + 1))).length ≤ 1600 ∧ (cat d (idsAll d r (L.take (k + 1)))).length ≤ 1600 from by
          have h1 := IL.out
          have h2 := CT.out
          rw [hall, List.length_append] at h1
          rw [hall, cat_app] at h2
          omega)
        obtain ⟨pre, hpre⟩ : ∃ pre, idsAll d r (L.take k) = pre := ⟨_, rfl⟩
        obtain ⟨xs, hxs2⟩ : ∃ xs, (encT d r x).1 = xs := ⟨_, rfl⟩
        rw [hpre] at MP SN
        rw [hxs2] at EK SN
        rw [SN.out] at SUB LEN
        have hle := LEN.out
        rw [List.length_append, cat_app] at hle
        have hxl : xs.length ≤ 1600 := by omega
        have hpl : pre.length ≤ 1600 := by omega
        rw [hpre]
        clear hget hpre hxs2 hall hle
        obtain ⟨np, hnp⟩ : ∃ np, pre.length = np := ⟨_, rfl⟩
        rw [hnp] at hpl ⊢
        obtain ⟨cp, hcp⟩ : ∃ cp, (cat d pre).length = cp := ⟨_, rfl⟩
        rw [hcp]
        have NP := Lib.hid hnp
        have CP := Lib.hid hcp
        clear hnp hcp
        go_wp2_with fail
        refine EK.out.mono ?_
        rintro e W3 ⟨st3, q3, c3, rfl, hA3, hx3, hf3⟩
        have A3 := Lib.hid hA3
        have M3 := Lib.hid (MP.out.ext hx3 (fun h => h))
        have X3 := Lib.hid (EX.out.trans hx3 (fun _ _ h => h.elim))
        have F3 := Lib.hid (show ∀ b, blkOf q3 = some b → b ≠ mb from fun b hb e => by have := hf3 b hb; have := MP.out.lt; omega)
        clear hA3 hx3 hf3 EK
        go_wp2_with fail
        go_loopw [11, 17] (fun vb vj wr3 => ∃ j : Nat, vb = .int .i64 ((cat d (pre ++ xs.take j)).length : Nat) ∧ vj = .int .i64 j ∧ j ≤ xs.length ∧ MapS wr3 mb (entsR (rowsOf (pre ++ xs.take j))) ∧ Ext (fun j => j = mb) W2 wr3 ∧ Arr wr3 3 1 q3 xs.length c3 (ints xs)) (fun _ vj _ => xs.length - (intOf vj).toNat)
        case atStart => exact ⟨0, by rw [List.take_zero, List.append_nil, CP.out], rfl, Nat.zero_le _, by rw [List.take_zero, List.append_nil]; exact M3.out, X3.out, A3.out⟩
        case round =>
          obtain ⟨j, rfl, rfl, hj, hmj, hxj, haj⟩ := hrel
          have MJ := Lib.hid hmj
          have XJ := Lib.hid hxj
          have AJ := Lib.hid haj
          by_cases hlt3 : j < xs.length
          · have i4 : (j : Int) < (xs.length : Int) := by omega
            obtain ⟨y, hgy⟩ : ∃ y, xs[j]? = some y := ⟨_, List.getElem?_eq_getElem hlt3⟩
            obtain ⟨b3, o3, hp3, hb3, c3'⟩ := (ints_rd haj).cellI hgy
            have hoy := SUB.out y (List.mem_append_right _ (List.mem_of_getElem? hgy))
            have hsnoc : pre ++ xs.take (j + 1) = (pre ++ xs.take j) ++ [y] := by rw [List.take_add_one, hgy]; simp
            have hcb : (cat d (pre ++ xs.take j)).length ≤ 1600 := by
              have h1 : pre ++ xs = (pre ++ xs.take j) ++ xs.drop j := by rw [List.append_assoc, List.take_append_drop]
              have h2 := LEN.out.2
              rw [h1, cat_app] at h2
              omega
            have hwl := wb_le D.out y
            have WY := Lib.hid (WO.out wr (ST0.out.1.trans hxj (fun i hi e => by have := ST0.out.2.2; omega)) y)
            have hws : ((wordOf d.ws y).1).size = (wb d y).length := (ba_size _).symm
            obtain ⟨wy, hwy⟩ : ∃ s, (wordOf d.ws y).1 = s := ⟨_, rfl⟩
            rw [hwy] at WY hws
            have CS := Lib.hid (cat_snoc d (pre ++ xs.take j) y)
            obtain ⟨cb, hcb2⟩ : ∃ cb, (cat d (pre ++ xs.take j)).length = cb := ⟨_, rfl⟩
            rw [hcb2] at hcb CS
            rw [hcb2]
            have hwy2 : wy.size ≤ 256 := by omega
            have HS := Lib.hid hsnoc
            have WS := Lib.hid hws
            have HG := Lib.hid hgy
            have HOY := Lib.hid hoy
            clear hsnoc hwl hws hwy hcb2 hmj hxj haj hgy hoy
            subst hp3
            go_wp2_with fail
            refine WY.out.mono ?_
            rintro e W4 ⟨rfl, hx4⟩
            have X4 := Lib.hid (XJ.out.trans hx4 (fun _ _ h => h.elim))
            have A4 := Lib.hid (arr_ext AJ.out hx4 (fun _ _ h => h))
            have hm4 := MJ.out.ext hx4 (fun h => h)
            obtain ⟨b5, o5, hp5, hb5, c5⟩ := (ints_rd A4.out).cellI HG.out
            have hCN := rowsOf_counts (pre ++ xs.take j)
            obtain ⟨v, w5, hlook, hput, hx5, hm5, hv⟩ := bump_step hm4 hCN.nodup (fun r hr => okId_inI D.out (SUB.out _ (by
              have := (hCN.mem r.id).1 (List.mem_map.2 ⟨r, hr, rfl⟩)
              rcases List.mem_append.1 this with h | h
              · exact List.mem_append_left _ h
              · exact List.mem_append_right _ (List.mem_of_mem_take h)))) (okId_inI D.out HOY.out)
            have hv0 : 0 ≤ v ∧ v ≤ 1048576 := by
              rcases hv with rfl | ⟨r, hr, rfl⟩
              · omega
              · have h1 := rows_pos hCN r hr
                rw [List.length_append] at h1
                have h2 : (xs.take j).length ≤ xs.length := by rw [List.length_take]; omega
                have := NP.out
                omega
            have M5 := Lib.hid (show MapS w5 mb (entsR (rowsOf (pre ++ xs.take (j + 1)))) from by
              rw [HS.out, rowsOf_snoc]
              exact hm5)
            have X5 := Lib.hid (X4.out.trans hx5 (fun _ _ h => h))
            have A5 := Lib.hid (arr_ext A4.out hx5 (fun b hb => F3.out b hb))
            obtain ⟨v1, hv1⟩ := hv0
            injection hp5 with hp5
            injection hp5 with hp5 hp6
            subst hp5 hp6
            clear hm4 hCN hx4 hx5 hm5 hv c3' hb3
            go_wp2_with fail
            go_roundw
            case rel => exact ⟨j + 1, by rw [HS.out, CS.out, ← WS.out]; go_num, by go_num, hlt3, M5.out, X5.out, A5.out⟩
            case measure => simp [intOf]; omega
          · obtain rfl : j = xs.length := by omega
            have i4 : ¬ ((xs.length : Int) < (xs.length : Int)) := by omega
            have MK := Lib.hid (show MapS wr mb (entsR (rowsOf (idsAll d r (L.take (k + 1))))) from by rw [SN.out, ← List.take_length (l := xs)]; exact MJ.out)
            clear hmj hxj haj
            rw [List.take_length]
            go_wp2_with fail
            go_roundw
            case rel => exact ⟨k + 1, by rw [SN.out, List.length_append, NP.out]; go_num, by rw [SN.out], by go_num, hlt2, MK.out, XJ.out⟩
            case measure => simp [intOf]; omega
      · obtain rfl : k = L.length := by omega
        rw [List.take_length] at MP ⊢
        have i3 : ¬ ((L.length : Int) < (L.length : Int)) := by omega
        have hsz : ∀ x ∈ L, x.size ≤ 140737488351232 := fun x hx => by have := size_le_sum hx; omega
        have CA := Lib.hid (count_any (M1.out.on E1.out) D.out (T1.out.on E1.out) r hr0 (by omega) p c L (RL.out.on E1.out) (by omega) (by omega))
        have hil := IL.out
        have hct := CT.out
        have SV := Lib.hid (saved_count (d := d) (ids := idsAll d r L) IO.out (by omega))
        rw [less_sum] at SV
        have IOL := IO.out
        obtain ⟨Z, hZ⟩ : ∃ Z, idsAll d r L = Z := ⟨_, rfl⟩
        rw [hZ] at hil hct SV MP CA IOL
        rw [hZ]
        have SZ := Lib.hid (sumN_count Z)
        have hperm := ordR_perm (rowsOf Z)
        have HN := Lib.hid (rowsOf_counts Z)
        have OKR := Lib.hid (show ∀ q ∈ rowsOf Z, okId d q.id = true from fun q hq => IOL _ ((HN.out.mem q.id).1 (List.mem_map.2 ⟨q, hq, rfl⟩)))
        have hrl : (countR Z).length = (rowsOf Z).length := ordR_length _
        have hrl2 := rows_len HN.out
        have RB := Lib.hid (show ∀ x ∈ countR Z, 1 ≤ x.n ∧ x.n ≤ 1600 ∧ okId d x.id = true from fun x hx => by
          have h1 := hperm.mem_iff.1 hx
          have h2 := rows_pos HN.out x h1
          exact ⟨h2.1, by omega, OKR.out x h1⟩)
        have UL := Lib.hid (unused_len (256 + d.ms.length) (countR Z) (count_nodup Z) (fun q hq => by
          have h1 := RB.out q hq
          have h2 := h1.2.2
          unfold okId at h2
          simp at h2
          exact ⟨by omega, h2.1, by omega⟩))
        have ON := Lib.hid (fun k x y => ord_next (ids := Z) (k := k) (x := x) (y := y))
        have VR := Lib.hid (fun x => count_valR (ids := Z) (x := x))
        obtain ⟨R, hR⟩ : ∃ R, countR Z = R := ⟨_, rfl⟩
        rw [hR] at SV SZ RB UL CA hrl
        simp only [hR] at ON VR
        have ML := Lib.hid (show (entsR (rowsOf Z)).length = R.length from by unfold entsR; rw [List.length_map, hrl])
        have hRl : R.length ≤ 1600 := by omega
        obtain ⟨nz, hnz⟩ : ∃ nz, Z.length = nz := ⟨_, rfl⟩
        obtain ⟨nb, hnb⟩ : ∃ nb, (cat d Z).length = nb := ⟨_, rfl⟩
        rw [hnz] at hil SV SZ
        rw [hnb] at hct SV
        rw [hnz, hnb]
        have hnz2 : nz ≤ 1600 := by omega
        have hnb2 : nb ≤ 1600 := by omega
        clear hperm hrl hrl2 hR hZ hsz hil hct IOL hnz hnb IL CT IO EN TL WO
        go_wp2_with fail
        refine CA.out.mono ?_
        rintro e w3 ⟨pa, ca, rfl, hAa, hx3, hfa⟩
        have XA := Lib.hid (E1.out.trans hx3 (fun _ _ h => h))
        have RA := Lib.hid (Rd.of_arr hAa)
        have MA := Lib.hid (MP.out.ext hx3 (fun h => h))
        have hlen : ∀ ty, (Builtin.len_ #[76] ty #[.map (some mb)]).run Tryz.prog w3 = .ok (.int .i64 (R.length : Int)) w3 := fun ty => by
          rw [run_len_at (P := Tryz.prog) Tryz.underlying76 MA.out.at ty, ML.out]
          rfl
        have q1 : ((R.length : Int) != (R.length : Int)) = false := by simp
        clear hAa hx3 hfa CA
        go_wp2_with fail
        clear hlen
        go_loopw [22, 23] (fun vs v wr => ∃ (s : Int) (i : Nat), vs = .int .i64 s ∧ v = .int .i64 i ∧ i ≤ R.length ∧ 0 ≤ s ∧ s ≤ 1600 * (i : Int) ∧ s = sumN (R.take i) ∧ Ext (fun _ => False) w3 wr) (fun _ v _ => R.length - (intOf v).toNat)
        case atStart => exact ⟨0, 0, rfl, rfl, Nat.zero_le _, Int.le_refl _, by omega, rfl, Ext.refl _ _⟩
        case round =>
          obtain ⟨s, i, rfl, rfl, hi, hs0, hs1, hse, hx⟩ := hrel
          have SE := Lib.hid hse
          have EX3 := Lib.hid hx
          clear hse
          by_cases hlt : i < R.length
          · have i1 : (i : Int) < (R.length : Int) := by omega
            obtain ⟨x, hget⟩ : ∃ x, R[i]? = some x := ⟨_, List.getElem?_eq_getElem hlt⟩
            obtain ⟨b1, o1, rfl, hb1, a0, a1⟩ := (RA.out.on hx).cellR hget
            have hxn := RB.out x (List.mem_of_getElem? hget)
            have hlook0 := fun n => look_val (w := wr.drewN n) (MA.out.ext (hx.drewN n) (fun h => h)) HN.out.nodup (fun q hq => okId_inI D.out (OKR.out q hq)) (okId_inI D.out hxn.2.2)
            have ST := Lib.hid (sumN_take hget)
            rw [VR.out x (List.mem_of_getElem? hget)] at hlook0
            have HG := Lib.hid hget
            have OK2 := Lib.hid hxn.2.2
            obtain ⟨xi, xn⟩ := x
            simp only at a0 a1 hlook0 hxn ST
            have hx1 := hxn.1
            have hx2 := hxn.2.1
            have q2 : (xn != xn) = false := by simp
            clear hget hx hxn
            by_cases hi0 : i = 0
            · subst hi0
              have d0 : decide (0 < 0) = false := by decide
              simp only [Nat.zero_mul, Nat.add_zero] at a0 a1
              go_wp2_with fail
              go_quiet (fail)
              go_wp2_with fail
              go_roundw
              case rel => exact ⟨s + xn, 0 + 1, rfl, by go_num, hlt, by omega, by omega, by rw [ST.out, SE.out], EX3.out.drewN _⟩
              case measure => simp [intOf]; omega
            · obtain ⟨i', rfl⟩ : ∃ i', i = i' + 1 := ⟨i - 1, by omega⟩
              obtain ⟨y, hgy⟩ : ∃ y, R[i']? = some y := ⟨_, List.getElem?_eq_getElem (by omega)⟩
              have hon := ON.out i' y ⟨xi, xn⟩ hgy HG.out
              obtain ⟨b2, o2, hp2, hb2, e0, e1⟩ := (RA.out.on EX3.out).cellR hgy
              injection hp2 with hp2
              injection hp2 with hp2 hp3
              subst hp2 hp3
              obtain ⟨yi, yn⟩ := y
              simp only at e0 e1 hon
              obtain ⟨h1, h2⟩ := hon
              clear hgy
              have d0 : decide (0 < i' + 1) = true := by simp
              have d1 : decide (xn > yn) = false := decide_eq_false (by omega)
              have j1 : ((i' + 1 : Nat) : Int) - 1 = (i' : Int) := by omega
              by_cases heq : xn = yn
              · have d2 : (xn == yn) = true := by simp [heq]
                have d3 : decide (xi ≤ yi) = false := decide_eq_false (by have := h2 heq; omega)
                have HE := Lib.hid heq
                clear heq h2
                go_wp2_with fail
                go_quiet (fail)
                go_wp2_with fail
                go_roundw
                case rel => exact ⟨s + xn, i' + 1 + 1, rfl, by go_num, hlt, by omega, by omega, by rw [ST.out, SE.out], EX3.out.drewN _⟩
                case measure => simp [intOf]; omega
              · have d2 : (xn == yn) = false := by simp [heq]
                clear heq h2
                go_wp2_with fail
                go_quiet (fail)
                go_wp2_with fail
                go_roundw
                case rel => exact ⟨s + xn, i' + 1 + 1, rfl, by go_num, hlt, by omega, by omega, by rw [ST.out, SE.out], EX3.out.drewN _⟩
                case measure => simp [intOf]; omega
          · obtain rfl : i = R.length := by omega
            have i1 : ¬ ((R.length : Int) < (R.length : Int)) := by omega
            rw [List.take_length, SZ.out] at SE
            rw [SE.out]
            clear hs0 hs1 hlt
            have XR := Lib.hid (XA.out.trans hx (fun _ _ h => h))
            have SC := Lib.hid (saved_any (M1.out.on XR.out).model D.out pa ca R (RA.out.on hx) (by omega))
            rw [SV.out] at SC
            clear hx
            have UN := Lib.hid (fun (W : World) (hx : Ext (fun _ => False) w3 W) => unused_any (M1.out.on (XA.out.trans hx (fun _ _ h => h))).model D.out pa ca R (RA.out.on hx) (by omega) (fun q hq => by
              have h := RB.out q hq
              refine ⟨okId_inI D.out h.2.2, ?_⟩
              unfold inI
              omega))
            obtain ⟨ps, cs, hsz⟩ : ∃ p c, ∀ W, Ext (fun _ => False) w3 W → W.cell? ⟨a, 0, none⟩ = some (.slice p d.ws.length c) := by
              obtain ⟨L, tp, mp, q0, q1, q2, d0, d1, d2, hM⟩ := (M1.out.on XA.out).model
              exact ⟨L.p0, L.c0, fun W hx => (hM.on hx).blk.c0⟩
            have hlen2 := D.out.len
            have hfew := D.out.few
            have SZ2 := Lib.hid (fun W hx => show Calls Tryz.prog 39 #[.pointer (some ⟨a, 0, none⟩)] W fun e w' => e = .returned (.int .i64 (256 + (d.ms.length : Int))) ∧ W = w' from by
              have := size_any W a ps d.ws.length cs (hsz W hx) (by omega)
              rwa [hlen2] at this)
            have hul := UL.out
            obtain ⟨U, hU⟩ : ∃ U, unusedT R (256 + d.ms.length) = U := ⟨_, rfl⟩
            rw [hU] at UN hul
            obtain ⟨nu, hnu⟩ : ∃ nu, U.length = nu := ⟨_, rfl⟩
            have HNU := Lib.hid hnu
            rw [hnu] at hul
            have hnuz : nu ≤ 1048576 := by omega
            obtain ⟨N, hN⟩ : ∃ N, 256 + d.ms.length = N := ⟨_, rfl⟩
            have hN2 : (256 : Int) + (d.ms.length : Int) = (N : Int) := by omega
            rw [hN2] at SZ2
            rw [hN] at hul
            have q2 : ((nz : Int) == (nz : Int)) = true := by simp
            have q3 : (((nb : Int) - (nz : Int)) == ((nb : Int) - (nz : Int))) = true := by simp
            have q4 : ((nu : Int) == ((N : Int) - (R.length : Int))) = true := by
              have : (nu : Int) = (N : Int) - (R.length : Int) := by omega
              simp [this]
            have hNb : N ≤ 1048576 := by omega
            clear hsz hlen2 hfew hU hnu hN hN2 UL
            go_wp2_with fail
            refine SC.out.mono ?_
            rintro e w4 ⟨rfl, hx4⟩
            have X4 := Lib.hid (EX3.out.trans hx4 (fun _ _ h => h))
            clear hx4 SC
            go_wp2_with fail
            refine (UN.out _ X4.out).mono ?_
            rintro e w5 ⟨p5, c5, rfl, _, hx5, _⟩
            rw [HNU.out]
            have X5 := Lib.hid (X4.out.trans hx5 (fun _ _ h => h))
            clear hx5
            go_wp2_with fail
            refine (SZ2.out _ X5.out).mono ?_
            rintro e w6 ⟨rfl, rfl⟩
            have K := Lib.hid (known_any _ ((T1.out.on XA.out).on X5.out))
            go_wp2_with fail
            refine K.out.mono ?_
            rintro e w9 ⟨rfl, hx9⟩
            have X9 := Lib.hid (X1.out.trans (XA.out.trans (X5.out.trans hx9 (fun _ _ h => h)) (fun _ _ h => h)) (fun _ _ h => h))
            clear hx9
            go_wp2_with fail
            go_ret
            exact ⟨rfl, X9.out⟩
end Go.Proofs.YtigpaaelggnffaaGreatDoor.Ty
