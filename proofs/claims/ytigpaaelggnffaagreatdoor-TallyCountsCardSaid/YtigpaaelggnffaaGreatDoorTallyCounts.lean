/- law23.TallyCounts. -/
import Derived.Test.YtigpaaelggnffaaGreatDoorTallyC23
import Derived.Test.YtigpaaelggnffaaGreatDoorRoomS
import Derived.Test.YtigpaaelggnffaaGreatDoorTallySo
import Derived.Test.YtigpaaelggnffaaGreatDoorTallyFew
namespace Go.Proofs.YtigpaaelggnffaaGreatDoor.Ty
open Go.Sort Go.RowKit Go.Proofs.YtigpaaelggnffaaGreatDoor.Lib Go.Proofs.YtigpaaelggnffaaGreatDoor.Sl Go.Proofs.YtigpaaelggnffaaGreatDoor.Bpe Go.Proofs.YtigpaaelggnffaaGreatDoor.Cut Go.Proofs.YtigpaaelggnffaaGreatDoor.R2
set_option linter.unusedVariables false
set_option linter.unusedSimpArgs false

theorem firstGo_any (f : Spn → Bool) : ∀ (l : List Spn) (i : Nat), (firstGo f i l).2 = l.any f
  | [], _ => rfl
  | x :: l, i => by
    unfold firstGo
    cases h : f x with
    | true => simp [h]
    | false => simp [h, firstGo_any f l (i + 1)]
/-- Where two lists do not meet, no rune is in both. -/
theorem meet_not {a b : List Spn} (h : (meet a b).2 = false) {r : Int} (ha : inn a r = true) : inn b r = false := by
  cases hb : inn b r with
  | false => rfl
  | true =>
    exfalso
    unfold inn at ha hb
    simp only [Bool.and_eq_true, List.any_eq_true, decide_eq_true_eq] at ha hb
    obtain ⟨_, x, hx, hx1, hx2⟩ := ha
    obtain ⟨_, y, hy, hy1, hy2⟩ := hb
    have ht : (meet a b).2 = true := by
      unfold meet
      rw [firstGo_any]
      refine List.any_eq_true.2 ⟨x, hx, List.any_eq_true.2 ⟨y, hy, touch_iff.2 ?_⟩⟩
      omega
    rw [h] at ht
    cases ht
theorem check4_space {ls ns ss : List Spn} (h : (check4 ls ns ss).1 = 0) : kindOf ls ns ss 32 = 3 ∧ ls.length ≤ 512 ∧ ns.length ≤ 512 ∧ ss.length ≤ 512 := by
  unfold check4 at h
  by_cases c1 : 512 < ls.length
  · rw [if_pos c1] at h; cases h
  rw [if_neg c1] at h
  by_cases c2 : 512 < ns.length
  · rw [if_pos c2] at h; cases h
  rw [if_neg c2] at h
  by_cases c3 : 512 < ss.length
  · rw [if_pos c3] at h; cases h
  rw [if_neg c3] at h
  by_cases c4 : (right ls).2 ≠ 0
  · rw [if_pos c4] at h; exact absurd h c4
  rw [if_neg c4] at h
  by_cases c5 : (right ns).2 ≠ 0
  · rw [if_pos c5] at h; exact absurd h c5
  rw [if_neg c5] at h
  by_cases c6 : (right ss).2 ≠ 0
  · rw [if_pos c6] at h; exact absurd h c6
  rw [if_neg c6] at h
  by_cases c7 : (meet ns ls).2 = true
  · rw [if_pos c7] at h; cases h
  rw [if_neg c7] at h
  by_cases c8 : (meet ss ls).2 = true
  · rw [if_pos c8] at h
    split at h <;> cases h
  rw [if_neg c8] at h
  by_cases c9 : (meet ss ns).2 = true
  · rw [if_pos c9] at h; cases h
  rw [if_neg c9] at h
  by_cases c10 : inn ss 32 = false ∨ inn ls 39 = true ∨ inn ns 39 = true ∨ inn ss 39 = true
  · rw [if_pos c10] at h; cases h
  have hs : inn ss 32 = true := by
    cases hs : inn ss 32 with
    | true => rfl
    | false => exact absurd (.inl hs) c10
  refine ⟨?_, by omega, by omega, by omega⟩
  unfold kindOf
  rw [meet_not (by simpa using c8) hs, meet_not (by simpa using c9) hs, hs]
  rfl
theorem good_check4 {d : Dat} (hg : good d = true) : (check4 d.ls d.ns d.ss).1 = 0 := by
  have h5 : (check5 d).1 = 0 := by
    unfold good at hg
    simp only [Bool.and_eq_true, decide_eq_true_eq] at hg
    exact hg.2
  unfold check5 at h5
  by_cases c1 : 4096 < d.ms.length
  · rw [if_pos c1] at h5; cases h5
  rw [if_neg c1] at h5
  by_cases c2 : d.ws.length ≠ d.ms.length
  · rw [if_pos c2] at h5; cases h5
  rw [if_neg c2] at h5
  by_cases c3 : (check4 d.ls d.ns d.ss).1 ≠ 0
  · rw [if_pos c3] at h5; exact h5
  · exact Decidable.not_not.1 c3
set_option maxRecDepth 100000 in
set_option maxHeartbeats 16000000 in
theorem counts_any (w : World) (hT : Tabs w) (L0 : Pl) (d : Dat) (h : DR w L0 d) (mo : Int) (hmo : (Lit.int .i64 mo).wf = true) (pt : Option Addr) (ct : Nat) (l : List ByteArray) (hl : Rd eS w pt l) (hlc : l.length ≤ ct) (hlb : l.length * 16 ≤ 140737488351232) (hls : ∀ z ∈ l, z.size ≤ 140737488351232) :
    Calls Tryz.prog 3 #[.agg #[.slice L0.p0 d.ws.length L0.c0, .slice L0.p1 d.ms.length L0.c1, .slice L0.p2 d.ls.length L0.c2, .slice L0.p3 d.ns.length L0.c3, .slice L0.p4 d.ss.length L0.c4], .int .i64 mo, .slice pt l.length ct] w fun e w' => e = .returned (.bool true) ∧ Ext (fun _ => False) w w' := by
  have hb := heap_alloc_new w (.cells #[.slice L0.p0 d.ws.length L0.c0, .slice L0.p1 d.ms.length L0.c1, .slice L0.p2 d.ls.length L0.c2, .slice L0.p3 d.ns.length L0.c3, .slice L0.p4 d.ss.length L0.c4] 26)
  have HB := Lib.hid hb
  have X0 := Lib.hid ((Ext.refl (fun _ => False) w).alloc (.cells (dataCells L0 d) 26))
  have C := Lib.hid (of5_any _ L0 d (h.on X0.out))
  have HD := Lib.hid (h.on X0.out)
  have HT := Lib.hid (hT.on X0.out)
  have HL := Lib.hid (hl.on X0.out)
  have HMO := Lib.hid (Wi.inI_wf hmo)
  clear hb h hT hmo hl hls
  go_enter Tryz.func3, Tryz.ntmps3
  go_wp2_with fail
  refine C.out.mono ?_
  rintro e W ⟨hx, h⟩
  have BW := Lib.hid (hx.obj HB.out (fun h => h))
  have X := Lib.hid (X0.out.trans hx (fun _ _ h => h))
  have T := Lib.hid (HT.out.on hx)
  have LT := Lib.hid (HL.out.on hx)
  have DD := Lib.hid (HD.out.on hx)
  clear hx C
  rcases h with ⟨hg, rfl⟩ | ⟨hg, a, rfl, hm, hwa⟩
  · have K := Lib.hid (known_any W T.out)
    clear hg
    go_wp2_with fail
    refine K.out.mono ?_
    rintro e W2 ⟨rfl, hx2⟩
    have X2 := Lib.hid (X.out.trans hx2 (fun _ _ h => h))
    clear hx2
    go_wp2_with fail
    go_ret
    exact ⟨rfl, X2.out⟩
  · have D := Lib.hid (RightD.of_good hg)
    have M := Lib.hid (IsCut.of_good hm hg)
    have SP := Lib.hid (check4_space (good_check4 hg))
    have FM := Lib.hid (good_few hg)
    clear hg hm hwa
    go_wp2_with fail
    refine (few_any W pt ct l LT.out (by omega) 60 (by decide)).mono ?_
    rintro e W1 ⟨p, c, rfl, hA1, hx1, hf1, hz1⟩
    have hL8 := fewL_length l 60
    have hLS := fewL_sum l 60
    obtain ⟨L, hL⟩ : ∃ L, fewL l 60 = L := ⟨_, rfl⟩
    rw [hL] at hA1 hL8 hLS hz1
    rw [hL]
    have RL := Lib.hid (Rd.of_arr hA1)
    have X1 := Lib.hid hx1
    have RY := Lib.hid (roomyS_any W1 p c L ⟨#[98, 101, 104, 105, 110, 100]⟩ (Rd.of_arr hA1) (by omega))
    clear hA1 hx1 hf1 hL hz1
    go_wp2_with fail
    refine RY.out.mono ?_
    rintro e W2 ⟨ra, rfl, hA2, hx2, hra⟩
    have X2 := Lib.hid (X1.out.trans hx2 (fun _ _ h => h))
    have FU := Lib.hid (Rd.of_arr (E := eS) hA2)
    have FL := Lib.hid (show Rd eS W2 (some ⟨ra, 0, none⟩) L from by
      have := (Rd.of_arr (E := eS) hA2).take L.length
      rwa [List.take_left' rfl] at this)
    have i0 : (L.length : Int) ≤ (L.length : Int) + 80 := by omega
    have hsz : ∀ x ∈ L, x.size ≤ 140737488351232 := fun x hx => by have := size_le_sum hx; omega
    have HSZ := Lib.hid hsz
    have IC := Lib.hid (fun (wr : World) (hx : Ext (fun _ => False) W2 wr) => show Calls Tryz.prog 15 #[.slice (some ⟨ra, 0, none⟩) (L.length + 80) (L.length + 80), .slice p L.length c, .string ⟨#[98, 101, 104, 105, 110, 100]⟩] wr fun e w' => e = .returned (.bool true) ∧ Ext (fun _ => False) wr w' from
      intactS_any wr (some ⟨ra, 0, none⟩) p (L.length + 80) c L _ (FU.out.on hx) (RL.out.on (hx2.trans hx (fun _ _ h => h))) (by omega) (Nat.le_refl _))
    have W12 := Lib.hid hx2
    clear hx2 hA2 hra RY hsz
    by_cases hbad : mo < 1 ∨ 65536 < mo
    · have CB := Lib.hid (count_bad W2 (some ⟨a, 0, none⟩) mo (.inr hbad) (some ⟨ra, 0, none⟩) (L.length + 80) L FL.out (by omega) HSZ.out)
      go_wp2_with fail
      refine CB.out.mono ?_
      rintro e W3 ⟨rfl, hx3⟩
      have X3 := Lib.hid hx3
      clear hx3 CB
      go_wp2_with fail
      refine (IC.out _ X3.out).mono ?_
      rintro e W4 ⟨rfl, hx4⟩
      have X4 := Lib.hid (X2.out.trans (X3.out.trans hx4 (fun _ _ h => h)) (fun _ _ h => h))
      have K := Lib.hid (known_any W4 (T.out.on X4.out))
      clear hx4
      go_upto_region 9 with (fail)
      go_cut [48] (fun v wc => W4 = wc ∧ v = .bool true)
      case first =>
        by_cases h1 : mo < 1
        · have d1 : decide (mo < 1) = true := decide_eq_true h1
          go_wp2_with fail
          go_meet
          exact ⟨rfl, rfl⟩
        · have d1 : decide (mo < 1) = false := decide_eq_false h1
          have d2 : decide (mo > 65536) = true := decide_eq_true (by omega)
          go_wp2_with fail
          go_meet
          exact ⟨rfl, rfl⟩
      case rest =>
        obtain ⟨rfl, rfl⟩ := hcut
        go_wp2_with fail
        refine K.out.mono ?_
        rintro e W9 ⟨rfl, hx9⟩
        have X9 := Lib.hid (X.out.trans (X4.out.trans hx9 (fun _ _ h => h)) (fun _ _ h => h))
        clear hx9
        go_wp2_with fail
        go_ret
        exact ⟨rfl, X9.out⟩
    · have h1 : 1 ≤ mo := by omega
      have h2 : mo ≤ 65536 := by omega
      have CA := Lib.hid (count_any (M.out.on X2.out) D.out (T.out.on X2.out) mo h1 h2 (some ⟨ra, 0, none⟩) (L.length + 80) L FL.out (by omega) (by omega))
      have d1 : decide (mo < 1) = false := decide_eq_false (by omega)
      have d2 : decide (mo > 65536) = false := decide_eq_false (by omega)
      have hRl : (countR (idsAll d mo L)).length ≤ 1048576 := by
        have h1 := rows_len (rowsOf_counts (idsAll d mo L))
        have h2 := idsAll_len D.out mo L (by omega)
        have h3 := ordR_length (rowsOf (idsAll d mo L))
        unfold countR
        omega
      have CR := Lib.hid (fun (wr : World) (hx : Ext (fun _ => False) W2 wr) => count23_any wr L0 d (DD.out.on (X2.out.trans hx (fun _ _ h => h))) ⟨by have := SP.out.2.1; omega, by have := SP.out.2.2.1; omega, by have := SP.out.2.2.2; omega⟩ (by have := FM.out; omega) SP.out.1 D.out mo p c L (RL.out.on (W12.out.trans hx (fun _ _ h => h))) (by omega) (by omega))
      obtain ⟨R, hR⟩ : ∃ R, countR (idsAll d mo L) = R := ⟨_, rfl⟩
      rw [hR] at CA hRl
      simp only [hR] at CR
      clear hR hbad
      go_wp2_with fail
      refine CA.out.mono ?_
      rintro e W3 ⟨pa, ca, rfl, hAa, hx3, _⟩
      have X3 := Lib.hid hx3
      have RA := Lib.hid (Rd.of_arr hAa)
      clear hx3 hAa CA
      go_wp2_with fail
      refine (IC.out _ X3.out).mono ?_
      rintro e W4 ⟨rfl, hx4⟩
      have X4 := Lib.hid (X3.out.trans hx4 (fun _ _ h => h))
      have RA4 := Lib.hid (RA.out.on hx4)
      have bb := (X2.out.trans X4.out (fun _ _ h => h)).obj BW.out (fun h => h)
      have e0 := blk_cell bb 0
      have e1 := blk_cell bb 1
      have e2 := blk_cell bb 2
      have e3 := blk_cell bb 3
      have e4 := blk_cell bb 4
      simp at e0 e1 e2 e3 e4
      clear hx4 bb
      go_wp2_with fail
      refine (CR.out _ X4.out).mono ?_
      rintro e W5 ⟨pb, cb, rfl, hRb, hx5⟩
      have X5 := Lib.hid (X4.out.trans hx5 (fun _ _ h => h))
      have SM := Lib.hid (same23_any W5 pa pb ca cb R (RA4.out.on hx5) hRb (by omega))
      clear hx5 hRb e0 e1 e2 e3 e4
      go_wp2_with fail
      refine SM.out.mono ?_
      rintro e W6 ⟨rfl, hx6⟩
      have X6 := Lib.hid (X2.out.trans (X5.out.trans hx6 (fun _ _ h => h)) (fun _ _ h => h))
      have K := Lib.hid (known_any W6 (T.out.on X6.out))
      clear hx6 SM
      go_wp2_with fail
      refine K.out.mono ?_
      rintro e W9 ⟨rfl, hx9⟩
      have X9 := Lib.hid (X.out.trans (X6.out.trans hx9 (fun _ _ h => h)) (fun _ _ h => h))
      clear hx9
      go_wp2_with fail
      go_ret
      exact ⟨rfl, X9.out⟩
end Go.Proofs.YtigpaaelggnffaaGreatDoor.Ty
