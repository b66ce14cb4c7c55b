/- law23.TallyNumbers. -/
import Derived.Test.YtigpaaelggnffaaGreatDoorTallyNum
namespace Go.Proofs.YtigpaaelggnffaaGreatDoor.Ty
open Go.RowKit Go.Proofs.YtigpaaelggnffaaGreatDoor.Lib Go.Proofs.YtigpaaelggnffaaGreatDoor.Sl Go.Proofs.YtigpaaelggnffaaGreatDoor.Bpe Go.Proofs.YtigpaaelggnffaaGreatDoor.Cut
set_option linter.unusedVariables false
set_option linter.unusedSimpArgs false

theorem made2 (n : Nat) : (madeCells (Value.agg #[.int .i64 0, .int .i64 0]).cells (n * 2)).toList = List.replicate (n * 2) (Value.int .i64 0) := by
  have hc : (Value.agg #[.int .i64 0, .int .i64 0]).cells = #[.int .i64 0, .int .i64 0] := by simp [Value.cells]
  rw [hc]
  apply List.ext_getElem?
  intro i
  rw [List.getElem?_replicate]
  by_cases hi : i < n * 2
  · rw [if_pos hi]
    have h2 : i % 2 = 0 ∨ i % 2 = 1 := by omega
    rcases h2 with h | h <;> simp [madeCells, hi, h]
  · rw [if_neg hi]
    simp [madeCells]
    omega
theorem zeros_rd {w : World} {b n : Nat} (h : Arr w 45 2 (some ⟨b, 0, none⟩) n n (madeCells (Value.agg #[.int .i64 0, .int .i64 0]).cells (n * 2)).toList) : Rd eTR w (some ⟨b, 0, none⟩) (List.replicate n ⟨0, 0⟩) := by
  rw [made2, ← made_rows] at h
  exact Rd.of_arr h
def rowsH : List TRow := [⟨256, 2⟩, ⟨32, 1⟩, ⟨97, 1⟩]
structure NSt (w W : World) (m : Nat) (p : Option Addr) : Prop where
  cut : IsCut W m houseDat
  tabs : Tabs W
  ext : Ext (fun _ => False) w W
  rows : Rd eTR W p rowsH
theorem NSt.on {w W W' : World} {m : Nat} {p : Option Addr} (h : NSt w W m p) (hx : Ext (fun _ => False) W W') : NSt w W' m p := ⟨h.cut.on hx, h.tabs.on hx, h.ext.trans hx (fun _ _ h => h), h.rows.on hx⟩
theorem sv_at {W : World} {m : Nat} {d : Dat} (hm : IsCut W m d) (hd : RightD d) {p : Option Addr} {c k : Nat} {l : List TRow} (hl : Rd eTR W p l) (hk : l.length = k) (hn : k ≤ 281474976710656) {a b : Int} (he : savedT d l = (a, b)) :
    Calls Tryz.prog 33 #[.pointer (some ⟨m, 0, none⟩), .slice p k c] W fun e w' => e = .returned (.tuple #[.int .i64 a, .int .i64 b]) ∧ Ext (fun _ => False) W w' := by
  subst hk
  have := saved_any hm.model hd p c l hl hn
  rwa [he] at this
theorem rows_in : ∀ r ∈ rowsH, inI r.id ∧ inI r.n := fun r hr => by
  unfold rowsH at hr
  simp only [List.mem_cons, List.not_mem_nil, or_false] at hr
  unfold inI
  rcases hr with rfl | rfl | rfl <;> simp only <;> omega
theorem ordR_H : ordR rowsH = rowsH := (ordR_is (List.Perm.refl _) (by decide)).symm
set_option maxRecDepth 100000 in
set_option maxHeartbeats 16000000 in
theorem numbers_any (w : World) (hT : Tabs w) : Calls Tryz.prog 9 #[] w fun e w' => e = .returned (.bool true) ∧ Ext (fun _ => False) w w' := by
  have HT := Lib.hid hT
  clear hT
  go_enter Tryz.func9, Tryz.ntmps9
  go_wp2_with fail
  refine (house_any w).mono ?_
  rintro e W ⟨L, rfl, hR, hx⟩
  have C := Lib.hid (of5_any _ L houseDat hR)
  have X := Lib.hid hx
  clear hR hx
  go_wp2_with fail
  refine C.out.mono ?_
  rintro e W1 ⟨hx, h⟩
  have X1 := Lib.hid (X.out.trans hx (fun _ _ h => h))
  clear hx C
  rcases h with ⟨hg, rfl⟩ | ⟨hg, a, rfl, hm, hwa⟩
  · exact absurd hg (by rw [house_good]; decide)
  · have D := Lib.hid (RightD.of_good hg)
    have M := Lib.hid (IsCut.of_good hm hg)
    have XL := Lib.hid (show Ext (fun _ => False) W1 (W1.alloc (.cells #[.string ⟨#[97, 98, 32, 97, 98]⟩, .string ⟨#[97]⟩] 9)) from (Ext.refl _ _).alloc _)
    have RL := Lib.hid (show Rd eS (W1.alloc (.cells #[.string ⟨#[97, 98, 32, 97, 98]⟩, .string ⟨#[97]⟩] 9)) (some ⟨W1.heap.size, 0, none⟩) [⟨#[97, 98, 32, 97, 98]⟩, ⟨#[97]⟩] from Rd.lit (E := eS) (t := 9) (fr := (0, 0)) (heap_alloc_new W1 _))
    have CN := count_any (M.out.on XL.out) D.out (HT.out.on (X1.out.trans XL.out (fun _ _ h => h))) 9 (by omega) (by omega) (some ⟨W1.heap.size, 0, none⟩) 2 [⟨#[97, 98, 32, 97, 98]⟩, ⟨#[97]⟩] RL.out (by decide) (by decide)
    rw [house_rows] at CN
    have CN := Lib.hid CN
    clear hg hm hwa
    go_wp2_with fail
    refine CN.out.mono ?_
    rintro e W2 ⟨p, c, rfl, hA, hx2, _⟩
    have S := Lib.hid (show NSt w W2 a p from ⟨(M.out.on XL.out).on hx2, (HT.out.on (X1.out.trans XL.out (fun _ _ h => h))).on hx2, X1.out.trans (XL.out.trans hx2 (fun _ _ h => h)) (fun _ _ h => h), Rd.of_arr hA⟩)
    clear hA hx2 CN M RL XL X1 X HT
    go_wp2_with fail
    refine (sv_at S.out.cut D.out S.out.rows rfl (by decide) saved_h).mono ?_
    rintro e W3 ⟨rfl, hx⟩
    have S := Lib.hid (S.out.on hx)
    clear hx
    have CB := Lib.hid (count_bad (W3.alloc (.cells #[.string ⟨#[97]⟩] 9)) none 9 (.inl rfl) (some ⟨W3.heap.size, 0, none⟩) 1 [⟨#[97]⟩] (Rd.lit (E := eS) (t := 9) (fr := (0, 0)) (heap_alloc_new W3 _)) (by decide) (by decide))
    go_wp2_with fail
    refine CB.out.mono ?_
    rintro e W4 ⟨rfl, hx⟩
    have S := Lib.hid (S.out.on (((Ext.refl _ _).alloc _).trans hx (fun _ _ h => h)))
    clear hx CB
    have CB := Lib.hid (count_bad (W4.alloc (.cells #[.string ⟨#[97]⟩] 9)) (some ⟨a, 0, none⟩) 0 (.inr (.inl (by omega))) (some ⟨W4.heap.size, 0, none⟩) 1 [⟨#[97]⟩] (Rd.lit (E := eS) (t := 9) (fr := (0, 0)) (heap_alloc_new W4 _)) (by decide) (by decide))
    go_wp2_with fail
    refine CB.out.mono ?_
    rintro e W5 ⟨rfl, hx⟩
    have S := Lib.hid (S.out.on (((Ext.refl _ _).alloc _).trans hx (fun _ _ h => h)))
    clear hx CB
    obtain ⟨N, hN⟩ : ∃ N : Nat, N = 1048576 := ⟨_, rfl⟩
    have NN := Lib.hid hN
    clear hN
    obtain ⟨Z, hZ⟩ : ∃ Z, strOfNums (List.replicate N 0) = Z := ⟨_, rfl⟩
    have ZS := Lib.hid (show Z.size = N from by rw [← hZ, zeros_sizeT])
    have HZ := Lib.hid hZ
    clear hZ
    go_wp2_with (at_make; (refine arr_make rfl _ _ 84 5 1 1 (.int .u8 0) rfl Tryz.underlying84 infoY .i64 .i64 _ _ N rfl rfl (by have := NN.out; omega) (by have := NN.out; omega) (by have := NN.out; omega) (by decide) rfl ?_); intro w1 hA hx1; have S1 := Lib.hid (S.out.on hx1); have kz := zeros_strT hA; rw [HZ.out] at kz; clear hA hx1)
    have CB := Lib.hid (count_long (S1.out.cut.on ((Ext.refl (fun _ => False) w1).alloc (.cells #[.string Z, .string ⟨#[97]⟩] 9))) D.out (S1.out.tabs.on ((Ext.refl (fun _ => False) w1).alloc (.cells #[.string Z, .string ⟨#[97]⟩] 9))) 9 (by omega) (by omega) (some ⟨w1.heap.size, 0, none⟩) 2 [Z, ⟨#[97]⟩] (Rd.lit (E := eS) (t := 9) (fr := (0, 0)) (heap_alloc_new w1 _)) (by show (2 : Nat) ≤ _; omega) (fun x hx => by
      rcases List.mem_cons.1 hx with rfl | hx
      · have := ZS.out; have := NN.out; omega
      · simp only [List.mem_singleton] at hx; subst hx; decide) (by
      have h1 := ZS.out
      have h2 := NN.out
      have h3 : (⟨#[97]⟩ : ByteArray).size = 1 := rfl
      simp only [sumSz, List.map_cons, List.map_nil, List.sum_cons, List.sum_nil]
      omega))
    clear kz HZ ZS
    refine CB.out.mono ?_
    rintro e W6 ⟨rfl, hx⟩
    have S := Lib.hid (S1.out.on (((Ext.refl _ _).alloc _).trans hx (fun _ _ h => h)))
    clear hx CB S1 NN
    go_wp2_with fail
    refine (saved_nil W6 _ _ _).mono ?_
    rintro e w' ⟨rfl, rfl⟩
    have SV := Lib.hid (sv_at (k := 1) (c := 1) (S.out.cut.on ((Ext.refl (fun _ => False) W6).alloc (.cells #[.int .i64 (-1), .int .i64 0] 45))) D.out (Rd.lit (E := eTR) (t := 45) (fr := (0, 0)) (l := [⟨-1, 0⟩]) (heap_alloc_new W6 _)) rfl (by decide) saved_j)
    go_wp2_with fail
    refine SV.out.mono ?_
    rintro e W7 ⟨rfl, hx⟩
    have S := Lib.hid (S.out.on (((Ext.refl _ _).alloc _).trans hx (fun _ _ h => h)))
    clear hx SV
    have SV := Lib.hid (sv_at (k := 1) (c := 1) (S.out.cut.on ((Ext.refl (fun _ => False) W7).alloc (.cells #[.int .i64 1, .int .i64 (-1)] 45))) D.out (Rd.lit (E := eTR) (t := 45) (fr := (0, 0)) (l := [⟨1, -1⟩]) (heap_alloc_new W7 _)) rfl (by decide) saved_k)
    go_wp2_with fail
    refine SV.out.mono ?_
    rintro e W8 ⟨rfl, hx⟩
    have S := Lib.hid (S.out.on (((Ext.refl _ _).alloc _).trans hx (fun _ _ h => h)))
    clear hx SV
    obtain ⟨N1, hN⟩ : ∃ N : Nat, N = 65537 := ⟨_, rfl⟩
    have NN := Lib.hid hN
    clear hN
    go_wp2_with (at_make; (refine arr_make rfl _ _ 33 45 2 16 (.agg #[.int .i64 0, .int .i64 0]) rfl Tryz.underlying33 infoR .i64 .i64 _ _ N1 rfl rfl (by have := NN.out; omega) (by have := NN.out; omega) (by have := NN.out; omega) (by decide) rfl ?_); intro w1 hA hx1; have S1 := Lib.hid (S.out.on hx1); have ZR := Lib.hid (zeros_rd hA); clear hA hx1)
    refine (sv_at S1.out.cut D.out ZR.out (List.length_replicate ..) (by have := NN.out; omega) (saved_o NN.out)).mono ?_
    rintro e W9 ⟨rfl, hx⟩
    have S := Lib.hid (S1.out.on hx)
    clear hx S1 ZR NN
    have SV := Lib.hid (sv_at (W := W9) (k := 0) (c := 0) (p := none) S.out.cut D.out (l := []) (fun i x hi => by cases hi) rfl (by decide) saved_p)
    go_wp2_with fail
    refine SV.out.mono ?_
    rintro e W10 ⟨rfl, hx⟩
    have S := Lib.hid (S.out.on hx)
    clear hx SV
    have SV := Lib.hid (sv_at (k := 1) (c := 1) (S.out.cut.on ((Ext.refl (fun _ => False) W10).alloc (.cells #[.int .i64 (-1), .int .i64 (-1)] 45))) D.out (Rd.lit (E := eTR) (t := 45) (fr := (0, 0)) (l := [⟨-1, -1⟩]) (heap_alloc_new W10 _)) rfl (by decide) saved_r)
    go_wp2_with fail
    refine SV.out.mono ?_
    rintro e W11 ⟨rfl, hx⟩
    have S := Lib.hid (S.out.on (((Ext.refl _ _).alloc _).trans hx (fun _ _ h => h)))
    clear hx SV
    obtain ⟨N2, hN⟩ : ∃ N : Nat, N = 65536 := ⟨_, rfl⟩
    have NN := Lib.hid hN
    clear hN
    go_wp2_with (at_make; (refine arr_make rfl _ _ 33 45 2 16 (.agg #[.int .i64 0, .int .i64 0]) rfl Tryz.underlying33 infoR .i64 .i64 _ _ N2 rfl rfl (by have := NN.out; omega) (by have := NN.out; omega) (by have := NN.out; omega) (by decide) rfl ?_); intro w1 hA hx1; have S1 := Lib.hid (S.out.on hx1); have ZR := Lib.hid (zeros_rd hA); clear hA hx1)
    refine (sv_at S1.out.cut D.out ZR.out (List.length_replicate ..) (by have := NN.out; omega) (saved_s NN.out)).mono ?_
    rintro e W12 ⟨rfl, hx⟩
    have S := Lib.hid (S1.out.on hx)
    clear hx S1 ZR NN
    have TP := top_any W12 p c rowsH S.out.rows (by decide) 0
    rw [ordR_H, show rowsH.take (0 : Int).toNat = [] from rfl] at TP
    have TP := Lib.hid TP
    go_wp2_with fail
    refine TP.out.mono ?_
    rintro e W13 ⟨⟨p2, c2, rfl, _, hx⟩⟩
    have S := Lib.hid (S.out.on hx)
    clear hx TP
    have TP := top_any W13 p c rowsH S.out.rows (by decide) 1
    rw [ordR_H, show rowsH.take (1 : Int).toNat = [⟨256, 2⟩] from rfl] at TP
    have TP := Lib.hid TP
    go_wp2_with fail
    refine TP.out.mono ?_
    rintro e W14 ⟨⟨p3, c3, rfl, hA, hx⟩⟩
    have S := Lib.hid (S.out.on hx)
    have XR := (Ext.refl (fun _ => False) W14).alloc (.cells #[.int .i64 256, .int .i64 2] 45)
    have RR := Lib.hid (show Rd eTR (W14.alloc (.cells #[.int .i64 256, .int .i64 2] 45)) (some ⟨W14.heap.size, 0, none⟩) [⟨256, 2⟩] from Rd.lit (E := eTR) (t := 45) (fr := (0, 0)) (heap_alloc_new W14 _))
    have SA := sameR_any (W14.alloc (.cells #[.int .i64 256, .int .i64 2] 45)) p3 (some ⟨W14.heap.size, 0, none⟩) c3 1 [⟨256, 2⟩] [⟨256, 2⟩] ((Rd.of_arr hA).on XR) RR.out (by decide)
    rw [decide_eq_true rfl] at SA
    have SA := Lib.hid SA
    clear hA hx TP XR
    go_wp2_with fail
    refine SA.out.mono ?_
    rintro e W15 ⟨rfl, hx⟩
    have S := Lib.hid (S.out.on (((Ext.refl _ _).alloc _).trans hx (fun _ _ h => h)))
    clear hx SA RR
    have UN := Lib.hid (unused_any S.out.cut.model D.out p c rowsH S.out.rows (by decide) rows_in)
    go_wp2_with fail
    refine UN.out.mono ?_
    rintro e W16 ⟨⟨p4, c4, rfl, _, hx, _⟩⟩
    have S := Lib.hid (S.out.on hx)
    have UL := unused_h
    rw [show (unusedT rowsH (256 + houseDat.ms.length)).length = 259 from UL]
    clear hx UN UL
    go_wp2_with fail
    refine (unused_nil W16 _ _ _).mono ?_
    rintro e w' ⟨rfl, rfl⟩
    have K := Lib.hid (known_any W16 S.out.tabs)
    go_wp2_with fail
    refine K.out.mono ?_
    rintro e W17 ⟨rfl, hx⟩
    have S := Lib.hid (S.out.on hx)
    clear hx K
    go_wp2_with fail
    go_ret
    exact ⟨rfl, S.out.ext⟩
end Go.Proofs.YtigpaaelggnffaaGreatDoor.Ty
