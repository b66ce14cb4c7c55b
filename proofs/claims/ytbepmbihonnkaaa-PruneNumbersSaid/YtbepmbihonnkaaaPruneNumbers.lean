/- law24.PruneNumbers. -/
import Derived.Test.YtbepmbihonnkaaaPruneFst
namespace Go.Proofs.Ytbepmbihonnkaaa.Sl
open Go.Proofs.Ytbepmbihonnkaaa.Lib
open Go.RowKit
set_option linter.unusedVariables false
set_option linter.unusedSimpArgs false

theorem pfirst_nil (w : World) (k : Int) : Calls Try.prog 25 #[.pointer none, .int .i64 k] w fun e w' => e = .returned (.tuple #[.pointer none, .slice none 0 0, .int .i64 1]) ∧ w = w' := by
  go_enter Try.func25, Try.ntmps25
  go_wp2_with fail
  go_ret3
  exact ⟨rfl, rfl⟩
theorem down_nil (w : World) (k : Int) : Calls Try.prog 17 #[.pointer none, .int .i64 k, .slice none 0 0] w fun e w' => e = .returned (.tuple #[.slice none 0 0, .int .i64 1]) ∧ w = w' := by
  go_enter Try.func17, Try.ntmps17
  go_wp2_with fail
  go_ret2
  exact ⟨rfl, rfl⟩
theorem parts_nil (w : World) (id : Int) : Calls Try.prog 13 #[.pointer none, .int .i64 id] w fun e w' => e = .returned (.tuple #[.int .i64 0, .int .i64 0, .bool false]) ∧ w = w' := by
  go_enter Try.func13, Try.ntmps13
  go_wp2_with fail
  go_ret3
  exact ⟨rfl, rfl⟩
theorem size_m {W : World} {a : Nat} {d : Dat} (h : IsModel W a d) (hl : d.ws.length = d.ms.length) (hf : d.ms.length ≤ 4096) :
    Calls Try.prog 22 #[.pointer (some ⟨a, 0, none⟩)] W fun e w' => e = .returned (.int .i64 (256 + (d.ms.length : Int))) ∧ W = w' := by
  obtain ⟨L, tp, mp, q0, q1, q2, d0, d1, d2, hM⟩ := h
  have := size_any W a L.p0 d.ws.length L.c0 hM.blk.c0 (by omega)
  rwa [hl] at this
theorem house_kc1 : kc houseDat 1 = 1 := by decide +kernel
theorem house_kc0 : kc houseDat (-3) = 0 := by decide +kernel
theorem house_c1 : (cutD houseDat 1).ws.length = 1 ∧ (cutD houseDat 1).ms.length = 1 := by decide +kernel
theorem house_c0 : (cutD houseDat 0).ws.length = 0 ∧ (cutD houseDat 0).ms.length = 0 := by decide +kernel
theorem house_256 : (renGo houseDat (1 : Nat) 262).1[256]? = some 256 ∧ (renGo houseDat (1 : Nat) 262).1[257]? = some (-1) := by decide +kernel
theorem house_d1 : downT houseDat 0 [259] = ([116, 104, 101], 0) := by decide +kernel
theorem house_d2 : downT houseDat 0 [999] = ([], 24) := by decide +kernel
theorem house_p97 : askT houseDat 97 (·.l) = (0, false) ∧ askT houseDat 97 (·.r) = (0, false) := by decide +kernel
theorem house_dep : depthT houseDat 97 = 0 ∧ depthT houseDat 300 = -1 ∧ depthT houseDat (-1) = -1 := by decide +kernel

set_option maxRecDepth 100000 in
set_option maxHeartbeats 8000000 in
theorem pnumbers_any (w : World) : Calls Try.prog 5 #[] w fun e w' => e = .returned (.bool true) ∧ Ext (fun _ => False) w w' := by
  have RD := Lib.hid (RightD.of_good house_good)
  go_enter Try.func5, Try.ntmps5
  go_wp2_with fail
  refine (house_any _).mono ?_
  rintro e W ⟨L, rfl, hD, hx⟩
  have X := Lib.hid hx
  go_wp2_with fail
  refine (of5_any W L houseDat hD).mono ?_
  rintro e W0 ⟨hx0, h⟩
  rcases h with ⟨hg, _⟩ | ⟨hg, a, rfl, hm, hwa⟩
  · rw [house_good] at hg; cases hg
  have X0 := Lib.hid (hx.trans hx0 (fun _ _ h => h))
  have M0 := Lib.hid hm
  clear hx hx0 hD hg hm X hwa
  have P1 := Lib.hid (pfirst_any W0 a houseDat 1 M0.out house_good)
  go_wp2_with fail
  refine P1.out.mono ?_
  rintro e W1 ⟨a1, i1, rfl, hm1, hA1, hx1, _, _⟩
  rw [house_kc1] at hm1 hA1
  have X1 := Lib.hid (X0.out.trans hx1 (fun _ _ h => h))
  have M1 := Lib.hid (M0.out.on hx1)
  have Y1 := Lib.hid hm1
  have A1 := Lib.hid hA1
  have P2 := Lib.hid (pfirst_any W1 a houseDat (-3) M1.out house_good)
  clear hm1 hA1 hx1 M0 X0 P1
  go_wp2_with fail
  refine P2.out.mono ?_
  rintro e W2 ⟨a2, i2, rfl, hm2, hA2, hx2, _, _⟩
  rw [house_kc0] at hm2
  have X2 := Lib.hid (X1.out.trans hx2 (fun _ _ h => h))
  have M2 := Lib.hid (M1.out.on hx2)
  have Y2 := Lib.hid (Y1.out.on hx2)
  have Z2 := Lib.hid hm2
  have A2 := Lib.hid (arr_ext A1.out hx2 (fun _ _ h => h))
  clear hm2 hA2 hx2 M1 X1 P2 Y1 A1
  go_wp2_with fail
  refine (pfirst_nil W2 1).mono ?_
  rintro e w' ⟨rfl, rfl⟩
  have xl : Ext (fun _ => False) W2 (W2.alloc (.cells #[.int .i64 259] 3)) := (Ext.refl _ _).alloc _
  have X3 := Lib.hid (X2.out.trans xl (fun _ _ h => h))
  have DN := Lib.hid (down_any _ a houseDat 0 _ 1 [259] (M2.out.on xl) RD.out (show Rd eI (W2.alloc (.cells #[.int .i64 259] 3)) (some ⟨W2.heap.size, 0, none⟩) [259] from Rd.lit (E := eI) (t := 3) (fr := (0, 0)) (heap_alloc_new W2 _)) (by decide))
  go_wp2_with fail
  refine DN.out.mono ?_
  rintro e W3 ⟨po, co, rfl, hA, hx3, _⟩
  rw [house_d1] at hA ⊢
  have O3 := Lib.hid (ints_rd hA)
  have E3 := Lib.hid (xl.trans hx3 (fun _ _ h => h))
  clear hA hx3 xl DN X3
  have xl : Ext (fun _ => False) W3 (W3.alloc (.cells #[.int .i64 999] 3)) := (Ext.refl _ _).alloc _
  have DN := Lib.hid (down_any _ a houseDat 0 _ 1 [999] (M2.out.on (E3.out.trans xl (fun _ _ h => h))) RD.out (show Rd eI (W3.alloc (.cells #[.int .i64 999] 3)) (some ⟨W3.heap.size, 0, none⟩) [999] from Rd.lit (E := eI) (t := 3) (fr := (0, 0)) (heap_alloc_new W3 _)) (by decide))
  go_wp2_with fail
  refine DN.out.mono ?_
  rintro e W4 ⟨po4, co4, rfl, hA4, hx4, _⟩
  rw [house_d2]
  have E4 := Lib.hid (E3.out.trans (xl.trans hx4 (fun _ _ h => h)) (fun _ _ h => h))
  have O4 := Lib.hid (O3.out.on (xl.trans hx4 (fun _ _ h => h)))
  clear hA4 hx4 xl DN E3 O3
  go_wp2_with fail
  refine (down_nil W4 0).mono ?_
  rintro e w' ⟨rfl, rfl⟩
  have PR := Lib.hid (parts_any W4 a houseDat 97 (M2.out.on E4.out) RD.out ⟨by decide, by decide⟩)
  go_wp2_with fail
  refine PR.out.mono ?_
  rintro e W5 ⟨rfl, hx5⟩
  rw [house_p97.1, house_p97.2]
  have E5 := Lib.hid (E4.out.trans hx5 (fun _ _ h => h))
  have O5 := Lib.hid (O4.out.on hx5)
  clear hx5 PR E4 O4
  go_wp2_with fail
  refine (parts_nil W5 259).mono ?_
  rintro e w' ⟨rfl, rfl⟩
  have S1 := Lib.hid (size_m (Y2.out.on E5.out) (by rw [house_c1.1, house_c1.2]) (by rw [house_c1.2]; decide))
  rw [house_c1.2] at S1
  have S2 := Lib.hid (size_m (Z2.out.on E5.out) (by rw [house_c0.1, house_c0.2]) (by rw [house_c0.2]; decide))
  rw [house_c0.2] at S2
  have A5 := arr_ext A2.out E5.out (fun _ _ h => h)
  have h1 : W5.cell? ⟨i1, 256, none⟩ = some (.int .i64 256) := (arr_cell A5 256 (by decide)).trans (by unfold ints; rw [List.getElem?_map]; exact congrArg (Option.map _) house_256.1)
  have h2 : W5.cell? ⟨i1, 257, none⟩ = some (.int .i64 (-1)) := (arr_cell A5 257 (by decide)).trans (by unfold ints; rw [List.getElem?_map]; exact congrArg (Option.map _) house_256.2)
  clear A5
  go_wp2_with fail
  refine S1.out.mono ?_
  rintro e w' ⟨rfl, rfl⟩
  go_wp2_with fail
  refine S2.out.mono ?_
  rintro e w' ⟨rfl, rfl⟩
  have xl : Ext (fun _ => False) W5 (W5.alloc (.cells #[.int .i64 116, .int .i64 104, .int .i64 101] 3)) := (Ext.refl _ _).alloc _
  have SI := Lib.hid (sameI_any _ po (some ⟨W5.heap.size, 0, none⟩) co 3 [116, 104, 101] [116, 104, 101] (O5.out.on xl) (show Rd eI (W5.alloc (.cells #[.int .i64 116, .int .i64 104, .int .i64 101] 3)) (some ⟨W5.heap.size, 0, none⟩) [116, 104, 101] from Rd.lit (E := eI) (t := 3) (fr := (0, 0)) (heap_alloc_new W5 _)) (by decide))
  clear h1 h2 S1 S2
  go_wp2_with fail
  refine SI.out.mono ?_
  rintro e W6 ⟨rfl, hx6⟩
  have E6 := Lib.hid (E5.out.trans (xl.trans hx6 (fun _ _ h => h)) (fun _ _ h => h))
  have Q1 := Lib.hid (depth_any W6 a houseDat 97 (M2.out.on E6.out) RD.out)
  rw [house_dep.1] at Q1
  clear hx6 xl SI E5 O5
  go_wp2_with fail
  refine Q1.out.mono ?_
  rintro e W7 ⟨rfl, hx7⟩
  have E7 := Lib.hid (E6.out.trans hx7 (fun _ _ h => h))
  have Q2 := Lib.hid (depth_any W7 a houseDat 300 (M2.out.on E7.out) RD.out)
  rw [house_dep.2.1] at Q2
  clear hx7 E6 Q1
  go_wp2_with fail
  refine Q2.out.mono ?_
  rintro e W8 ⟨rfl, hx8⟩
  have E8 := Lib.hid (E7.out.trans hx8 (fun _ _ h => h))
  have Q3 := Lib.hid (depth_any W8 a houseDat (-1) (M2.out.on E8.out) RD.out)
  rw [house_dep.2.2] at Q3
  clear hx8 E7 Q2
  go_wp2_with fail
  refine Q3.out.mono ?_
  rintro e W9 ⟨rfl, hx9⟩
  have E9 := Lib.hid (E8.out.trans hx9 (fun _ _ h => h))
  clear hx9 E8 Q3
  go_wp2_with fail
  refine (known24_any W9).mono ?_
  rintro e W10 ⟨rfl, hx10⟩
  have X10 := Lib.hid (X2.out.trans (E9.out.trans hx10 (fun _ _ h => h)) (fun _ _ h => h))
  clear hx10
  go_wp2_with fail
  go_ret
  exact ⟨rfl, X10.out⟩
end Go.Proofs.Ytbepmbihonnkaaa.Sl
