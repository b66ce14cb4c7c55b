/- law23.TallyKept. -/
import Derived.Test.YtigpaaelggnffaaGreatDoorBooks2
import Derived.Test.YtigpaaelggnffaaGreatDoorTallyTop
import Derived.Test.YtigpaaelggnffaaGreatDoorTallyUn
import Derived.Test.YtigpaaelggnffaaGreatDoorTallyFew
namespace Go.Proofs.YtigpaaelggnffaaGreatDoor.Ty
open Go.Sort Go.RowKit Go.Proofs.YtigpaaelggnffaaGreatDoor.Lib Go.Proofs.YtigpaaelggnffaaGreatDoor.Sl Go.Proofs.YtigpaaelggnffaaGreatDoor.Bpe Go.Proofs.YtigpaaelggnffaaGreatDoor.Cut Go.Proofs.YtigpaaelggnffaaGreatDoor.Bq
set_option linter.unusedVariables false
set_option linter.unusedSimpArgs false

theorem rd_takeK {w : World} {p : Option Addr} {l : List TRow} (h : Rd eTR w p l) (k : Nat) : Rd eTR w p (l.take k) := fun i x hi => h i x (by
  rw [List.getElem?_take] at hi
  split at hi
  · exact hi
  · cases hi)
/-- A list of rows in new memory. -/
def Gives (w : World) (v : Value) (w' : World) : Prop := ∃ p c xs, v = .slice p xs.length c ∧ xs.length ≤ 1048576 ∧ Arr w' 45 2 p xs.length c (flat eTR xs) ∧ Ext (fun _ => False) w w' ∧ ∀ k, blkOf p = some k → w.heap.size ≤ k
set_option maxRecDepth 100000 in
set_option maxHeartbeats 16000000 in
theorem kept_any (w : World) (hT : Tabs w) (L0 : Pl) (d : Dat) (h : DR w L0 d) (pr : Option Addr) (cr : Nat) (l : List TRow) (hr : Rd eTR w pr l) (hrc : l.length ≤ cr) (hrb : l.length * 16 ≤ 140737488351232) (hri : ∀ z ∈ l, inI z.id ∧ inI z.n) (pt : Option Addr) (ct : Nat) (t : List ByteArray) (hl : Rd eS w pt t) (hlc : t.length ≤ ct) (hlb : t.length * 16 ≤ 140737488351232) (hls : ∀ z ∈ t, z.size ≤ 140737488351232) :
    Calls Tryz.prog 6 #[.agg #[.slice L0.p0 d.ws.length L0.c0, .slice L0.p1 d.ms.length L0.c1, .slice L0.p2 d.ls.length L0.c2, .slice L0.p3 d.ns.length L0.c3, .slice L0.p4 d.ss.length L0.c4], .slice pr l.length cr, .slice pt t.length ct] w fun e w' => e = .returned (.bool true) ∧ Ext (fun _ => False) w w' := by
  have hb : (w.alloc (.cells (dataCells L0 d) 26)).heap[w.heap.size]? = _ := heap_alloc_new w _
  have X0 := Lib.hid ((Ext.refl (fun _ => False) w).alloc (.cells (dataCells L0 d) 26))
  have C := Lib.hid (of5_any _ L0 d (h.on X0.out))
  have HT := Lib.hid (hT.on X0.out)
  have HL := Lib.hid (hl.on X0.out)
  have HR := Lib.hid (hr.on X0.out)
  have HRI := Lib.hid hri
  clear hb h hT hl hls hr hri
  go_enter Tryz.func6, Tryz.ntmps6
  go_wp2_with fail
  refine C.out.mono ?_
  rintro e W ⟨hx, h⟩
  have X := Lib.hid (X0.out.trans hx (fun _ _ h => h))
  have T := Lib.hid (HT.out.on hx)
  have LT := Lib.hid (HL.out.on hx)
  have RT := Lib.hid (HR.out.on hx)
  clear hx C
  rcases h with ⟨hg, rfl⟩ | ⟨hg, a, rfl, hm, hwa⟩
  · have K := Lib.hid (known_any W T.out)
    clear hg
    go_wp2_with fail
    refine K.out.mono ?_
    rintro e W2 ⟨rfl, hx2⟩
    have X2 := Lib.hid (X.out.trans hx2 (fun _ _ h => h))
    clear hx2
    go_wp2_with fail
    go_ret
    exact ⟨rfl, X2.out⟩
  · have D := Lib.hid (RightD.of_good hg)
    have M := Lib.hid (IsCut.of_good hm hg)
    clear hg hm hwa
    go_upto_if 29 with fail
    go_cut [1] (fun v wc => W = wc ∧ ∃ (p1 : Option Addr) (c1 : Nat) (l1 : List TRow), v = .slice p1 l1.length c1 ∧ Rd eTR W p1 l1 ∧ l1.length ≤ 60 ∧ (∀ z ∈ l1, inI z.id ∧ inI z.n))
    case first =>
      by_cases h1 : 60 < l.length
      · have i1 : (l.length : Int) > 60 := by omega
        have hlen : (l.take 60).length = 60 := by rw [List.length_take]; omega
        have HLN := Lib.hid hlen
        have i3 : 60 ≤ cr := by omega
        have i4 : (60 : Int) ≤ (cr : Int) := by omega
        clear hlen
        go_wp2_with fail
        go_meet
        exact ⟨rfl, pr, cr, l.take 60, by rw [HLN.out], rd_takeK RT.out 60, by rw [HLN.out]; exact Nat.le_refl _, fun z hz => HRI.out z (List.mem_of_mem_take hz)⟩
      · have i1 : ¬ (l.length : Int) > 60 := by omega
        go_wp2_with fail
        go_meet
        exact ⟨rfl, pr, cr, l, rfl, RT.out, by omega, HRI.out⟩
    case rest =>
      obtain ⟨rfl, p1, c1, l1, rfl, hr1, hb1, hi1⟩ := hcut
      have R1 := Lib.hid hr1
      have RI1 := Lib.hid hi1
      clear hr1 hi1
      go_wp2_with fail
      refine (few_any W pt ct t LT.out (by omega) 60 (by decide)).mono ?_
      rintro e W1 ⟨p, c, rfl, hA1, hx1, hf1, hz1⟩
      have hL8 := fewL_length t 60
      have hLS := fewL_sum t 60
      obtain ⟨L, hL⟩ : ∃ L, fewL t 60 = L := ⟨_, rfl⟩
      rw [hL] at hA1 hL8 hLS hz1
      rw [hL]
      have X1 := Lib.hid (X.out.trans hx1 (fun _ _ h => h))
      have T1 := Lib.hid (T.out.on hx1)
      have RL := Rd.of_arr hA1
      have hRl : (countR (idsAll d 50 L)).length ≤ 1048576 := by
        have h1 := rows_len (rowsOf_counts (idsAll d 50 L))
        have h2 := idsAll_len D.out 50 L (by omega)
        have h3 := ordR_length (rowsOf (idsAll d 50 L))
        unfold countR
        omega
      have CN := Lib.hid (fun (wr : World) (hx : Ext (fun _ => False) W1 wr) => show Calls Tryz.prog 14 #[.pointer (some ⟨a, 0, none⟩), .int .i64 50, .slice p L.length c] wr fun e w' => ∃ v, e = .returned (.tuple #[v, .int .i64 0]) ∧ Gives wr v w' from
        (count_any ((M.out.on hx1).on hx) D.out (T1.out.on hx) 50 (by omega) (by omega) p c L (RL.on hx) (by omega) (by omega)).mono (by
          rintro e w' ⟨p, c, rfl, h1, h2, h3⟩
          exact ⟨_, rfl, p, c, _, rfl, hRl, h1, h2, h3⟩))
      have ON := Lib.hid (fun (wr : World) (hx : Ext (fun _ => False) W1 wr) => show Calls Tryz.prog 21 #[.slice p1 l1.length c1] wr fun e w' => ∃ v, e = .returned v ∧ Gives wr v w' from
        (order_any wr p1 c1 l1 ((R1.out.on hx1).on hx) (by omega)).mono (by
          rintro e w' ⟨p, c, rfl, h1, h2, h3⟩
          rw [← ordR_length l1] at h1
          exact ⟨_, rfl, p, c, ordR l1, by rw [ordR_length], by rw [ordR_length]; omega, h1, h2, h3⟩))
      have TN := Lib.hid (fun (n : Int) (wr : World) (hx : Ext (fun _ => False) W1 wr) => show Calls Tryz.prog 22 #[.slice p1 l1.length c1, .int .i64 n] wr fun e w' => ∃ v, e = .returned v ∧ Gives wr v w' from
        (top_any wr p1 c1 l1 ((R1.out.on hx1).on hx) (by omega) n).mono (by
          rintro e w' ⟨p, c, rfl, h1, h2, h3⟩
          have := ordR_length l1
          exact ⟨_, rfl, p, c, _, rfl, by rw [List.length_take]; omega, h1, h2, h3⟩))
      have hfew := D.out.few
      have hul := unusedT_length l1 (256 + d.ms.length)
      have UN := Lib.hid (fun (wr : World) (hx : Ext (fun _ => False) W1 wr) => unused_any ((M.out.on hx1).on hx).model D.out p1 c1 l1 ((R1.out.on hx1).on hx) (by omega) RI1.out)
      obtain ⟨U, hU⟩ : ∃ U, unusedT l1 (256 + d.ms.length) = U := ⟨_, rfl⟩
      rw [hU] at UN hul
      have hUl : U.length ≤ 1048576 := by omega
      have K0 := Lib.hid (Kp2.new (w := W1))
      clear hA1 hx1 hf1 hL hz1 RL hRl hfew hul hU
      go_wp2_with fail
      go_loopw [12] (fun i wr => ∃ k : Nat, i = .int .i64 k ∧ k ≤ 2 ∧ Kp2 W1 wr W1.heap.size (W1.heap.size + 1) (4 * k) k) (fun i _ => 2 - (intOf i).toNat)
      case atStart => exact ⟨0, rfl, by omega, K0.out⟩
      case round =>
        obtain ⟨k, rfl, hk, hst⟩ := hrel
        have ST := Lib.hid hst
        have SX := Lib.hid hst.ext
        clear hst
        by_cases hlt : k < 2
        · have i1 : (k : Int) < 2 := by omega
          go_wp2_with fail
          refine (CN.out _ SX.out).mono ?_
          rintro e W2 ⟨v2, rfl, p2, c2, x2, rfl, hl2, hA2, hx2, hf2⟩
          have KA := Lib.hid (ST.out.keep1 hx2 hA2 hf2 (by omega) hl2)
          clear hA2 hx2 hf2
          go_wp2_with fail
          refine KA.out.mono ?_
          rintro e W3 ⟨rfl, hk3⟩
          have K3 := Lib.hid hk3
          clear hk3 KA
          go_wp2_with fail
          refine (ON.out _ K3.out.ext).mono ?_
          rintro e W4 ⟨v4, rfl, p4, c4, x4, rfl, hl4, hA4, hx4, hf4⟩
          have KB := Lib.hid (K3.out.keep1 hx4 hA4 hf4 (by omega) hl4)
          clear hA4 hx4 hf4
          go_wp2_with fail
          refine KB.out.mono ?_
          rintro e W5 ⟨rfl, hk5⟩
          have K5 := Lib.hid hk5
          clear hk5 KB
          go_wp2_with fail
          refine (TN.out 5 _ K5.out.ext).mono ?_
          rintro e W6 ⟨v6, rfl, p6, c6, x6, rfl, hl6, hA6, hx6, hf6⟩
          have KC := Lib.hid (K5.out.keep1 hx6 hA6 hf6 (by omega) hl6)
          clear hA6 hx6 hf6
          go_wp2_with fail
          refine KC.out.mono ?_
          rintro e W7 ⟨rfl, hk7⟩
          have K7 := Lib.hid hk7
          clear hk7 KC
          go_wp2_with fail
          refine (TN.out 100 _ K7.out.ext).mono ?_
          rintro e W8 ⟨v8, rfl, p8, c8, x8, rfl, hl8, hA8, hx8, hf8⟩
          have KD := Lib.hid (K7.out.keep1 hx8 hA8 hf8 (by omega) hl8)
          clear hA8 hx8 hf8
          go_wp2_with fail
          refine KD.out.mono ?_
          rintro e W9 ⟨rfl, hk9⟩
          have K9 := Lib.hid hk9
          clear hk9 KD
          go_wp2_with fail
          refine (UN.out _ K9.out.ext).mono ?_
          rintro e W10 ⟨p10, c10, rfl, hA10, hx10, hf10, _⟩
          have KE := Lib.hid (K9.out.keep2 hx10 hA10 hf10 (by omega) hUl)
          clear hA10 hx10 hf10
          go_wp2_with fail
          refine KE.out.mono ?_
          rintro e W11 ⟨rfl, hk11⟩
          have K11 := Lib.hid hk11
          clear hk11 KE
          go_wp2_with fail
          go_roundw
          case rel => exact ⟨k + 1, by go_num, by omega, by have := K11.out; rw [show 4 * (k + 1) = 4 * k + 1 + 1 + 1 + 1 by omega]; exact this⟩
          case measure => simp [intOf]; omega
        · have i1 : ¬ (k : Int) < 2 := by omega
          have AP := Lib.hid (ST.out.apart1 (by omega))
          go_wp2_with fail
          refine AP.out.mono ?_
          rintro e W2 ⟨rfl, hb2, hx2⟩
          have AQ := Lib.hid (apart2_any hb2 hx2 (by omega))
          clear hb2 hx2 AP
          go_wp2_with fail
          refine AQ.out.mono ?_
          rintro e W3 ⟨rfl, hx3⟩
          have X3 := Lib.hid hx3
          have K := Lib.hid (known_any W3 (T1.out.on hx3))
          clear hx3 AQ
          go_wp2_with fail
          refine K.out.mono ?_
          rintro e W9 ⟨rfl, hx9⟩
          have X9 := Lib.hid (X1.out.trans (X3.out.trans hx9 (fun _ _ h => h)) (fun _ _ h => h))
          clear hx9
          go_wp2_with fail
          go_ret
          exact ⟨rfl, X9.out⟩
end Go.Proofs.YtigpaaelggnffaaGreatDoor.Ty
