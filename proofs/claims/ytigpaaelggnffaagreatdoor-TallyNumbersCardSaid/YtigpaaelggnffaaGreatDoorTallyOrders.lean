/- law23.TallyOrders. -/
import Derived.Test.YtigpaaelggnffaaGreatDoorTallyRo
import Derived.Test.YtigpaaelggnffaaGreatDoorTallyTop
import Derived.Test.YtigpaaelggnffaaGreatDoorTallySo
import Derived.Test.YtigpaaelggnffaaGreatDoorBookTal
namespace Go.Proofs.YtigpaaelggnffaaGreatDoor.Ty
open Go.RowKit Go.Proofs.YtigpaaelggnffaaGreatDoor.Lib Go.Proofs.YtigpaaelggnffaaGreatDoor.Sl Go.Proofs.YtigpaaelggnffaaGreatDoor.Bpe Go.Proofs.YtigpaaelggnffaaGreatDoor.Cut
set_option linter.unusedVariables false
set_option linter.unusedSimpArgs false

theorem rd_takeO {w : World} {p : Option Addr} {l : List TRow} (h : Rd eTR w p l) (k : Nat) : Rd eTR w p (l.take k) := fun i x hi => h i x (by
  rw [List.getElem?_take] at hi
  split at hi
  · exact hi
  · cases hi)
theorem rd_rowR {w : World} {p : Option Addr} {l : List TRow} (h : Rd eTR w p l) : ElTal.RowR w p (l.map elT) := by
  have := rd_reads h
  unfold ElTal.RowR
  rw [List.length_map]
  exact this
theorem flat_elT (l : List TRow) : ElTal.flat (l.map elT) = flat eTR l := by
  unfold ElTal.flat flat
  rw [List.flatMap_map]
  rfl
theorem rd_none {w : World} {p : Option Addr} {l : List TRow} (h : Rd eTR w p l) (hp : p = none) : l = [] := by
  cases l with
  | nil => rfl
  | cons x t =>
    obtain ⟨b, o, e, _⟩ := h 0 x rfl
    rw [hp] at e
    cases e
set_option maxRecDepth 100000 in
set_option maxHeartbeats 16000000 in
theorem orders_any (w : World) (hT : Tabs w) (pt : Option Addr) (ct : Nat) (l : List TRow) (hl : Rd eTR w pt l) (hlc : l.length ≤ ct) (hlb : l.length * 16 ≤ 140737488351232) (hli : ∀ z ∈ l, inI z.id ∧ inI z.n) (n : Int) (hn : (Lit.int .i64 n).wf = true) :
    Calls Tryz.prog 5 #[.slice pt l.length ct, .int .i64 n] w fun e w' => e = .returned (.bool true) ∧ Ext (fun _ => False) w w' := by
  have HT := Lib.hid hT
  have LT := Lib.hid hl
  clear hT hl hli hn
  go_enter Tryz.func5, Tryz.ntmps5
  go_upto_if 12 with fail
  go_cut [0] (fun v wc => w = wc ∧ ∃ (p1 : Option Addr) (c1 : Nat) (l1 : List TRow), v = .slice p1 l1.length c1 ∧ Rd eTR w p1 l1 ∧ l1.length ≤ 100)
  case first =>
    by_cases h1 : 100 < l.length
    · have i1 : (l.length : Int) > 100 := by omega
      have hlen : (l.take 100).length = 100 := by rw [List.length_take]; omega
      have HLN := Lib.hid hlen
      have i3 : 100 ≤ ct := by omega
      have i4 : (100 : Int) ≤ (ct : Int) := by omega
      clear hlen
      go_wp2_with fail
      go_meet
      exact ⟨rfl, pt, ct, l.take 100, by rw [HLN.out], rd_takeO LT.out 100, by have := HLN.out; omega⟩
    · have i1 : ¬ (l.length : Int) > 100 := by omega
      go_wp2_with fail
      go_meet
      exact ⟨rfl, pt, ct, l, rfl, LT.out, by omega⟩
  case rest =>
    obtain ⟨rfl, p1, c1, l1, rfl, hl1, hb1⟩ := hcut
    have HL1 := Lib.hid hl1
    have RO := Lib.hid (BookTal.roomy_any w p1 c1 (l1.map elT) ⟨-7, 0⟩ (rd_rowR hl1) (fun h => by rw [rd_none hl1 h]; rfl) (by rw [List.length_map]; omega))
    have RO2 := RO.out
    rw [List.length_map] at RO2
    obtain ⟨m, hm⟩ : ∃ m, l1.length + 80 = m := ⟨_, rfl⟩
    rw [hm] at RO2
    have RO3 := Lib.hid RO2
    have HM := Lib.hid hm
    have i1 : l1.length ≤ m := by omega
    have i2 : (l1.length : Int) ≤ (m : Int) := by omega
    clear RO RO2 hl1 hm
    go_wp2_with fail
    refine RO3.out.mono ?_
    rintro e w1 ⟨a, rfl, hrow, hx1, _⟩
    have F1 := Lib.hid (show ElTal.RowR w1 (some ⟨a, 0, none⟩) (l1.map elT ++ List.replicate 80 (⟨-7, 0⟩ : ElTal.El)) from hrow.reads)
    have R1 := Lib.hid (show Rd eTR w1 (some ⟨a, 0, none⟩) l1 from by
      have e : l1.map elT ++ List.replicate 80 (⟨-7, 0⟩ : ElTal.El) = (l1 ++ List.replicate 80 (⟨-7, 0⟩ : TRow)).map elT := by rw [List.map_append, List.map_replicate]; rfl
      have h0 : Arr w1 45 2 (some ⟨a, 0, none⟩) _ m (ElTal.flat (l1.map elT ++ List.replicate 80 (⟨-7, 0⟩ : ElTal.El))) := hrow
      rw [e, flat_elT] at h0
      have := rd_takeO (Rd.of_arr h0) l1.length
      rwa [List.take_left' rfl] at this)
    have X1 := Lib.hid hx1
    clear hrow hx1 RO3
    have O1 := Lib.hid (order_any w1 (some ⟨a, 0, none⟩) m l1 R1.out (by omega))
    go_wp2_with fail
    refine O1.out.mono ?_
    rintro e w2 ⟨pa, ca, rfl, hAa0, hx2, _⟩
    have hAa : Rd eTR w2 pa (ordR l1) := Rd.of_arr hAa0
    have RA2 := Lib.hid hAa
    have R2 := Lib.hid (R1.out.on hx2)
    have X2 := Lib.hid (X1.out.trans hx2 (fun _ _ h => h))
    have F2 := Lib.hid (show ElTal.RowR w2 (some ⟨a, 0, none⟩) (l1.map elT ++ List.replicate 80 (⟨-7, 0⟩ : ElTal.El)) from F1.out.ext hx2 (fun _ _ _ h => h))
    have T2 := Lib.hid (top_any w2 (some ⟨a, 0, none⟩) m l1 R2.out (by omega) n)
    clear hAa0 hAa hx2 O1
    obtain ⟨T, hTt⟩ : ∃ T, (ordR l1).take n.toNat = T := ⟨_, rfl⟩
    rw [hTt] at T2
    have TT := Lib.hid hTt
    have TL := Lib.hid (show T.length = min n.toNat l1.length from by rw [← hTt, List.length_take, ordR_length])
    clear hTt
    go_wp2_with fail
    refine T2.out.mono ?_
    rintro e w3 ⟨⟨pb, cb, rfl, hAb, hx3⟩⟩
    have RB3 := Lib.hid (show Rd eTR w3 pb T from Rd.of_arr hAb)
    have RA3 := Lib.hid (RA2.out.on hx3)
    have X3 := Lib.hid (X2.out.trans hx3 (fun _ _ h => h))
    have F3 := Lib.hid (show ElTal.RowR w3 (some ⟨a, 0, none⟩) (l1.map elT ++ List.replicate 80 (⟨-7, 0⟩ : ElTal.El)) from F2.out.ext hx3 (fun _ _ _ h => h))
    have P3 := Lib.hid (plain_any w3 p1 c1 l1 (HL1.out.on X3.out) (by omega))
    clear hAb hx3 T2
    go_wp2_with fail
    refine P3.out.mono ?_
    rintro e w4 ⟨⟨pp, cp, rfl, hAp, hx4⟩⟩
    have O4 := Lib.hid (orderR_any w4 pp cp l1 (Rd.of_arr hAp) (by omega))
    have RB4 := Lib.hid (RB3.out.on hx4)
    have RA4 := Lib.hid (RA3.out.on hx4)
    have X4 := Lib.hid (X3.out.trans hx4 (fun _ _ h => h))
    have F4 := Lib.hid (show ElTal.RowR w4 (some ⟨a, 0, none⟩) (l1.map elT ++ List.replicate 80 (⟨-7, 0⟩ : ElTal.El)) from F3.out.ext hx4 (fun _ _ _ h => h))
    clear hAp hx4 P3
    go_wp2_with fail
    refine O4.out.mono ?_
    rintro e w5 ⟨⟨pw, cw, rfl, hAw, hx5⟩⟩
    have hcw := (arr_cap hAw).1
    have RW5 := Lib.hid (show Rd eTR w5 pw (ordR l1) from Rd.of_arr hAw)
    have RB5 := Lib.hid (RB4.out.on hx5)
    have RA5 := Lib.hid (RA4.out.on hx5)
    have X5 := Lib.hid (X4.out.trans hx5 (fun _ _ h => h))
    have F5 := Lib.hid (show ElTal.RowR w5 (some ⟨a, 0, none⟩) (l1.map elT ++ List.replicate 80 (⟨-7, 0⟩ : ElTal.El)) from F4.out.ext hx5 (fun _ _ _ h => h))
    clear hAw hx5 O4
    go_upto_if 34 with fail
    go_cut [9] (fun v wc => w5 = wc ∧ ∃ k1 : Int, v = .int .i64 k1 ∧ k1 = max n 0)
    case first =>
      by_cases h0 : n < 0
      · have K0 := Lib.hid h0
        go_wp2_with fail
        go_meet
        exact ⟨rfl, 0, rfl, by have := K0.out; omega⟩
      · have K0 := Lib.hid h0
        go_wp2_with fail
        go_meet
        exact ⟨rfl, n, rfl, by have := K0.out; omega⟩
    case rest =>
    obtain ⟨rfl, k1, rfl, hk1⟩ := hcut
    have K1 := Lib.hid hk1
    clear hk1
    go_upto_if 38 with fail
    go_cut [9] (fun v wc => w5 = wc ∧ v = .int .i64 (T.length : Int))
    case first =>
      by_cases h0 : (l1.length : Int) < k1
      · have i5 : k1 > (l1.length : Int) := h0
        have K2 := Lib.hid (show T.length = l1.length from by have := TL.out; have := K1.out; omega)
        clear h0
        go_wp2_with fail
        go_meet
        exact ⟨rfl, by rw [K2.out]⟩
      · have i5 : ¬ k1 > (l1.length : Int) := h0
        have K2 := Lib.hid (show k1 = (T.length : Int) from by have := TL.out; have := K1.out; omega)
        clear h0
        go_wp2_with fail
        go_meet
        exact ⟨rfl, by rw [K2.out]⟩
    case rest =>
    obtain ⟨rfl, rfl⟩ := hcut
    have S1 := same23_any w5 pa pw ca cw (ordR l1) RA5.out RW5.out (by rw [ordR_length]; omega)
    rw [ordR_length] at S1
    have S1 := Lib.hid S1
    have i6 : T.length ≤ cw := by have := TL.out; omega
    have i7 : (T.length : Int) ≤ (cw : Int) := by omega
    have i8 : (0 : Int) ≤ (T.length : Int) := by omega
    go_wp2_with fail
    refine S1.out.mono ?_
    rintro e w6 ⟨rfl, hx6⟩
    have RB6 := Lib.hid (RB5.out.on hx6)
    have RW6 := Lib.hid (show Rd eTR w6 pw T from by have := rd_takeO (RW5.out.on hx6) n.toNat; rwa [TT.out] at this)
    have X6 := Lib.hid (X5.out.trans hx6 (fun _ _ h => h))
    have F6 := Lib.hid (show ElTal.RowR w6 (some ⟨a, 0, none⟩) (l1.map elT ++ List.replicate 80 (⟨-7, 0⟩ : ElTal.El)) from F5.out.ext hx6 (fun _ _ _ h => h))
    have S2 := Lib.hid (same23_any w6 pb pw cb cw T RB6.out RW6.out (by have := TL.out; omega))
    clear hx6 S1
    go_wp2_with fail
    refine S2.out.mono ?_
    rintro e w7 ⟨rfl, hx7⟩
    have X7 := Lib.hid (X6.out.trans hx7 (fun _ _ h => h))
    have I7 := BookTal.intact_any w7 (some ⟨a, 0, none⟩) p1 m c1 (l1.map elT) ⟨-7, 0⟩ (F6.out.ext hx7 (fun _ _ _ h => h)) (rd_rowR (HL1.out.on X7.out)) (by rw [List.length_map]; omega) (by rw [List.length_map]; have := HM.out; omega)
    rw [List.length_map, HM.out] at I7
    have I7 := Lib.hid I7
    clear hx7 S2
    go_wp2_with fail
    refine I7.out.mono ?_
    rintro e w8 ⟨rfl, hx8⟩
    have X8 := Lib.hid (X7.out.trans hx8 (fun _ _ h => h))
    have K8 := Lib.hid (known_any w8 (HT.out.on X8.out))
    clear hx8 I7
    go_wp2_with fail
    refine K8.out.mono ?_
    rintro e w9 ⟨rfl, hx9⟩
    have X9 := Lib.hid (X8.out.trans hx9 (fun _ _ h => h))
    clear hx9 K8
    go_wp2_with fail
    go_ret
    exact ⟨rfl, X9.out⟩
end Go.Proofs.YtigpaaelggnffaaGreatDoor.Ty
