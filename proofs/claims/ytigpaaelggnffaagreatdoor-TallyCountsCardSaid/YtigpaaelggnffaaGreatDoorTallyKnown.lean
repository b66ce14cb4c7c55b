/- law23.known; tesserabook.Same of tally's rows. -/
import Derived.Test.YtigpaaelggnffaaGreatDoorTallyCount
import Derived.BigQuiet
import Derived.Deep.QuietTactic
import Derived.WalkLawsBesides
namespace Go.Proofs.YtigpaaelggnffaaGreatDoor.Ty
open Go.RowKit Go.Proofs.YtigpaaelggnffaaGreatDoor.Lib Go.Proofs.YtigpaaelggnffaaGreatDoor.Sl Go.Proofs.YtigpaaelggnffaaGreatDoor.Bpe Go.Proofs.YtigpaaelggnffaaGreatDoor.Cut
set_option linter.unusedVariables false
set_option linter.unusedSimpArgs false

theorem Rd.cellTR {w : World} {p : Option Addr} {l : List TRow} (h : Sl.Rd eTR w p l) {i : Nat} {x : TRow} (hi : l[i]? = some x) : ∃ b o, p = some ⟨b, o, none⟩ ∧ b < w.heap.size ∧
    w.cell? ⟨b, o + i * 2, none⟩ = some (.int .i64 x.id) ∧ w.cell? ⟨b, o + i * 2 + 1, none⟩ = some (.int .i64 x.n) := by
  obtain ⟨b, o, hp, hb, hc⟩ := h i x hi
  exact ⟨b, o, hp, hb, by simpa [eTR] using hc 0 (by decide), by simpa [eTR] using hc 1 (by decide)⟩
theorem _root_.Go.Proofs.YtigpaaelggnffaaGreatDoor.Sl.Rd.cellR {w : World} {p : Option Addr} {l : List TRow} (h : Sl.Rd eTR w p l) {i : Nat} {x : TRow} (hi : l[i]? = some x) : ∃ b o, p = some ⟨b, o, none⟩ ∧ b < w.heap.size ∧
    w.cell? ⟨b, o + i * 2, none⟩ = some (.int .i64 x.id) ∧ w.cell? ⟨b, o + i * 2 + 1, none⟩ = some (.int .i64 x.n) := Rd.cellTR h hi
theorem row_equalIn (d : Nat) (w : World) (x y : TRow) : (Op.equalIn (d + 2) 45 (.agg #[.int .i64 x.id, .int .i64 x.n]) (.agg #[.int .i64 y.id, .int .i64 y.n])).run Tryz.prog w = .ok (decide (x = y)) w := by
  have hu := Tryz.underlying45
  have hi0 := Tryz.underlying3
  rw [run_equalIn_struct w (d + 1) _ _ _ (by kernel_rfl) (by kernel_rfl)]
  by_cases e0 : x.id = y.id
  · by_cases e1 : x.n = y.n
    · obtain rfl : x = y := by cases x; cases y; simp_all
      simp [go_sem, hu, hi0, run_equalIn_int, run_equalIn_string, run_equalIn_bool']
    · have hne : x ≠ y := fun h => e1 (by rw [h])
      simp [go_sem, hu, hi0, run_equalIn_int, run_equalIn_string, run_equalIn_bool', e0, e1, hne]
  · have hne : x ≠ y := fun h => e0 (by rw [h])
    simp [go_sem, hu, hi0, run_equalIn_int, run_equalIn_string, run_equalIn_bool', e0, hne]
theorem row_neq (x y : TRow) (w : World) : (binOp .neq 45 (.agg #[.int .i64 x.id, .int .i64 x.n]) (.agg #[.int .i64 y.id, .int .i64 y.n])).run Tryz.prog w = .ok (.bool (!decide (x = y))) w := by
  have h := row_equalIn 9998 w x y
  simp only [binOp]
  simp [Op.equal, Op.maxDepth, h]
set_option maxRecDepth 100000 in
set_option maxHeartbeats 2000000 in
theorem sameR_any (w : World) (p q : Option Addr) (c c2 : Nat) (xs ys : List TRow) (hx : Rd eTR w p xs) (hy : Rd eTR w q ys) (hl : xs.length ≤ 1125899906842624) :
    Calls Tryz.prog 19 #[.slice p xs.length c, .slice q ys.length c2] w fun e w' => e = .returned (.bool (decide (xs = ys))) ∧ Ext (fun _ => False) w w' := by
  have HX := Lib.hid hx
  have HY := Lib.hid hy
  clear hx hy
  by_cases hlen : xs.length = ys.length
  · have LE := Lib.hid hlen
    rw [← hlen]
    clear hlen
    go_enter Tryz.func19, Tryz.ntmps19
    go_wp2_with fail
    go_loopw [5] (fun i wr => ∃ n : Nat, i = .int .i64 n ∧ n ≤ xs.length ∧ xs.take n = ys.take n ∧ Ext (fun _ => False) w wr) (fun i _ => xs.length - (intOf i).toNat)
    case atStart => exact ⟨0, rfl, Nat.zero_le _, rfl, Ext.refl _ _⟩
    case round =>
      obtain ⟨n, rfl, hn, hsame, hx⟩ := hrel
      have SM := Lib.hid hsame
      have EX := Lib.hid hx
      clear hsame hx
      by_cases hlt : n < xs.length
      · have i1 : (n : Int) < (xs.length : Int) := by omega
        obtain ⟨x, hx⟩ : ∃ x, xs[n]? = some x := ⟨_, List.getElem?_eq_getElem hlt⟩
        obtain ⟨y, hy⟩ : ∃ y, ys[n]? = some y := ⟨_, List.getElem?_eq_getElem (by have := LE.out; omega)⟩
        obtain ⟨b, o, hp, hb, cx0, cx1⟩ := (HX.out.on EX.out).cellR hx
        obtain ⟨b', o', hq, hb', cy0, cy1⟩ := (HY.out.on EX.out).cellR hy
        have XN := Lib.hid hx
        have YN := Lib.hid hy
        clear hx hy
        rw [hp, hq]
        by_cases he : x = y
        · subst he
          have hq := fun W => row_neq x x W; simp only [decide_true, Bool.not_true] at hq
          have NX := Lib.hid (show xs.take (n + 1) = ys.take (n + 1) from by rw [List.take_add_one, List.take_add_one, SM.out, XN.out, YN.out])
          go_wp2_with fail
          go_quiet (fail)
          go_wp2_with fail
          go_roundw
          case rel => exact ⟨n + 1, by go_num, by omega, NX.out, EX.out.drewN _⟩
          case measure => simp [intOf]; omega
        · have hq := fun W => row_neq x y W; simp only [decide_eq_false he, Bool.not_false] at hq
          have NE := Lib.hid (show decide (xs = ys) = false from decide_eq_false (fun h => by subst h; have := XN.out.symm.trans YN.out; injection this with h; exact he h))
          go_wp2_with fail
          go_quiet (fail)
          go_wp2_with fail
          go_ret
          exact ⟨by rw [NE.out]; rfl, EX.out.drewN _⟩
      · have i1 : ¬ ((n : Int) < (xs.length : Int)) := by omega
        have EQ := Lib.hid (show decide (xs = ys) = true from decide_eq_true (by
          have := SM.out
          rwa [List.take_of_length_le (by omega), List.take_of_length_le (by have := LE.out; omega)] at this))
        go_wp2_with fail
        go_ret
        exact ⟨by rw [EQ.out]; rfl, EX.out⟩
  · have NE := Lib.hid (show decide (xs = ys) = false from decide_eq_false (fun h => hlen (by rw [h])))
    have hne : (xs.length : Int) ≠ (ys.length : Int) := by omega
    go_enter Tryz.func19, Tryz.ntmps19
    go_wp2_with fail
    go_ret
    exact ⟨by rw [NE.out]; rfl, Ext.refl _ _⟩
theorem house_ids1 : encT houseDat 9 ⟨#[97, 98, 32, 97, 98]⟩ = ([256, 32, 256], false) := by decide +kernel
theorem house_ids2 : encT houseDat 9 ⟨#[97]⟩ = ([97], false) := by decide +kernel
theorem house_rows : countR (idsAll houseDat 9 [⟨#[97, 98, 32, 97, 98]⟩, ⟨#[97]⟩]) = [⟨256, 2⟩, ⟨32, 1⟩, ⟨97, 1⟩] := by
  unfold idsAll
  rw [List.flatMap_cons, List.flatMap_cons, List.flatMap_nil, house_ids1, house_ids2]
  exact (ordR_is (by decide +kernel) (by decide +kernel)).symm
set_option maxRecDepth 100000 in
set_option maxHeartbeats 4000000 in
theorem known_any (w : World) (hT : Tabs w) : Calls Tryz.prog 11 #[] w fun e w' => e = .returned (.bool true) ∧ Ext (fun _ => False) w w' := by
  have HT := Lib.hid hT
  clear hT
  go_enter Tryz.func11, Tryz.ntmps11
  go_wp2_with fail
  refine (house_any w).mono ?_
  rintro e W ⟨L, rfl, hR, hx⟩
  have C := Lib.hid (of5_any _ L houseDat hR)
  have X := Lib.hid hx
  clear hR hx
  go_wp2_with fail
  refine C.out.mono ?_
  rintro e W1 ⟨hx, h⟩
  have X1 := Lib.hid (X.out.trans hx (fun _ _ h => h))
  clear hx C
  rcases h with ⟨hg, rfl⟩ | ⟨hg, a, rfl, hm, hwa⟩
  · exact absurd hg (by rw [house_good]; decide)
  · have D := Lib.hid (RightD.of_good hg)
    have M := Lib.hid (IsCut.of_good hm hg)
    have XL := Lib.hid (show Ext (fun _ => False) W1 (W1.alloc (.cells #[.string ⟨#[97, 98, 32, 97, 98]⟩, .string ⟨#[97]⟩] 9)) from (Ext.refl _ _).alloc _)
    have RL := Lib.hid (show Rd eS (W1.alloc (.cells #[.string ⟨#[97, 98, 32, 97, 98]⟩, .string ⟨#[97]⟩] 9)) (some ⟨W1.heap.size, 0, none⟩) [⟨#[97, 98, 32, 97, 98]⟩, ⟨#[97]⟩] from Rd.lit (E := eS) (t := 9) (fr := (0, 0)) (heap_alloc_new W1 _))
    have CN := count_any (M.out.on XL.out) D.out (HT.out.on (X1.out.trans XL.out (fun _ _ h => h))) 9 (by omega) (by omega) (some ⟨W1.heap.size, 0, none⟩) 2 [⟨#[97, 98, 32, 97, 98]⟩, ⟨#[97]⟩] RL.out (by decide) (by decide)
    rw [house_rows] at CN
    have CN := Lib.hid CN
    clear hg hm
    go_wp2_with fail
    refine CN.out.mono ?_
    rintro e W2 ⟨p, c, rfl, hA, hx2, _⟩
    have X2 := Lib.hid (X1.out.trans (XL.out.trans hx2 (fun _ _ h => h)) (fun _ _ h => h))
    have XR := Lib.hid (show Ext (fun _ => False) W2 (W2.alloc (.cells #[.int .i64 256, .int .i64 2, .int .i64 32, .int .i64 1, .int .i64 97, .int .i64 1] 45)) from (Ext.refl _ _).alloc _)
    have RR := Lib.hid (show Rd eTR (W2.alloc (.cells #[.int .i64 256, .int .i64 2, .int .i64 32, .int .i64 1, .int .i64 97, .int .i64 1] 45)) (some ⟨W2.heap.size, 0, none⟩) [⟨256, 2⟩, ⟨32, 1⟩, ⟨97, 1⟩] from Rd.lit (E := eTR) (t := 45) (fr := (0, 0)) (heap_alloc_new W2 _))
    have SA := sameR_any (W2.alloc (.cells #[.int .i64 256, .int .i64 2, .int .i64 32, .int .i64 1, .int .i64 97, .int .i64 1] 45)) p (some ⟨W2.heap.size, 0, none⟩) c 3 [⟨256, 2⟩, ⟨32, 1⟩, ⟨97, 1⟩] [⟨256, 2⟩, ⟨32, 1⟩, ⟨97, 1⟩] ((Rd.of_arr hA).on XR.out) RR.out (by decide)
    rw [decide_eq_true rfl] at SA
    have SA := Lib.hid SA
    clear hA hx2 CN
    go_wp2_with fail
    refine SA.out.mono ?_
    rintro e W3 ⟨rfl, hx3⟩
    have X3 := Lib.hid (X2.out.trans (XR.out.trans hx3 (fun _ _ h => h)) (fun _ _ h => h))
    clear hx3
    go_wp2_with fail
    go_ret
    exact ⟨rfl, X3.out⟩
end Go.Proofs.YtigpaaelggnffaaGreatDoor.Ty
