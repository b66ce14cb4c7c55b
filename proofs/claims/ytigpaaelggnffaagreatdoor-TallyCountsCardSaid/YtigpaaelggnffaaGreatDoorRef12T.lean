/- The document's pre-tokens, walked: tesseraref4.Of, Kind; tesseraref12.Next. -/
import Derived.Test.YtigpaaelggnffaaGreatDoorRef12W
import Derived.Test.YtigpaaelggnffaaGreatDoorRight
import Derived.Deep.RegionHeld3
namespace Go.Proofs.YtigpaaelggnffaaGreatDoor.R2
open Go.RowKit Go.Proofs.YtigpaaelggnffaaGreatDoor.Lib Go.Proofs.YtigpaaelggnffaaGreatDoor.Sl Go.Proofs.YtigpaaelggnffaaGreatDoor.Cut
set_option linter.unusedVariables false
set_option linter.unusedSimpArgs false

/-- The classes are no longer than they may be. -/
def FewC (d : Dat) : Prop := d.ls.length ≤ 1048576 ∧ d.ns.length ≤ 1048576 ∧ d.ss.length ≤ 1048576
theorem of4_any (w : World) (L : Pl) (d : Dat) (h : DR w L d) (hf : FewC d) (r : Int) : Calls Tryz.prog 158 #[.agg #[.slice L.p0 d.ws.length L.c0, .slice L.p1 d.ms.length L.c1, .slice L.p2 d.ls.length L.c2, .slice L.p3 d.ns.length L.c3, .slice L.p4 d.ss.length L.c4], .int .i32 r] w fun e w' => e = .returned (.int .i64 (kindOf d.ls d.ns d.ss r)) ∧ Ext (fun _ => False) w w' := by
  have X0 := (Ext.refl (fun _ => False) w).alloc (.cells #[.slice L.p0 d.ws.length L.c0, .slice L.p1 d.ms.length L.c1, .slice L.p2 d.ls.length L.c2, .slice L.p3 d.ns.length L.c3, .slice L.p4 d.ss.length L.c4] 26)
  obtain ⟨b2, b3, b4⟩ := hf
  have I1 := Lib.hid (in3_any _ L.p2 L.c2 d.ls r (h.on X0).r2 (by omega))
  have I2 := Lib.hid (in3_any _ L.p3 L.c3 d.ns r (h.on X0).r3 (by omega))
  have I3 := Lib.hid (in3_any _ L.p4 L.c4 d.ss r (h.on X0).r4 (by omega))
  have XX := Lib.hid X0
  have E := Lib.hid (show kindOf d.ls d.ns d.ss r = if inn d.ls r then 1 else if inn d.ns r then 2 else if inn d.ss r then 3 else 4 from rfl)
  obtain ⟨b1, h1⟩ : ∃ b, inn d.ls r = b := ⟨_, rfl⟩
  obtain ⟨b2', h2⟩ : ∃ b, inn d.ns r = b := ⟨_, rfl⟩
  obtain ⟨b3', h3⟩ : ∃ b, inn d.ss r = b := ⟨_, rfl⟩
  rw [h1] at I1 E
  rw [h2] at I2 E
  rw [h3] at I3 E
  clear h1 h2 h3 h X0 b2 b3 b4
  go_enter Tryz.func158, Tryz.ntmps158
  go_wp2_with fail
  refine I1.out.mono ?_
  rintro e w' ⟨rfl, rfl⟩
  cases b1 with
  | true =>
    go_wp2_with fail
    go_ret
    exact ⟨by rw [E.out]; rfl, XX.out⟩
  | false =>
    go_wp2_with fail
    refine I2.out.mono ?_
    rintro e w' ⟨rfl, rfl⟩
    cases b2' with
    | true =>
      go_wp2_with fail
      go_ret
      exact ⟨by rw [E.out]; rfl, XX.out⟩
    | false =>
      go_wp2_with fail
      refine I3.out.mono ?_
      rintro e w' ⟨rfl, rfl⟩
      cases b3' with
      | true =>
        go_wp2_with fail
        go_ret
        exact ⟨by rw [E.out]; rfl, XX.out⟩
      | false =>
        go_wp2_with fail
        go_ret
        exact ⟨by rw [E.out]; rfl, XX.out⟩
theorem kind4_any (w : World) (L : Pl) (d : Dat) (h : DR w L d) (hf : FewC d) (a n r : Nat) (b : Bool) : Calls Tryz.prog 143 #[.agg #[.slice L.p0 d.ws.length L.c0, .slice L.p1 d.ms.length L.c1, .slice L.p2 d.ls.length L.c2, .slice L.p3 d.ns.length L.c3, .slice L.p4 d.ss.length L.c4], .agg #[.int .i64 a, .int .i64 n, .int .i32 r, .bool b]] w fun e w' => e = .returned (.int .i64 (kindI d ⟨a, n, r, b⟩)) ∧ Ext (fun _ => False) w w' := by
  have X0 := ((Ext.refl (fun _ => False) w).alloc (.cells #[.slice L.p0 d.ws.length L.c0, .slice L.p1 d.ms.length L.c1, .slice L.p2 d.ls.length L.c2, .slice L.p3 d.ns.length L.c3, .slice L.p4 d.ss.length L.c4] 26)).alloc (itObj a n r b)
  have O := Lib.hid (of4_any _ L d (h.on X0) hf r)
  have XX := Lib.hid X0
  clear h X0
  cases b with
  | true =>
    go_enter Tryz.func143, Tryz.ntmps143
    go_wp2_with fail
    go_ret
    exact ⟨rfl, XX.out⟩
  | false =>
    go_enter Tryz.func143, Tryz.ntmps143
    go_wp2_with fail
    refine O.out.mono ?_
    rintro e w' ⟨rfl, hx⟩
    have X1 := Lib.hid (XX.out.trans hx (fun _ _ h => h))
    clear hx
    go_wp2_with fail
    go_ret
    exact ⟨rfl, X1.out⟩
theorem kind_range (d : Dat) (x : Cut.Item) : kindI d x = 1 ∨ kindI d x = 2 ∨ kindI d x = 3 ∨ kindI d x = 4 := by
  unfold kindI kindOf
  repeat' split
  all_goals omega
theorem run_get {d : Dat} {k : Int} : ∀ {l : List Cut.Item} {m : Nat} {x : Cut.Item}, m ≤ runI d k l → l[m]? = some x → (m < runI d k l ↔ kindI d x = k)
  | [], m, x, _, h => by simp at h
  | y :: l, 0, x, _, h => by
    obtain rfl : y = x := by simpa using h
    by_cases hk : kindI d y = k
    · rw [runI_cons hk]; simp [hk]
    · rw [runI_stop hk]; simp [hk]
  | y :: l, m + 1, x, hm, h => by
    by_cases hk : kindI d y = k
    · rw [runI_cons hk] at hm ⊢
      have := run_get (d := d) (k := k) (l := l) (m := m) (x := x) (by omega) (by simpa using h)
      rw [← this]
      omega
    · rw [runI_stop hk] at hm
      omega
def NextEnd (w : World) (d : Dat) (l : List Cut.Item) (i : Nat) (e : Ending) (w' : World) : Prop := e = .returned (.tuple #[.int .i64 ((nextR d (l.drop i)).1 : Nat), .int .i64 (nextR d (l.drop i)).2, .bool true]) ∧ Ext (fun _ => False) w w'
theorem NextEnd.mk' {w w' : World} {d : Dat} {l : List Cut.Item} {i n : Nat} {so : Int} (h : nextR d (l.drop i) = (n, so)) (hx : Ext (fun _ => False) w w') : NextEnd w d l i (.returned (.tuple #[.int .i64 (n : Nat), .int .i64 so, .bool true])) w' := ⟨by rw [h], hx⟩
set_option maxRecDepth 100000 in
set_option maxHeartbeats 16000000 in
theorem next12_any (w : World) (L : Pl) (d : Dat) (h : DR w L d) (hf : FewC d) (p : Option Addr) (c : Nat) (l : List Cut.Item) (hr : Rd eIt w p l) (i : Nat) (hi : i < l.length) (hl : l.length ≤ 1048576) : Calls Tryz.prog 120 #[.agg #[.slice L.p0 d.ws.length L.c0, .slice L.p1 d.ms.length L.c1, .slice L.p2 d.ls.length L.c2, .slice L.p3 d.ns.length L.c3, .slice L.p4 d.ss.length L.c4], .slice p l.length c, .int .i64 i, .bool true] w fun e w' => NextEnd w d l i e w' := by
  have hb : (w.alloc (.cells (dataCells L d) 26)).heap[w.heap.size]? = some (.cells (dataCells L d) 26 (0, 0)) := heap_alloc_new w _
  have X0 := (Ext.refl (fun _ => False) w).alloc (.cells (dataCells L d) 26)
  have SH := Lib.hid (short_any (hr.on X0) c i hi hl)
  obtain ⟨x, hx⟩ : ∃ x, l[i]? = some x := ⟨_, List.getElem?_eq_getElem hi⟩
  have hd : l.drop i = x :: l.drop (i + 1) := Sl.drop_cons hx
  obtain ⟨b, o, rfl, hxb, x0, x1, x2, x3⟩ := cellIt hr hx
  have DRH := Lib.hid (fun (W : World) (hx : Ext (fun _ => False) w W) => h.on hx)
  have CE := Lib.hid (show ∀ w', Ext (fun _ => False) (w.alloc (.cells (dataCells L d) 26)) w' → (w'.cell? ⟨w.heap.size, 0, none⟩ = some (.slice L.p0 d.ws.length L.c0) ∧ w'.cell? ⟨w.heap.size, 1, none⟩ = some (.slice L.p1 d.ms.length L.c1) ∧ w'.cell? ⟨w.heap.size, 2, none⟩ = some (.slice L.p2 d.ls.length L.c2) ∧ w'.cell? ⟨w.heap.size, 3, none⟩ = some (.slice L.p3 d.ns.length L.c3) ∧ w'.cell? ⟨w.heap.size, 4, none⟩ = some (.slice L.p4 d.ss.length L.c4)) from fun w' hx => by
    have bb := hx.obj hb (fun h => h)
    exact ⟨blk_cell bb 0, blk_cell bb 1, blk_cell bb 2, blk_cell bb 3, blk_cell bb 4⟩)
  have XX := Lib.hid X0
  have HR := Lib.hid hr
  have HD := Lib.hid hd
  have hlt := hxb
  obtain ⟨xa, xn, xr, xb⟩ := x
  simp only at x0 x1 x2 x3
  have CX := Lib.hid (show ∀ w', Ext (fun _ => False) w w' → (w'.cell? ⟨b, o + i * 4, none⟩ = some (.int .i64 xa) ∧ w'.cell? ⟨b, o + i * 4 + 1, none⟩ = some (.int .i64 xn) ∧ w'.cell? ⟨b, o + i * 4 + 2, none⟩ = some (.int .i32 xr) ∧ w'.cell? ⟨b, o + i * 4 + 3, none⟩ = some (.bool xb)) from fun w' hx => ⟨(hx.cell (p := ⟨b, _, none⟩) hxb (fun h => h)).trans x0, (hx.cell (p := ⟨b, _, none⟩) hxb (fun h => h)).trans x1, (hx.cell (p := ⟨b, _, none⟩) hxb (fun h => h)).trans x2, (hx.cell (p := ⟨b, _, none⟩) hxb (fun h => h)).trans x3⟩)
  have HX := Lib.hid hx
  obtain ⟨W0, hW0⟩ : ∃ W0, w.alloc (.cells (dataCells L d) 26) = W0 := ⟨_, rfl⟩
  rw [hW0] at SH CE XX
  have HW0 := Lib.hid hW0
  have i0 : (i : Int) < (l.length : Int) := by omega
  clear h hb X0 hr hx hd hW0
  go_enter Tryz.func120, Tryz.ntmps120
  go_wp2_with fail
  rw [show w.alloc (.cells #[.slice L.p0 d.ws.length L.c0, .slice L.p1 d.ms.length L.c1, .slice L.p2 d.ls.length L.c2, .slice L.p3 d.ns.length L.c3, .slice L.p4 d.ss.length L.c4] 26) = W0 from HW0.out]
  refine SH.out.mono ?_
  rintro e W1 ⟨rfl, hx1⟩
  have E1 := Lib.hid hx1
  have X1 := Lib.hid (XX.out.trans hx1 (fun _ _ h => h))
  clear hx1 SH
  by_cases hs : 0 < shortI (l.drop i)
  · have E := Lib.hid (show nextR d (l.drop i) = (shortI (l.drop i), 1) from by
      rw [HD.out] at hs ⊢
      rw [nextR_cons, if_pos hs])
    obtain ⟨n, hn⟩ : ∃ n, shortI (l.drop i) = n := ⟨_, rfl⟩
    rw [hn] at E hs
    rw [hn]
    have i1 : (n : Int) > 0 := by omega
    clear hn
    go_wp2_with fail
    refine bodyPost_ret (v := .tuple #[.int .i64 n, .int .i64 1, .bool true]) (by simp [results, Tryz.f120, go_sem]) rfl ?_
    exact NextEnd.mk' E.out X1.out
  have hs0 : shortI (l.drop i) = 0 := by omega
  have HS := Lib.hid hs
  rw [hs0]
  have i1 : ¬ ((0 : Int) > 0) := by omega
  clear hs hs0
  obtain ⟨x0', x1', x2', x3'⟩ := CX.out _ X1.out
  obtain ⟨q32, hq32⟩ : ∃ q, isQ xr xb 32 = q := ⟨_, rfl⟩
  have IS := is_ext xa xn xr xb 32
  rw [hq32] at IS
  have IS := Lib.hid IS
  have Q32 := Lib.hid hq32
  clear hq32
  go_wp2_with fail
  refine (IS.out _).mono ?_
  rintro e W2 ⟨rfl, hx2⟩
  have E2 := Lib.hid (E1.out.trans hx2 (fun _ _ h => h))
  have X2 := Lib.hid (X1.out.trans hx2 (fun _ _ h => h))
  clear hx2 IS
  clear x0' x1' x2' x3' x0 x1 x2 x3
  go_upto_if 32 with fail
  go_cut [13] (fun v wc => ∃ j : Nat, v = .int .i64 j ∧ Ext (fun _ => False) W0 wc ∧ Ext (fun _ => False) w wc ∧ j = (if headSp d (l.drop i) = true then i + 1 else i) ∧ j < l.length)
  case first =>
    cases q32 with
    | false =>
      have HJ := Lib.hid (show headSp d (l.drop i) = false from by
        rw [HD.out]
        cases l.drop (i + 1) with
        | nil => rfl
        | cons y t =>
          show (isB (⟨xa, xn, xr, xb⟩ : Cut.Item) 32 && decide (kindI d y ≠ 3)) = false
          rw [isB_q, show isQ xr xb ((32 : Nat) : Int) = false from Q32.out]; rfl)
      go_wp2_with fail
      go_meet
      exact ⟨i, rfl, E2.out, X2.out, by rw [HJ.out]; rfl, hi⟩
    | true =>
      by_cases h1 : i + 1 < l.length
      · obtain ⟨y, hy⟩ : ∃ y, l[i + 1]? = some y := ⟨_, List.getElem?_eq_getElem h1⟩
        have hd2 : l.drop (i + 1) = y :: l.drop (i + 1 + 1) := Sl.drop_cons hy
        obtain ⟨b', o', hp, hyb, y0, y1, y2, y3⟩ := cellIt HR.out hy
        injection hp with hp
        injection hp with hp1 hp2
        subst hp1 hp2
        obtain ⟨ya, yn, yr, yb⟩ := y
        simp only at y0 y1 y2 y3
        have HJ := Lib.hid (show headSp d (l.drop i) = decide (kindI d ⟨ya, yn, yr, yb⟩ ≠ 3) from by
          rw [HD.out, hd2]
          show (isB (⟨xa, xn, xr, xb⟩ : Cut.Item) 32 && decide (kindI d ⟨ya, yn, yr, yb⟩ ≠ 3)) = _
          rw [isB_q, show isQ xr xb ((32 : Nat) : Int) = true from Q32.out]; rfl)
        obtain ⟨j, hj⟩ : ∃ j, i + 1 = j := ⟨_, rfl⟩
        have j1 : (i : Int) + 1 = (j : Int) := by omega
        rw [hj] at y0 y1 y2 y3 h1
        have i2 : (j : Int) < (l.length : Int) := by omega
        have hwj : IntKind.i64.wrap (j : Int) = (j : Int) := IntWalk.i64_in _ (by omega)
        have d1 : decide ((j : Int) ≥ (l.length : Int)) = false := decide_eq_false (by omega)
        have d1' : ¬ (l.length ≤ j) := by omega
        have d2 : decide (j < l.length) = true := decide_eq_true h1
        have d2' : decide ((j : Int) < (l.length : Int)) = true := decide_eq_true i2
        have CY := Lib.hid (show ∀ w', Ext (fun _ => False) w w' → (w'.cell? ⟨b, o + j * 4, none⟩ = some (.int .i64 ya) ∧ w'.cell? ⟨b, o + j * 4 + 1, none⟩ = some (.int .i64 yn) ∧ w'.cell? ⟨b, o + j * 4 + 2, none⟩ = some (.int .i32 yr) ∧ w'.cell? ⟨b, o + j * 4 + 3, none⟩ = some (.bool yb)) from fun w' hx => ⟨(hx.cell (p := ⟨b, _, none⟩) hyb (fun h => h)).trans y0, (hx.cell (p := ⟨b, _, none⟩) hyb (fun h => h)).trans y1, (hx.cell (p := ⟨b, _, none⟩) hyb (fun h => h)).trans y2, (hx.cell (p := ⟨b, _, none⟩) hyb (fun h => h)).trans y3⟩)
        have SS := Lib.hid (show ∀ w', Ext (fun _ => False) W0 w' ∧ Ext (fun _ => False) w w' → ((w'.cell? ⟨w.heap.size, 0, none⟩ = some (.slice L.p0 d.ws.length L.c0) ∧ w'.cell? ⟨w.heap.size, 1, none⟩ = some (.slice L.p1 d.ms.length L.c1) ∧ w'.cell? ⟨w.heap.size, 2, none⟩ = some (.slice L.p2 d.ls.length L.c2) ∧ w'.cell? ⟨w.heap.size, 3, none⟩ = some (.slice L.p3 d.ns.length L.c3) ∧ w'.cell? ⟨w.heap.size, 4, none⟩ = some (.slice L.p4 d.ss.length L.c4)) ∧ (w'.cell? ⟨b, o + j * 4, none⟩ = some (.int .i64 ya) ∧ w'.cell? ⟨b, o + j * 4 + 1, none⟩ = some (.int .i64 yn) ∧ w'.cell? ⟨b, o + j * 4 + 2, none⟩ = some (.int .i32 yr) ∧ w'.cell? ⟨b, o + j * 4 + 3, none⟩ = some (.bool yb))) ∧ (Ext (fun _ => False) W0 w' ∧ Ext (fun _ => False) w w') from fun w' hx => ⟨⟨CE.out _ hx.1, CY.out _ hx.2⟩, hx⟩)
        have HJ1 := Lib.hid hj
        obtain ⟨ky, hky⟩ : ∃ k, kindI d ⟨ya, yn, yr, yb⟩ = k := ⟨_, rfl⟩
        have KY := Lib.hid (show ∀ W : World, Ext (fun _ => False) W0 W ∧ Ext (fun _ => False) w W → Calls Tryz.prog 143 #[.agg #[.slice L.p0 d.ws.length L.c0, .slice L.p1 d.ms.length L.c1, .slice L.p2 d.ls.length L.c2, .slice L.p3 d.ns.length L.c3, .slice L.p4 d.ss.length L.c4], .agg #[.int .i64 ya, .int .i64 yn, .int .i32 yr, .bool yb]] W fun e w' => e = .returned (.int .i64 ky) ∧ (Ext (fun _ => False) W0 w' ∧ Ext (fun _ => False) w w') from fun W hx => (kind4_any W L d (DRH.out _ hx.2) hf ya yn yr yb).mono fun e w' ⟨h1, h2⟩ => ⟨by rw [h1, hky], hx.1.trans h2 (fun _ _ h => h), hx.2.trans h2 (fun _ _ h => h)⟩)
        rw [hky] at HJ
        have D0 := Lib.hid (show Ext (fun _ => False) W0 W2.drew ∧ Ext (fun _ => False) w W2.drew from ⟨E2.out.drew, X2.out.drew⟩)
        clear hy hd2 hj hky y0 y1 y2 y3
        by_cases hk3 : ky = 3
        · have q1 : (ky != 3) = false := by simp [hk3]
          have HJ2 := Lib.hid (show headSp d (l.drop i) = false from by rw [HJ.out]; simp [hk3])
          clear hk3
          go_wp2_with fail
          go_region_held3 (fun w' => ((w'.cell? ⟨w.heap.size, 0, none⟩ = some (.slice L.p0 d.ws.length L.c0) ∧ w'.cell? ⟨w.heap.size, 1, none⟩ = some (.slice L.p1 d.ms.length L.c1) ∧ w'.cell? ⟨w.heap.size, 2, none⟩ = some (.slice L.p2 d.ls.length L.c2) ∧ w'.cell? ⟨w.heap.size, 3, none⟩ = some (.slice L.p3 d.ns.length L.c3) ∧ w'.cell? ⟨w.heap.size, 4, none⟩ = some (.slice L.p4 d.ss.length L.c4)) ∧ (w'.cell? ⟨b, o + j * 4, none⟩ = some (.int .i64 ya) ∧ w'.cell? ⟨b, o + j * 4 + 1, none⟩ = some (.int .i64 yn) ∧ w'.cell? ⟨b, o + j * 4 + 2, none⟩ = some (.int .i32 yr) ∧ w'.cell? ⟨b, o + j * 4 + 3, none⟩ = some (.bool yb))) ∧ (Ext (fun _ => False) W0 w' ∧ Ext (fun _ => False) w w'))
            (first | exact SS.out _ D0.out | exact SS.out _ G1.out)
            (first | (go_at_call 143; (with_reducible refine (KY.out _ ?_).mono ?_); (exact D0.out); rintro e V1 ⟨rfl, hg1⟩; have G1 := Lib.hid hg1; clear hg1))
          go_wp2_with fail
          go_meet
          exact ⟨i, rfl, G1.out.1, G1.out.2, by rw [HJ2.out]; rfl, hi⟩
        · have q1 : (ky != 3) = true := by simpa using hk3
          have HJ2 := Lib.hid (show headSp d (l.drop i) = true from by rw [HJ.out]; simp [hk3])
          clear hk3
          go_wp2_with fail
          go_region_held3 (fun w' => ((w'.cell? ⟨w.heap.size, 0, none⟩ = some (.slice L.p0 d.ws.length L.c0) ∧ w'.cell? ⟨w.heap.size, 1, none⟩ = some (.slice L.p1 d.ms.length L.c1) ∧ w'.cell? ⟨w.heap.size, 2, none⟩ = some (.slice L.p2 d.ls.length L.c2) ∧ w'.cell? ⟨w.heap.size, 3, none⟩ = some (.slice L.p3 d.ns.length L.c3) ∧ w'.cell? ⟨w.heap.size, 4, none⟩ = some (.slice L.p4 d.ss.length L.c4)) ∧ (w'.cell? ⟨b, o + j * 4, none⟩ = some (.int .i64 ya) ∧ w'.cell? ⟨b, o + j * 4 + 1, none⟩ = some (.int .i64 yn) ∧ w'.cell? ⟨b, o + j * 4 + 2, none⟩ = some (.int .i32 yr) ∧ w'.cell? ⟨b, o + j * 4 + 3, none⟩ = some (.bool yb))) ∧ (Ext (fun _ => False) W0 w' ∧ Ext (fun _ => False) w w'))
            (first | exact SS.out _ D0.out | exact SS.out _ G1.out)
            (first | (go_at_call 143; (with_reducible refine (KY.out _ ?_).mono ?_); (exact D0.out); rintro e V1 ⟨rfl, hg1⟩; have G1 := Lib.hid hg1; clear hg1))
          go_wp2_with fail
          go_meet
          exact ⟨j, rfl, G1.out.1, G1.out.2, by rw [HJ2.out, if_pos rfl, HJ1.out], h1⟩
      · have HJ := Lib.hid (show headSp d (l.drop i) = false from by
          rw [HD.out, List.drop_eq_nil_of_le (show l.length ≤ i + 1 by omega)]
          rfl)
        obtain ⟨j, hj⟩ : ∃ j, i + 1 = j := ⟨_, rfl⟩
        have j1 : (i : Int) + 1 = (j : Int) := by omega
        have i2 : ¬ (j : Int) < (l.length : Int) := by omega
        have d1 : decide ((j : Int) ≥ (l.length : Int)) = true := decide_eq_true (by omega)
        have d1' : l.length ≤ j := by omega
        have d2 : decide (j < l.length) = false := decide_eq_false (by omega)
        have d2' : decide ((j : Int) < (l.length : Int)) = false := decide_eq_false i2
        clear hj
        go_wp2_with fail
        go_quiet (fail)
        have G1 := Lib.hid (And.intro (E2.out.drewN nq) (X2.out.drewN nq))
        go_wp2_with fail
        go_meet
        exact ⟨i, rfl, G1.out.1, G1.out.2, by rw [HJ.out]; rfl, hi⟩
  case rest =>
    obtain ⟨j, rfl, hE3, hX3, hj, hjl⟩ := hcut
    have E3 := Lib.hid hE3
    have X3 := Lib.hid hX3
    have HJ := Lib.hid hj
    clear hE3 hX3 hj
    obtain ⟨z, hz⟩ : ∃ z, l[j]? = some z := ⟨_, List.getElem?_eq_getElem hjl⟩
    have hdz : l.drop j = z :: l.drop (j + 1) := Sl.drop_cons hz
    obtain ⟨b', o', hp, hzb, z0, z1, z2, z3⟩ := cellIt HR.out hz
    injection hp with hp
    injection hp with hp1 hp2
    subst hp1 hp2
    have HZ := Lib.hid hz
    have HDZ := Lib.hid hdz
    have hkr := kind_range d z
    obtain ⟨k, hk⟩ : ∃ k, kindI d z = k := ⟨_, rfl⟩
    have HK := Lib.hid hk
    rw [hk] at hkr
    have HKR := Lib.hid hkr
    have hrl := runI_le d k (l.drop j)
    rw [List.length_drop] at hrl
    have hrp : 1 ≤ runI d k (l.drop j) := by
      rw [hdz, ← hk]
      exact run_pos
    obtain ⟨R, hR⟩ : ∃ R, runI d k (l.drop j) = R := ⟨_, rfl⟩
    rw [hR] at hrl hrp
    have HRR := Lib.hid hR
    obtain ⟨za, zn, zr, zb⟩ := z
    simp only at z0 z1 z2 z3
    have i2 : (j : Int) < (l.length : Int) := by omega
    have CZ := Lib.hid (show ∀ w', Ext (fun _ => False) w w' → (w'.cell? ⟨b, o + j * 4, none⟩ = some (.int .i64 za) ∧ w'.cell? ⟨b, o + j * 4 + 1, none⟩ = some (.int .i64 zn) ∧ w'.cell? ⟨b, o + j * 4 + 2, none⟩ = some (.int .i32 zr) ∧ w'.cell? ⟨b, o + j * 4 + 3, none⟩ = some (.bool zb)) from fun w' hx => ⟨(hx.cell (p := ⟨b, _, none⟩) hzb (fun h => h)).trans z0, (hx.cell (p := ⟨b, _, none⟩) hzb (fun h => h)).trans z1, (hx.cell (p := ⟨b, _, none⟩) hzb (fun h => h)).trans z2, (hx.cell (p := ⟨b, _, none⟩) hzb (fun h => h)).trans z3⟩)
    have SZ := Lib.hid (show ∀ w', Ext (fun _ => False) W0 w' ∧ Ext (fun _ => False) w w' → ((w'.cell? ⟨w.heap.size, 0, none⟩ = some (.slice L.p0 d.ws.length L.c0) ∧ w'.cell? ⟨w.heap.size, 1, none⟩ = some (.slice L.p1 d.ms.length L.c1) ∧ w'.cell? ⟨w.heap.size, 2, none⟩ = some (.slice L.p2 d.ls.length L.c2) ∧ w'.cell? ⟨w.heap.size, 3, none⟩ = some (.slice L.p3 d.ns.length L.c3) ∧ w'.cell? ⟨w.heap.size, 4, none⟩ = some (.slice L.p4 d.ss.length L.c4)) ∧ (w'.cell? ⟨b, o + j * 4, none⟩ = some (.int .i64 za) ∧ w'.cell? ⟨b, o + j * 4 + 1, none⟩ = some (.int .i64 zn) ∧ w'.cell? ⟨b, o + j * 4 + 2, none⟩ = some (.int .i32 zr) ∧ w'.cell? ⟨b, o + j * 4 + 3, none⟩ = some (.bool zb))) ∧ (Ext (fun _ => False) W0 w' ∧ Ext (fun _ => False) w w') from fun w' hx => ⟨⟨CE.out _ hx.1, CZ.out _ hx.2⟩, hx⟩)
    have KZ := Lib.hid (show ∀ W : World, Ext (fun _ => False) W0 W ∧ Ext (fun _ => False) w W → Calls Tryz.prog 143 #[.agg #[.slice L.p0 d.ws.length L.c0, .slice L.p1 d.ms.length L.c1, .slice L.p2 d.ls.length L.c2, .slice L.p3 d.ns.length L.c3, .slice L.p4 d.ss.length L.c4], .agg #[.int .i64 za, .int .i64 zn, .int .i32 zr, .bool zb]] W fun e w' => e = .returned (.int .i64 k) ∧ (Ext (fun _ => False) W0 w' ∧ Ext (fun _ => False) w w') from fun W hx => (kind4_any W L d (DRH.out _ hx.2) hf za zn zr zb).mono fun e w' ⟨h1, h2⟩ => ⟨by rw [h1, hk], hx.1.trans h2 (fun _ _ h => h), hx.2.trans h2 (fun _ _ h => h)⟩)
    have D3 := Lib.hid (show Ext (fun _ => False) W0 wc.drew ∧ Ext (fun _ => False) w wc.drew from ⟨E3.out.drew, X3.out.drew⟩)
    clear hz hdz hk hR z0 z1 z2 z3 hkr
    go_wp2_with fail
    go_region_held3 (fun w' => ((w'.cell? ⟨w.heap.size, 0, none⟩ = some (.slice L.p0 d.ws.length L.c0) ∧ w'.cell? ⟨w.heap.size, 1, none⟩ = some (.slice L.p1 d.ms.length L.c1) ∧ w'.cell? ⟨w.heap.size, 2, none⟩ = some (.slice L.p2 d.ls.length L.c2) ∧ w'.cell? ⟨w.heap.size, 3, none⟩ = some (.slice L.p3 d.ns.length L.c3) ∧ w'.cell? ⟨w.heap.size, 4, none⟩ = some (.slice L.p4 d.ss.length L.c4)) ∧ (w'.cell? ⟨b, o + j * 4, none⟩ = some (.int .i64 za) ∧ w'.cell? ⟨b, o + j * 4 + 1, none⟩ = some (.int .i64 zn) ∧ w'.cell? ⟨b, o + j * 4 + 2, none⟩ = some (.int .i32 zr) ∧ w'.cell? ⟨b, o + j * 4 + 3, none⟩ = some (.bool zb))) ∧ (Ext (fun _ => False) W0 w' ∧ Ext (fun _ => False) w w'))
      (first | exact SZ.out _ D3.out | exact SZ.out _ G1.out)
      (first | (go_at_call 143; (with_reducible refine (KZ.out _ ?_).mono ?_); (exact D3.out); rintro e V1 ⟨rfl, hg1⟩; have G1 := Lib.hid hg1; clear hg1))
    clear SZ KZ CZ D3
    have FIN := Lib.hid (show nextR d (l.drop i) = (if k ≠ 3 then (j + R - i, sortT k) else if j + R < l.length ∧ 2 ≤ j + R - i then (j + R - i - 1, 5) else (j + R - i, 5)) from by
      have h1 := HD.out
      have hj := HJ.out
      by_cases hh : headSp d (l.drop i) = true
      · rw [if_pos hh] at hj
        subst hj
        have hk3 : k ≠ 3 := by
          rw [h1, HDZ.out] at hh
          simp only [headSp, Bool.and_eq_true, decide_eq_true_eq] at hh
          have := hh.2
          rw [HK.out] at this
          exact this
        rw [if_pos hk3]
        have hs := HS.out
        rw [h1] at hs hh ⊢
        rw [nextR_cons, if_neg hs, if_pos hh]
        have he : (l.drop (i + 1)).headD ⟨xa, xn, xr, xb⟩ = ⟨za, zn, zr, zb⟩ := by rw [HDZ.out]; rfl
        rw [he, HK.out, HRR.out]
        simp only [Prod.mk.injEq, and_true]
        omega
      · rw [if_neg hh] at hj
        subst hj
        have hs := HS.out
        have hxz : (⟨xa, xn, xr, xb⟩ : Cut.Item) = ⟨za, zn, zr, zb⟩ := by
          have := h1.symm.trans HDZ.out
          injection this
        have hrr := HRR.out
        have hlen : (l.drop j).length = l.length - j := List.length_drop
        rw [h1] at hs hh hrr hlen ⊢
        rw [nextR_cons, if_neg hs, if_neg hh, hxz, HK.out]
        rw [hxz] at hrr hlen
        by_cases hk3 : k = 3
        · subst hk3
          simp only [ne_eq, not_true_eq_false, ↓reduceIte]
          rw [hrr, hlen]
          by_cases hc : R < l.length - j ∧ 2 ≤ R
          · rw [if_pos hc, if_pos (by omega)]
            simp only [Prod.mk.injEq, and_true]
            omega
          · rw [if_neg hc, if_neg (by omega)]
            simp only [Prod.mk.injEq, and_true]
            omega
        · rw [if_pos hk3, if_pos hk3, hrr]
          simp only [Prod.mk.injEq, and_true]
          omega)
    have hij : i ≤ j := by
      have := HJ.out
      split at this <;> omega
    go_wp2_with fail
    go_loopw [11] (fun vn wr => ∃ m : Nat, vn = .int .i64 ((j + m : Nat) : Int) ∧ m ≤ R ∧ Ext (fun _ => False) W0 wr ∧ Ext (fun _ => False) w wr) (fun vn _ => j + R - (intOf vn).toNat)
    case atStart => exact ⟨0, rfl, Nat.zero_le _, G1.out.1, G1.out.2⟩
    case round =>
      obtain ⟨m, rfl, hm, hE4, hX4⟩ := hrel
      have E4 := Lib.hid hE4
      have X4 := Lib.hid hX4
      have D4 := Lib.hid (show Ext (fun _ => False) W0 wr.drew ∧ Ext (fun _ => False) w wr.drew from ⟨hE4.drew, hX4.drew⟩)
      clear hE4 hX4
      obtain ⟨n, hn⟩ : ∃ n, j + m = n := ⟨_, rfl⟩
      have HN := Lib.hid hn
      rw [hn]
      have hin : i ≤ n := by omega
      by_cases hnl : n < l.length
      · obtain ⟨y, hy⟩ : ∃ y, l[n]? = some y := ⟨_, List.getElem?_eq_getElem hnl⟩
        obtain ⟨b', o', hp, hyb, y0, y1, y2, y3⟩ := cellIt HR.out hy
        injection hp with hp
        injection hp with hp1 hp2
        subst hp1 hp2
        have RG := Lib.hid (run_get (d := d) (k := k) (l := l.drop j) (m := m) (x := y) (by rw [HRR.out]; exact hm) (by rw [List.getElem?_drop, hn]; exact hy))
        rw [HRR.out] at RG
        obtain ⟨ya, yn, yr, yb⟩ := y
        simp only at y0 y1 y2 y3
        have i3 : (n : Int) < (l.length : Int) := by omega
        have d2 : decide (n < l.length) = true := decide_eq_true hnl
        have d2' : decide ((n : Int) < (l.length : Int)) = true := decide_eq_true i3
        have CY := Lib.hid (show ∀ w', Ext (fun _ => False) w w' → (w'.cell? ⟨b, o + n * 4, none⟩ = some (.int .i64 ya) ∧ w'.cell? ⟨b, o + n * 4 + 1, none⟩ = some (.int .i64 yn) ∧ w'.cell? ⟨b, o + n * 4 + 2, none⟩ = some (.int .i32 yr) ∧ w'.cell? ⟨b, o + n * 4 + 3, none⟩ = some (.bool yb)) from fun w' hx => ⟨(hx.cell (p := ⟨b, _, none⟩) hyb (fun h => h)).trans y0, (hx.cell (p := ⟨b, _, none⟩) hyb (fun h => h)).trans y1, (hx.cell (p := ⟨b, _, none⟩) hyb (fun h => h)).trans y2, (hx.cell (p := ⟨b, _, none⟩) hyb (fun h => h)).trans y3⟩)
        have SS := Lib.hid (show ∀ w', Ext (fun _ => False) W0 w' ∧ Ext (fun _ => False) w w' → ((w'.cell? ⟨w.heap.size, 0, none⟩ = some (.slice L.p0 d.ws.length L.c0) ∧ w'.cell? ⟨w.heap.size, 1, none⟩ = some (.slice L.p1 d.ms.length L.c1) ∧ w'.cell? ⟨w.heap.size, 2, none⟩ = some (.slice L.p2 d.ls.length L.c2) ∧ w'.cell? ⟨w.heap.size, 3, none⟩ = some (.slice L.p3 d.ns.length L.c3) ∧ w'.cell? ⟨w.heap.size, 4, none⟩ = some (.slice L.p4 d.ss.length L.c4)) ∧ (w'.cell? ⟨b, o + n * 4, none⟩ = some (.int .i64 ya) ∧ w'.cell? ⟨b, o + n * 4 + 1, none⟩ = some (.int .i64 yn) ∧ w'.cell? ⟨b, o + n * 4 + 2, none⟩ = some (.int .i32 yr) ∧ w'.cell? ⟨b, o + n * 4 + 3, none⟩ = some (.bool yb))) ∧ (Ext (fun _ => False) W0 w' ∧ Ext (fun _ => False) w w') from fun w' hx => ⟨⟨CE.out _ hx.1, CY.out _ hx.2⟩, hx⟩)
        obtain ⟨ky, hky⟩ : ∃ k, kindI d ⟨ya, yn, yr, yb⟩ = k := ⟨_, rfl⟩
        have KY := Lib.hid (show ∀ W : World, Ext (fun _ => False) W0 W ∧ Ext (fun _ => False) w W → Calls Tryz.prog 143 #[.agg #[.slice L.p0 d.ws.length L.c0, .slice L.p1 d.ms.length L.c1, .slice L.p2 d.ls.length L.c2, .slice L.p3 d.ns.length L.c3, .slice L.p4 d.ss.length L.c4], .agg #[.int .i64 ya, .int .i64 yn, .int .i32 yr, .bool yb]] W fun e w' => e = .returned (.int .i64 ky) ∧ (Ext (fun _ => False) W0 w' ∧ Ext (fun _ => False) w w') from fun W hx => (kind4_any W L d (DRH.out _ hx.2) hf ya yn yr yb).mono fun e w' ⟨h1, h2⟩ => ⟨by rw [h1, hky], hx.1.trans h2 (fun _ _ h => h), hx.2.trans h2 (fun _ _ h => h)⟩)
        rw [hky] at RG
        clear hy hky y0 y1 y2 y3 hn
        by_cases hkk : ky = k
        · have q1 : (ky == k) = true := by simp [hkk]
          have hmr := RG.out.2 hkk
          clear hkk
          go_wp2_with fail
          go_region_held3 (fun w' => ((w'.cell? ⟨w.heap.size, 0, none⟩ = some (.slice L.p0 d.ws.length L.c0) ∧ w'.cell? ⟨w.heap.size, 1, none⟩ = some (.slice L.p1 d.ms.length L.c1) ∧ w'.cell? ⟨w.heap.size, 2, none⟩ = some (.slice L.p2 d.ls.length L.c2) ∧ w'.cell? ⟨w.heap.size, 3, none⟩ = some (.slice L.p3 d.ns.length L.c3) ∧ w'.cell? ⟨w.heap.size, 4, none⟩ = some (.slice L.p4 d.ss.length L.c4)) ∧ (w'.cell? ⟨b, o + n * 4, none⟩ = some (.int .i64 ya) ∧ w'.cell? ⟨b, o + n * 4 + 1, none⟩ = some (.int .i64 yn) ∧ w'.cell? ⟨b, o + n * 4 + 2, none⟩ = some (.int .i32 yr) ∧ w'.cell? ⟨b, o + n * 4 + 3, none⟩ = some (.bool yb))) ∧ (Ext (fun _ => False) W0 w' ∧ Ext (fun _ => False) w w'))
            (first | exact SS.out _ D4.out | exact SS.out _ G2.out)
            (first | (go_at_call 143; (with_reducible refine (KY.out _ ?_).mono ?_); (exact D4.out); rintro e V2 ⟨rfl, hg2⟩; have G2 := Lib.hid hg2; clear hg2))
          go_wp2_with fail
          go_roundw
          case rel => exact ⟨m + 1, by rw [show j + (m + 1) = n + 1 by have := HN.out; omega]; go_num, hmr, G2.out.1, G2.out.2⟩
          case measure => have := HN.out; simp [intOf]; omega
        · have q1 : (ky == k) = false := by simpa using hkk
          have hmR : m = R := by
            have : ¬ m < R := fun h => hkk (RG.out.1 h)
            omega
          have HM := Lib.hid hmR
          clear hkk hmR
          go_wp2_with fail
          go_region_held3 (fun w' => ((w'.cell? ⟨w.heap.size, 0, none⟩ = some (.slice L.p0 d.ws.length L.c0) ∧ w'.cell? ⟨w.heap.size, 1, none⟩ = some (.slice L.p1 d.ms.length L.c1) ∧ w'.cell? ⟨w.heap.size, 2, none⟩ = some (.slice L.p2 d.ls.length L.c2) ∧ w'.cell? ⟨w.heap.size, 3, none⟩ = some (.slice L.p3 d.ns.length L.c3) ∧ w'.cell? ⟨w.heap.size, 4, none⟩ = some (.slice L.p4 d.ss.length L.c4)) ∧ (w'.cell? ⟨b, o + n * 4, none⟩ = some (.int .i64 ya) ∧ w'.cell? ⟨b, o + n * 4 + 1, none⟩ = some (.int .i64 yn) ∧ w'.cell? ⟨b, o + n * 4 + 2, none⟩ = some (.int .i32 yr) ∧ w'.cell? ⟨b, o + n * 4 + 3, none⟩ = some (.bool yb))) ∧ (Ext (fun _ => False) W0 w' ∧ Ext (fun _ => False) w w'))
            (first | exact SS.out _ D4.out | exact SS.out _ G2.out)
            (first | (go_at_call 143; (with_reducible refine (KY.out _ ?_).mono ?_); (exact D4.out); rintro e V2 ⟨rfl, hg2⟩; have G2 := Lib.hid hg2; clear hg2))
          have q2 : ((n : Int) == (l.length : Int)) = false := by rw [beq_eq_false_iff_ne]; omega
          have FN := Lib.hid (show nextR d (l.drop i) = (if k ≠ 3 then (n - i, sortT k) else if n < l.length ∧ 2 ≤ n - i then (n - i - 1, 5) else (n - i, 5)) from by
            rw [FIN.out, show j + R = n by have := HN.out; have := HM.out; omega])
          obtain ⟨t, ht⟩ : ∃ t, n - i = t := ⟨_, rfl⟩
          have j2 : (n : Int) - (i : Int) = (t : Int) := by omega
          rw [ht] at FN
          have htb : t ≤ 1048576 := by have := HN.out; omega
          clear ht
          rcases HKR.out with rfl | rfl | rfl | rfl
          · go_wp2_with fail
            refine bodyPost_ret (v := .tuple #[.int .i64 (t : Nat), .int .i64 2, .bool true]) (by simp [results, Tryz.f120, go_sem]) rfl ?_
            exact NextEnd.mk' (by rw [FN.out]; rfl) G2.out.2
          · go_wp2_with fail
            refine bodyPost_ret (v := .tuple #[.int .i64 (t : Nat), .int .i64 3, .bool true]) (by simp [results, Tryz.f120, go_sem]) rfl ?_
            exact NextEnd.mk' (by rw [FN.out]; rfl) G2.out.2
          · have d3 : decide (n < l.length) = true := decide_eq_true hnl
            by_cases h2 : 2 ≤ t
            · have d4 : decide ((t : Int) ≥ 2) = true := decide_eq_true (by omega)
              have d4' : decide (2 ≤ t) = true := decide_eq_true h2
              obtain ⟨t1, ht1⟩ : ∃ t1, t - 1 = t1 := ⟨_, rfl⟩
              have j3 : (t : Int) - 1 = (t1 : Int) := by omega
              have FM := Lib.hid (show nextR d (l.drop i) = (t1, 5) from by rw [FN.out, if_neg (fun h => h rfl), if_pos ⟨hnl, h2⟩, ht1])
              have ht1b : t1 ≤ 1048576 := by omega
              clear ht1
              go_wp2_with fail
              refine bodyPost_ret (v := .tuple #[.int .i64 (t1 : Nat), .int .i64 5, .bool true]) (by simp [results, Tryz.f120, go_sem]) rfl ?_
              exact NextEnd.mk' (FM.out) G2.out.2
            · have d4 : decide ((t : Int) ≥ 2) = false := decide_eq_false (by omega)
              have d4' : decide (2 ≤ t) = false := decide_eq_false h2
              have FM := Lib.hid (show nextR d (l.drop i) = (t, 5) from by rw [FN.out, if_neg (fun h => h rfl), if_neg (fun h => h2 h.2)])
              go_wp2_with fail
              refine bodyPost_ret (v := .tuple #[.int .i64 (t : Nat), .int .i64 5, .bool true]) (by simp [results, Tryz.f120, go_sem]) rfl ?_
              exact NextEnd.mk' (FM.out) G2.out.2
          · go_wp2_with fail
            refine bodyPost_ret (v := .tuple #[.int .i64 (t : Nat), .int .i64 4, .bool true]) (by simp [results, Tryz.f120, go_sem]) rfl ?_
            exact NextEnd.mk' (by rw [FN.out]; rfl) G2.out.2
      · have i3 : ¬ (n : Int) < (l.length : Int) := by omega
        have d2 : decide (n < l.length) = false := decide_eq_false hnl
        have d2' : decide ((n : Int) < (l.length : Int)) = false := decide_eq_false i3
        have hnn : n = l.length := by omega
        have q2 : ((n : Int) == (l.length : Int)) = true := by simp [hnn]
        have FN := Lib.hid (show nextR d (l.drop i) = (if k ≠ 3 then (n - i, sortT k) else if n < l.length ∧ 2 ≤ n - i then (n - i - 1, 5) else (n - i, 5)) from by
          rw [FIN.out, show j + R = n by omega])
        clear hnn hn
        go_wp2_with fail
        go_quiet (fail)
        have G2 := Lib.hid (And.intro (E4.out.drewN nq) (X4.out.drewN nq))
        obtain ⟨t, ht⟩ : ∃ t, n - i = t := ⟨_, rfl⟩
        have j2 : (n : Int) - (i : Int) = (t : Int) := by omega
        rw [ht] at FN
        have htb : t ≤ 1048576 := by have := HN.out; omega
        clear ht
        rcases HKR.out with rfl | rfl | rfl | rfl
        · go_wp2_with fail
          refine bodyPost_ret (v := .tuple #[.int .i64 (t : Nat), .int .i64 2, .bool true]) (by simp [results, Tryz.f120, go_sem]) rfl ?_
          exact NextEnd.mk' (by rw [FN.out]; rfl) G2.out.2
        · go_wp2_with fail
          refine bodyPost_ret (v := .tuple #[.int .i64 (t : Nat), .int .i64 3, .bool true]) (by simp [results, Tryz.f120, go_sem]) rfl ?_
          exact NextEnd.mk' (by rw [FN.out]; rfl) G2.out.2
        · have FM := Lib.hid (show nextR d (l.drop i) = (t, 5) from by rw [FN.out, if_neg (fun h => h rfl), if_neg (fun h => hnl h.1)])
          go_wp2_with fail
          refine bodyPost_ret (v := .tuple #[.int .i64 (t : Nat), .int .i64 5, .bool true]) (by simp [results, Tryz.f120, go_sem]) rfl ?_
          exact NextEnd.mk' (FM.out) G2.out.2
        · go_wp2_with fail
          refine bodyPost_ret (v := .tuple #[.int .i64 (t : Nat), .int .i64 4, .bool true]) (by simp [results, Tryz.f120, go_sem]) rfl ?_
          exact NextEnd.mk' (by rw [FN.out]; rfl) G2.out.2
end Go.Proofs.YtigpaaelggnffaaGreatDoor.R2
