/- The document's pre-tokens (tesseraref12), walked: is, short; tesseraref4.Of, Kind. -/
import Derived.Test.YtigpaaelggnffaaGreatDoorRef12N
import Derived.Test.YtigpaaelggnffaaGreatDoorRef2I
namespace Go.Proofs.YtigpaaelggnffaaGreatDoor.R2
open Go.RowKit Go.Proofs.YtigpaaelggnffaaGreatDoor.Lib Go.Proofs.YtigpaaelggnffaaGreatDoor.Sl Go.Proofs.YtigpaaelggnffaaGreatDoor.Cut
set_option linter.unusedVariables false
set_option linter.unusedSimpArgs false

def isQ (r : Nat) (b : Bool) (q : Int) : Bool := !b && decide ((r : Int) = q)
theorem isB_q (x : Cut.Item) (n : Nat) : isB x n = isQ x.r x.bad (n : Int) := by
  unfold isB isQ
  congr 1
  exact decide_eq_decide.2 (by omega)
abbrev itObj (a n r : Nat) (b : Bool) : Obj := .cells #[.int .i64 a, .int .i64 n, .int .i32 r, .bool b] 207
theorem is_any (a n r : Nat) (b : Bool) (q : Int) (w : World) : Calls Tryz.prog 142 #[.agg #[.int .i64 a, .int .i64 n, .int .i32 r, .bool b], .int .i32 q] w fun e w' => e = .returned (.bool (isQ r b q)) ∧ w' = w.alloc (itObj a n r b) := by
  cases b with
  | true =>
    go_enter Tryz.func142, Tryz.ntmps142
    go_wp2_with fail
    go_ret
    exact ⟨rfl, rfl⟩
  | false =>
    obtain ⟨t, ht⟩ : ∃ t, decide ((r : Int) = q) = t := ⟨_, rfl⟩
    have E := Lib.hid (show isQ r false q = t from by unfold isQ; rw [ht]; rfl)
    have hq : ((r : Int) == q) = t := by
      rw [← ht]
      rfl
    clear ht
    go_enter Tryz.func142, Tryz.ntmps142
    go_wp2_with fail
    go_ret
    exact ⟨by rw [E.out]; rfl, rfl⟩
theorem is_ext (a n r : Nat) (b : Bool) (q : Int) (w : World) : Calls Tryz.prog 142 #[.agg #[.int .i64 a, .int .i64 n, .int .i32 r, .bool b], .int .i32 q] w fun e w' => e = .returned (.bool (isQ r b q)) ∧ Ext (fun _ => False) w w' :=
  (is_any a n r b q w).mono fun e w' ⟨h1, h2⟩ => ⟨h1, h2 ▸ (Ext.refl _ _).alloc _⟩
theorem cellIt {w : World} {p : Option Addr} {l : List Cut.Item} (h : Rd eIt w p l) {i : Nat} {x : Cut.Item} (hi : l[i]? = some x) : ∃ b o, p = some ⟨b, o, none⟩ ∧ b < w.heap.size ∧
    w.cell? ⟨b, o + i * 4, none⟩ = some (.int .i64 x.at_) ∧ w.cell? ⟨b, o + i * 4 + 1, none⟩ = some (.int .i64 x.n) ∧ w.cell? ⟨b, o + i * 4 + 2, none⟩ = some (.int .i32 x.r) ∧ w.cell? ⟨b, o + i * 4 + 3, none⟩ = some (.bool x.bad) := by
  obtain ⟨b, o, hp, hb, hc⟩ := h i x hi
  exact ⟨b, o, hp, hb, by simpa [eIt] using hc 0 (by decide), by simpa [eIt] using hc 1 (by decide), by simpa [eIt] using hc 2 (by decide), by simpa [eIt] using hc 3 (by decide)⟩
theorem isQ_cls (r : Nat) (b : Bool) : (isQ r b 115 = true ∧ isQ r b 116 = false ∧ isQ r b 109 = false ∧ isQ r b 100 = false ∧ isQ r b 114 = false ∧ isQ r b 118 = false ∧ isQ r b 108 = false) ∨
    (isQ r b 115 = false ∧ isQ r b 116 = true ∧ isQ r b 109 = false ∧ isQ r b 100 = false ∧ isQ r b 114 = false ∧ isQ r b 118 = false ∧ isQ r b 108 = false) ∨
    (isQ r b 115 = false ∧ isQ r b 116 = false ∧ isQ r b 109 = true ∧ isQ r b 100 = false ∧ isQ r b 114 = false ∧ isQ r b 118 = false ∧ isQ r b 108 = false) ∨
    (isQ r b 115 = false ∧ isQ r b 116 = false ∧ isQ r b 109 = false ∧ isQ r b 100 = true ∧ isQ r b 114 = false ∧ isQ r b 118 = false ∧ isQ r b 108 = false) ∨
    (isQ r b 115 = false ∧ isQ r b 116 = false ∧ isQ r b 109 = false ∧ isQ r b 100 = false ∧ isQ r b 114 = true ∧ isQ r b 118 = false ∧ isQ r b 108 = false) ∨
    (isQ r b 115 = false ∧ isQ r b 116 = false ∧ isQ r b 109 = false ∧ isQ r b 100 = false ∧ isQ r b 114 = false ∧ isQ r b 118 = true ∧ isQ r b 108 = false) ∨
    (isQ r b 115 = false ∧ isQ r b 116 = false ∧ isQ r b 109 = false ∧ isQ r b 100 = false ∧ isQ r b 114 = false ∧ isQ r b 118 = false ∧ isQ r b 108 = true) ∨
    (isQ r b 115 = false ∧ isQ r b 116 = false ∧ isQ r b 109 = false ∧ isQ r b 100 = false ∧ isQ r b 114 = false ∧ isQ r b 118 = false ∧ isQ r b 108 = false) := by
  unfold isQ
  cases b with
  | true => simp
  | false =>
    simp only [Bool.not_false, Bool.true_and, decide_eq_true_eq, decide_eq_false_iff_not]
    omega
/-- The same by isQ. -/
theorem shortQ {x y : Cut.Item} {t : List Cut.Item} : shortI (x :: y :: t) =
    if isQ x.r x.bad 39 = true then
      if isQ y.r y.bad 115 = true ∨ isQ y.r y.bad 116 = true ∨ isQ y.r y.bad 109 = true ∨ isQ y.r y.bad 100 = true then 2
      else if isQ y.r y.bad 114 = true ∨ isQ y.r y.bad 118 = true ∨ isQ y.r y.bad 108 = true then
        match t with
        | z :: _ => if (isQ y.r y.bad 108 = true ∧ isQ z.r z.bad 108 = true) ∨ (isQ y.r y.bad 108 = false ∧ isQ z.r z.bad 101 = true) then 3 else 0
        | [] => 0
      else 0
    else 0 := by
  rw [shortI_two]
  simp only [isB_q]
  rfl
def ShortEnd (w : World) (l : List Cut.Item) (i : Nat) (e : Ending) (w' : World) : Prop := e = .returned (.tuple #[.int .i64 (shortI (l.drop i) : Nat), .bool true]) ∧ Ext (fun _ => False) w w'
theorem ShortEnd.mk' {w w' : World} {l : List Cut.Item} {i n : Nat} (h : shortI (l.drop i) = n) (hx : Ext (fun _ => False) w w') : ShortEnd w l i (.returned (.tuple #[.int .i64 (n : Nat), .bool true])) w' := ⟨by rw [h], hx⟩
set_option maxRecDepth 100000 in
set_option maxHeartbeats 16000000 in
theorem short_any {w : World} {p : Option Addr} {l : List Cut.Item} (h : Rd eIt w p l) (c i : Nat) (hi : i < l.length) (hl : l.length ≤ 1048576) : Calls Tryz.prog 141 #[.slice p l.length c, .int .i64 i, .bool true] w fun e w' => ShortEnd w l i e w' := by
  obtain ⟨x, hx⟩ : ∃ x, l[i]? = some x := ⟨_, List.getElem?_eq_getElem hi⟩
  have hd : l.drop i = x :: l.drop (i + 1) := Sl.drop_cons hx
  obtain ⟨b, o, rfl, hb, x0, x1, x2, x3⟩ := cellIt h hx
  obtain ⟨xa, xn, xr, xb⟩ := x
  simp only at x0 x1 x2 x3
  have i0 : (i : Int) < (l.length : Int) := by omega
  have HR := Lib.hid h
  have HX := Lib.hid hx
  have HD := Lib.hid hd
  clear h hx hd
  have XT := Lib.hid (Ext.refl (fun _ => False) w)
  cases q39 : isQ xr xb 39 with
  | false =>
    have E := Lib.hid (show shortI (l.drop i) = 0 from by
      rw [HD.out]
      cases hd2 : l.drop (i + 1) with
      | nil => rfl
      | cons y t => rw [shortQ, if_neg (by simp only; rw [q39]; decide)])
    go_enter Tryz.func141, Tryz.ntmps141
    go_wp2_with (go_at_call 142; refine (is_ext _ _ _ _ _ _).mono ?_; rintro e w' ⟨rfl, hx⟩; have XT := Lib.hid (XT.out.trans hx (fun _ _ h => h)); clear hx)
    go_ret2
    exact ShortEnd.mk' (n := 0) (E.out) XT.out
  | true =>
    by_cases h1 : i + 1 < l.length
    · obtain ⟨y, hy⟩ : ∃ y, l[i + 1]? = some y := ⟨_, List.getElem?_eq_getElem h1⟩
      have hd2 : l.drop (i + 1) = y :: l.drop (i + 1 + 1) := Sl.drop_cons hy
      obtain ⟨b', o', hp, hb', y0, y1, y2, y3⟩ := cellIt HR.out hy
      injection hp with hp
      injection hp with hp1 hp2
      subst hp1 hp2
      obtain ⟨ya, yn, yr, yb⟩ := y
      simp only at y0 y1 y2 y3
      obtain ⟨j, hj⟩ : ∃ j, i + 1 = j := ⟨_, rfl⟩
      have j1 : (i : Int) + 1 = (j : Int) := by omega
      rw [hj] at y0 y1 y2 y3 hy hd2 h1
      have i1 : (j : Int) < (l.length : Int) := by omega
      have d1 : decide ((j : Int) ≥ (l.length : Int)) = false := decide_eq_false (by omega)
      have d1' : ¬ (l.length ≤ j) := by omega
      have CY := Lib.hid (show ∀ w', Ext (fun _ => False) w w' → w'.cell? ⟨b, o + j * 4, none⟩ = some (.int .i64 ya) ∧ w'.cell? ⟨b, o + j * 4 + 1, none⟩ = some (.int .i64 yn) ∧ w'.cell? ⟨b, o + j * 4 + 2, none⟩ = some (.int .i32 yr) ∧ w'.cell? ⟨b, o + j * 4 + 3, none⟩ = some (.bool yb) from fun w' hx => ⟨(hx.cell (p := ⟨b, _, none⟩) hb (fun h => h)).trans y0, (hx.cell (p := ⟨b, _, none⟩) hb (fun h => h)).trans y1, (hx.cell (p := ⟨b, _, none⟩) hb (fun h => h)).trans y2, (hx.cell (p := ⟨b, _, none⟩) hb (fun h => h)).trans y3⟩)
      have HY := Lib.hid hy
      have HD2 := Lib.hid hd2
      have HJ := Lib.hid hj
      have D2 := Lib.hid (show l.drop i = ⟨xa, xn, xr, xb⟩ :: ⟨ya, yn, yr, yb⟩ :: l.drop (j + 1) from by rw [HD.out, HJ.out, HD2.out])
      clear hy hd2 hj
      rcases isQ_cls yr yb with ⟨s1, s2, s3, s4, s5, s6, s7⟩ | ⟨s1, s2, s3, s4, s5, s6, s7⟩ | ⟨s1, s2, s3, s4, s5, s6, s7⟩ | ⟨s1, s2, s3, s4, s5, s6, s7⟩ | ⟨s1, s2, s3, s4, s5, s6, s7⟩ | ⟨s1, s2, s3, s4, s5, s6, s7⟩ | ⟨s1, s2, s3, s4, s5, s6, s7⟩ | ⟨s1, s2, s3, s4, s5, s6, s7⟩
      · have E := Lib.hid (show shortI (l.drop i) = 2 from by rw [D2.out, shortQ]; simp only [q39, s1, s2, s3, s4]; simp)
        go_enter Tryz.func141, Tryz.ntmps141
        go_wp2_with (go_at_call 142; refine (is_ext _ _ _ _ _ _).mono ?_; rintro e w' ⟨rfl, hx⟩; have XT := Lib.hid (XT.out.trans hx (fun _ _ h => h)); obtain ⟨y0, y1, y2, y3⟩ := CY.out _ XT.out; clear hx)
        go_ret2
        exact ShortEnd.mk' (n := 2) (E.out) XT.out
      · have E := Lib.hid (show shortI (l.drop i) = 2 from by rw [D2.out, shortQ]; simp only [q39, s1, s2, s3, s4]; simp)
        go_enter Tryz.func141, Tryz.ntmps141
        go_wp2_with (go_at_call 142; refine (is_ext _ _ _ _ _ _).mono ?_; rintro e w' ⟨rfl, hx⟩; have XT := Lib.hid (XT.out.trans hx (fun _ _ h => h)); obtain ⟨y0, y1, y2, y3⟩ := CY.out _ XT.out; clear hx)
        go_ret2
        exact ShortEnd.mk' (n := 2) (E.out) XT.out
      · have E := Lib.hid (show shortI (l.drop i) = 2 from by rw [D2.out, shortQ]; simp only [q39, s1, s2, s3, s4]; simp)
        go_enter Tryz.func141, Tryz.ntmps141
        go_wp2_with (go_at_call 142; refine (is_ext _ _ _ _ _ _).mono ?_; rintro e w' ⟨rfl, hx⟩; have XT := Lib.hid (XT.out.trans hx (fun _ _ h => h)); obtain ⟨y0, y1, y2, y3⟩ := CY.out _ XT.out; clear hx)
        go_ret2
        exact ShortEnd.mk' (n := 2) (E.out) XT.out
      · have E := Lib.hid (show shortI (l.drop i) = 2 from by rw [D2.out, shortQ]; simp only [q39, s1, s2, s3, s4]; simp)
        go_enter Tryz.func141, Tryz.ntmps141
        go_wp2_with (go_at_call 142; refine (is_ext _ _ _ _ _ _).mono ?_; rintro e w' ⟨rfl, hx⟩; have XT := Lib.hid (XT.out.trans hx (fun _ _ h => h)); obtain ⟨y0, y1, y2, y3⟩ := CY.out _ XT.out; clear hx)
        go_ret2
        exact ShortEnd.mk' (n := 2) (E.out) XT.out
      · by_cases h2 : j + 1 < l.length
        · obtain ⟨z, hz⟩ : ∃ z, l[j + 1]? = some z := ⟨_, List.getElem?_eq_getElem h2⟩
          have hd3 : l.drop (j + 1) = z :: l.drop (j + 1 + 1) := Sl.drop_cons hz
          obtain ⟨b', o', hp, hb', z0, z1, z2, z3⟩ := cellIt HR.out hz
          injection hp with hp
          injection hp with hp1 hp2
          subst hp1 hp2
          obtain ⟨za, zn, zr, zb⟩ := z
          simp only at z0 z1 z2 z3
          obtain ⟨m, hm⟩ : ∃ m, j + 1 = m := ⟨_, rfl⟩
          have j2 : (i : Int) + 2 = (m : Int) := by omega
          rw [hm] at z0 z1 z2 z3 hz hd3 h2
          have i2 : (m : Int) < (l.length : Int) := by omega
          have d2 : decide ((m : Int) ≥ (l.length : Int)) = false := decide_eq_false (by omega)
          have d2' : ¬ (l.length ≤ m) := by omega
          have CZ := Lib.hid (show ∀ w', Ext (fun _ => False) w w' → w'.cell? ⟨b, o + m * 4, none⟩ = some (.int .i64 za) ∧ w'.cell? ⟨b, o + m * 4 + 1, none⟩ = some (.int .i64 zn) ∧ w'.cell? ⟨b, o + m * 4 + 2, none⟩ = some (.int .i32 zr) ∧ w'.cell? ⟨b, o + m * 4 + 3, none⟩ = some (.bool zb) from fun w' hx => ⟨(hx.cell (p := ⟨b, _, none⟩) hb (fun h => h)).trans z0, (hx.cell (p := ⟨b, _, none⟩) hb (fun h => h)).trans z1, (hx.cell (p := ⟨b, _, none⟩) hb (fun h => h)).trans z2, (hx.cell (p := ⟨b, _, none⟩) hb (fun h => h)).trans z3⟩)
          have HD3 := Lib.hid hd3
          have HM := Lib.hid hm
          have D3 := Lib.hid (show l.drop i = ⟨xa, xn, xr, xb⟩ :: ⟨ya, yn, yr, yb⟩ :: ⟨za, zn, zr, zb⟩ :: l.drop (m + 1) from by rw [D2.out, HM.out, HD3.out])
          clear hz hd3 hm
          cases q5 : isQ zr zb 101 with
          | true =>
            have E := Lib.hid (show shortI (l.drop i) = 3 from by rw [D3.out, shortQ]; simp only [q39, s1, s2, s3, s4, s5, s6, s7, q5]; simp)
            go_enter Tryz.func141, Tryz.ntmps141
            go_wp2_with (go_at_call 142; refine (is_ext _ _ _ _ _ _).mono ?_; rintro e w' ⟨rfl, hx⟩; have XT := Lib.hid (XT.out.trans hx (fun _ _ h => h)); obtain ⟨y0, y1, y2, y3⟩ := CY.out _ XT.out; obtain ⟨z0, z1, z2, z3⟩ := CZ.out _ XT.out; clear hx)
            go_ret2
            exact ShortEnd.mk' (n := 3) (E.out) XT.out
          | false =>
            have E := Lib.hid (show shortI (l.drop i) = 0 from by rw [D3.out, shortQ]; simp only [q39, s1, s2, s3, s4, s5, s6, s7, q5]; simp)
            go_enter Tryz.func141, Tryz.ntmps141
            go_wp2_with (go_at_call 142; refine (is_ext _ _ _ _ _ _).mono ?_; rintro e w' ⟨rfl, hx⟩; have XT := Lib.hid (XT.out.trans hx (fun _ _ h => h)); obtain ⟨y0, y1, y2, y3⟩ := CY.out _ XT.out; obtain ⟨z0, z1, z2, z3⟩ := CZ.out _ XT.out; clear hx)
            go_ret2
            exact ShortEnd.mk' (n := 0) (E.out) XT.out
        · have E := Lib.hid (show shortI (l.drop i) = 0 from by
            rw [D2.out, List.drop_eq_nil_of_le (show l.length ≤ j + 1 by omega), shortQ]
            simp only [q39, s1, s2, s3, s4, s5, s6, s7]; simp)
          obtain ⟨m, hm⟩ : ∃ m, j + 1 = m := ⟨_, rfl⟩
          have j2 : (i : Int) + 2 = (m : Int) := by omega
          have d2 : decide ((m : Int) ≥ (l.length : Int)) = true := decide_eq_true (by omega)
          have d2' : l.length ≤ m := by omega
          clear hm
          go_enter Tryz.func141, Tryz.ntmps141
          go_wp2_with (go_at_call 142; refine (is_ext _ _ _ _ _ _).mono ?_; rintro e w' ⟨rfl, hx⟩; have XT := Lib.hid (XT.out.trans hx (fun _ _ h => h)); obtain ⟨y0, y1, y2, y3⟩ := CY.out _ XT.out; clear hx)
          go_ret2
          exact ShortEnd.mk' (n := 0) (E.out) XT.out
      · by_cases h2 : j + 1 < l.length
        · obtain ⟨z, hz⟩ : ∃ z, l[j + 1]? = some z := ⟨_, List.getElem?_eq_getElem h2⟩
          have hd3 : l.drop (j + 1) = z :: l.drop (j + 1 + 1) := Sl.drop_cons hz
          obtain ⟨b', o', hp, hb', z0, z1, z2, z3⟩ := cellIt HR.out hz
          injection hp with hp
          injection hp with hp1 hp2
          subst hp1 hp2
          obtain ⟨za, zn, zr, zb⟩ := z
          simp only at z0 z1 z2 z3
          obtain ⟨m, hm⟩ : ∃ m, j + 1 = m := ⟨_, rfl⟩
          have j2 : (i : Int) + 2 = (m : Int) := by omega
          rw [hm] at z0 z1 z2 z3 hz hd3 h2
          have i2 : (m : Int) < (l.length : Int) := by omega
          have d2 : decide ((m : Int) ≥ (l.length : Int)) = false := decide_eq_false (by omega)
          have d2' : ¬ (l.length ≤ m) := by omega
          have CZ := Lib.hid (show ∀ w', Ext (fun _ => False) w w' → w'.cell? ⟨b, o + m * 4, none⟩ = some (.int .i64 za) ∧ w'.cell? ⟨b, o + m * 4 + 1, none⟩ = some (.int .i64 zn) ∧ w'.cell? ⟨b, o + m * 4 + 2, none⟩ = some (.int .i32 zr) ∧ w'.cell? ⟨b, o + m * 4 + 3, none⟩ = some (.bool zb) from fun w' hx => ⟨(hx.cell (p := ⟨b, _, none⟩) hb (fun h => h)).trans z0, (hx.cell (p := ⟨b, _, none⟩) hb (fun h => h)).trans z1, (hx.cell (p := ⟨b, _, none⟩) hb (fun h => h)).trans z2, (hx.cell (p := ⟨b, _, none⟩) hb (fun h => h)).trans z3⟩)
          have HD3 := Lib.hid hd3
          have HM := Lib.hid hm
          have D3 := Lib.hid (show l.drop i = ⟨xa, xn, xr, xb⟩ :: ⟨ya, yn, yr, yb⟩ :: ⟨za, zn, zr, zb⟩ :: l.drop (m + 1) from by rw [D2.out, HM.out, HD3.out])
          clear hz hd3 hm
          cases q5 : isQ zr zb 101 with
          | true =>
            have E := Lib.hid (show shortI (l.drop i) = 3 from by rw [D3.out, shortQ]; simp only [q39, s1, s2, s3, s4, s5, s6, s7, q5]; simp)
            go_enter Tryz.func141, Tryz.ntmps141
            go_wp2_with (go_at_call 142; refine (is_ext _ _ _ _ _ _).mono ?_; rintro e w' ⟨rfl, hx⟩; have XT := Lib.hid (XT.out.trans hx (fun _ _ h => h)); obtain ⟨y0, y1, y2, y3⟩ := CY.out _ XT.out; obtain ⟨z0, z1, z2, z3⟩ := CZ.out _ XT.out; clear hx)
            go_ret2
            exact ShortEnd.mk' (n := 3) (E.out) XT.out
          | false =>
            have E := Lib.hid (show shortI (l.drop i) = 0 from by rw [D3.out, shortQ]; simp only [q39, s1, s2, s3, s4, s5, s6, s7, q5]; simp)
            go_enter Tryz.func141, Tryz.ntmps141
            go_wp2_with (go_at_call 142; refine (is_ext _ _ _ _ _ _).mono ?_; rintro e w' ⟨rfl, hx⟩; have XT := Lib.hid (XT.out.trans hx (fun _ _ h => h)); obtain ⟨y0, y1, y2, y3⟩ := CY.out _ XT.out; obtain ⟨z0, z1, z2, z3⟩ := CZ.out _ XT.out; clear hx)
            go_ret2
            exact ShortEnd.mk' (n := 0) (E.out) XT.out
        · have E := Lib.hid (show shortI (l.drop i) = 0 from by
            rw [D2.out, List.drop_eq_nil_of_le (show l.length ≤ j + 1 by omega), shortQ]
            simp only [q39, s1, s2, s3, s4, s5, s6, s7]; simp)
          obtain ⟨m, hm⟩ : ∃ m, j + 1 = m := ⟨_, rfl⟩
          have j2 : (i : Int) + 2 = (m : Int) := by omega
          have d2 : decide ((m : Int) ≥ (l.length : Int)) = true := decide_eq_true (by omega)
          have d2' : l.length ≤ m := by omega
          clear hm
          go_enter Tryz.func141, Tryz.ntmps141
          go_wp2_with (go_at_call 142; refine (is_ext _ _ _ _ _ _).mono ?_; rintro e w' ⟨rfl, hx⟩; have XT := Lib.hid (XT.out.trans hx (fun _ _ h => h)); obtain ⟨y0, y1, y2, y3⟩ := CY.out _ XT.out; clear hx)
          go_ret2
          exact ShortEnd.mk' (n := 0) (E.out) XT.out
      · by_cases h2 : j + 1 < l.length
        · obtain ⟨z, hz⟩ : ∃ z, l[j + 1]? = some z := ⟨_, List.getElem?_eq_getElem h2⟩
          have hd3 : l.drop (j + 1) = z :: l.drop (j + 1 + 1) := Sl.drop_cons hz
          obtain ⟨b', o', hp, hb', z0, z1, z2, z3⟩ := cellIt HR.out hz
          injection hp with hp
          injection hp with hp1 hp2
          subst hp1 hp2
          obtain ⟨za, zn, zr, zb⟩ := z
          simp only at z0 z1 z2 z3
          obtain ⟨m, hm⟩ : ∃ m, j + 1 = m := ⟨_, rfl⟩
          have j2 : (i : Int) + 2 = (m : Int) := by omega
          rw [hm] at z0 z1 z2 z3 hz hd3 h2
          have i2 : (m : Int) < (l.length : Int) := by omega
          have d2 : decide ((m : Int) ≥ (l.length : Int)) = false := decide_eq_false (by omega)
          have d2' : ¬ (l.length ≤ m) := by omega
          have CZ := Lib.hid (show ∀ w', Ext (fun _ => False) w w' → w'.cell? ⟨b, o + m * 4, none⟩ = some (.int .i64 za) ∧ w'.cell? ⟨b, o + m * 4 + 1, none⟩ = some (.int .i64 zn) ∧ w'.cell? ⟨b, o + m * 4 + 2, none⟩ = some (.int .i32 zr) ∧ w'.cell? ⟨b, o + m * 4 + 3, none⟩ = some (.bool zb) from fun w' hx => ⟨(hx.cell (p := ⟨b, _, none⟩) hb (fun h => h)).trans z0, (hx.cell (p := ⟨b, _, none⟩) hb (fun h => h)).trans z1, (hx.cell (p := ⟨b, _, none⟩) hb (fun h => h)).trans z2, (hx.cell (p := ⟨b, _, none⟩) hb (fun h => h)).trans z3⟩)
          have HD3 := Lib.hid hd3
          have HM := Lib.hid hm
          have D3 := Lib.hid (show l.drop i = ⟨xa, xn, xr, xb⟩ :: ⟨ya, yn, yr, yb⟩ :: ⟨za, zn, zr, zb⟩ :: l.drop (m + 1) from by rw [D2.out, HM.out, HD3.out])
          clear hz hd3 hm
          cases q5 : isQ zr zb 108 with
          | true =>
            have E := Lib.hid (show shortI (l.drop i) = 3 from by rw [D3.out, shortQ]; simp only [q39, s1, s2, s3, s4, s5, s6, s7, q5]; simp)
            go_enter Tryz.func141, Tryz.ntmps141
            go_wp2_with (go_at_call 142; refine (is_ext _ _ _ _ _ _).mono ?_; rintro e w' ⟨rfl, hx⟩; have XT := Lib.hid (XT.out.trans hx (fun _ _ h => h)); obtain ⟨y0, y1, y2, y3⟩ := CY.out _ XT.out; obtain ⟨z0, z1, z2, z3⟩ := CZ.out _ XT.out; clear hx)
            go_ret2
            exact ShortEnd.mk' (n := 3) (E.out) XT.out
          | false =>
            have E := Lib.hid (show shortI (l.drop i) = 0 from by rw [D3.out, shortQ]; simp only [q39, s1, s2, s3, s4, s5, s6, s7, q5]; simp)
            go_enter Tryz.func141, Tryz.ntmps141
            go_wp2_with (go_at_call 142; refine (is_ext _ _ _ _ _ _).mono ?_; rintro e w' ⟨rfl, hx⟩; have XT := Lib.hid (XT.out.trans hx (fun _ _ h => h)); obtain ⟨y0, y1, y2, y3⟩ := CY.out _ XT.out; obtain ⟨z0, z1, z2, z3⟩ := CZ.out _ XT.out; clear hx)
            go_ret2
            exact ShortEnd.mk' (n := 0) (E.out) XT.out
        · have E := Lib.hid (show shortI (l.drop i) = 0 from by
            rw [D2.out, List.drop_eq_nil_of_le (show l.length ≤ j + 1 by omega), shortQ]
            simp only [q39, s1, s2, s3, s4, s5, s6, s7]; simp)
          obtain ⟨m, hm⟩ : ∃ m, j + 1 = m := ⟨_, rfl⟩
          have j2 : (i : Int) + 2 = (m : Int) := by omega
          have d2 : decide ((m : Int) ≥ (l.length : Int)) = true := decide_eq_true (by omega)
          have d2' : l.length ≤ m := by omega
          clear hm
          go_enter Tryz.func141, Tryz.ntmps141
          go_wp2_with (go_at_call 142; refine (is_ext _ _ _ _ _ _).mono ?_; rintro e w' ⟨rfl, hx⟩; have XT := Lib.hid (XT.out.trans hx (fun _ _ h => h)); obtain ⟨y0, y1, y2, y3⟩ := CY.out _ XT.out; clear hx)
          go_ret2
          exact ShortEnd.mk' (n := 0) (E.out) XT.out
      · have E := Lib.hid (show shortI (l.drop i) = 0 from by rw [D2.out, shortQ]; simp only [q39, s1, s2, s3, s4, s5, s6, s7]; simp)
        go_enter Tryz.func141, Tryz.ntmps141
        go_wp2_with (go_at_call 142; refine (is_ext _ _ _ _ _ _).mono ?_; rintro e w' ⟨rfl, hx⟩; have XT := Lib.hid (XT.out.trans hx (fun _ _ h => h)); obtain ⟨y0, y1, y2, y3⟩ := CY.out _ XT.out; clear hx)
        go_ret2
        exact ShortEnd.mk' (n := 0) (E.out) XT.out
    · have E := Lib.hid (show shortI (l.drop i) = 0 from by
        rw [HD.out, List.drop_eq_nil_of_le (show l.length ≤ i + 1 by omega)]
        rfl)
      obtain ⟨j, hj⟩ : ∃ j, i + 1 = j := ⟨_, rfl⟩
      have j1 : (i : Int) + 1 = (j : Int) := by omega
      have d1 : decide ((j : Int) ≥ (l.length : Int)) = true := decide_eq_true (by omega)
      have d1' : l.length ≤ j := by omega
      clear hj
      go_enter Tryz.func141, Tryz.ntmps141
      go_wp2_with (go_at_call 142; refine (is_ext _ _ _ _ _ _).mono ?_; rintro e w' ⟨rfl, hx⟩; have XT := Lib.hid (XT.out.trans hx (fun _ _ h => h)); clear hx)
      go_ret2
      exact ShortEnd.mk' (n := 0) (E.out) XT.out
end Go.Proofs.YtigpaaelggnffaaGreatDoor.R2
