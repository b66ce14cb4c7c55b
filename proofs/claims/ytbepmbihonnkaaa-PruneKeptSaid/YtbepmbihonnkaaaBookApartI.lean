/- tesserabook.Book[int]: Apart with tesserabook.Ints. -/
import Derived.Test.YtbepmbihonnkaaaBookI
import Derived.BigQuiet
import Derived.Deep.RegionHeld3
namespace Go.Proofs.Ytbepmbihonnkaaa.Bk
open Go.Proofs.Ytbepmbihonnkaaa.Lib Go.Proofs.Ytbepmbihonnkaaa.Sl
open Go.RowKit
set_option linter.unusedVariables false
set_option linter.unusedSimpArgs false

def mkI (i j : Nat) : Int := -1000 - (i : Int)
theorem intsmark_any (i j : Nat) (w : World) (hi : i ≤ 1000000) : Calls Try.prog 35 #[.int .i64 i, .int .i64 j] w fun e w' => e = .returned (.int .i64 (mkI i j)) ∧ w = w' := by
  go_enter Try.func35, Try.ntmps35
  go_wp2
  go_ret
  exact ⟨rfl, rfl⟩
theorem MkSt.stepI {bt : Nat} {S : Nat → Prop} {B T : Nat} {w wr : World} {b : Nat} {es : List (Ent Int)} {pl : Option Addr} {cl : Nat} {pw : Option Addr} {cw : Nat} {H : Int} {mk : Nat → Nat → Int} {k j : Nat}
    (h : MkSt eI 3 bt S w wr b es pl cl pw cw H mk k j) (hs : Es eI 3 S B T w es) {e : Ent Int} (he : es[k]? = some e) {a : Nat} (hp : e.p = some ⟨a, 0, none⟩) (hj : j < e.c) :
    MkSt eI 3 bt S w (wr.setCell ⟨a, j, none⟩ (.int .i64 (mk k j))) b es pl cl pw cw H mk k (j + 1) ∧ (∃ u, wr.cell? ⟨a, j, none⟩ = some u) ∧ wr.frozen? ⟨a, j, none⟩ = false := by
  obtain ⟨cs, hc, _, h2⟩ := h.row k e he
  obtain ⟨R, rfl⟩ := h2 rfl
  rw [hp] at hc
  have hl := arr_len hc
  have hfl : (flat eI (marks mk k j)).length = j := by rw [flat_length, marks_length]; exact Nat.mul_one _
  have hsz : eI.sz = 1 := rfl
  rw [List.length_append, hfl, hsz] at hl
  obtain ⟨r, R, rfl⟩ : ∃ r R', R = r :: R' := by
    cases R with
    | nil => simp at hl; omega
    | cons r R => exact ⟨r, R, rfl⟩
  refine ⟨h.step hs he hp (ext_box wr a j _) ⟨R, ?_⟩, ⟨r, ?_⟩, arr_frozen hc j⟩
  · have := arr_set hc j (.int .i64 (mk k j))
    rw [List.set_append_right _ _ (by omega), hfl, Nat.sub_self, List.set_cons_zero] at this
    rw [marks_succ, flat_append, List.append_assoc]
    exact this
  · rw [arr_cell hc j (by rw [hsz]; omega), List.getElem?_append_right (by omega), hfl, Nat.sub_self]
    rfl
def ApartEnd {α : Type} (S : Nat → Prop) (w : World) (es : List (Ent α)) (e : Ending) (w' : World) : Prop := e = .returned (.bool true) ∧ Ext (fun x => S x ∨ ∃ e ∈ es, blkOf e.p = some x) w w'
set_option maxRecDepth 100000 in
set_option maxHeartbeats 8000000 in
theorem apartI_any {S : Nat → Prop} {B T : Nat} {w : World} {b : Nat} {es : List (Ent Int)} {pl : Option Addr} {cl : Nat} {pw : Option Addr} {cw : Nat} {H : Int} (h : Book eI 3 67 S B T w b es pl cl pw cw H) (hn : es.length ≤ 1000) :
    Calls Try.prog 34 #[.pointer (some ⟨b, 0, none⟩), .func (.func 35) #[] #[]] w fun e w' => ApartEnd S w es e w' := by
  have B0 := Lib.hid h
  clear h
  go_enter Try.func34, Try.ntmps34
  go_wp2_with fail
  refine (staysI_any B0.out hn).mono ?_
  rintro e W ⟨rfl, hB, hx⟩
  have B1 := Lib.hid hB
  have X1 := Lib.hid hx
  have ES := Lib.hid hB.es
  have M1 := Lib.hid (MkSt.begin (mk := mkI) hB)
  clear hB hx B0
  go_wp2_with fail
  go_loopw [5] (fun i wr => ∃ k : Nat, i = .int .i64 k ∧ k ≤ es.length ∧ MkSt eI 3 67 S W wr b es pl cl pw cw H mkI k 0) (fun i _ => es.length - (intOf i).toNat)
  case atStart => exact ⟨0, rfl, Nat.zero_le _, M1.out⟩
  case round =>
    obtain ⟨k, rfl, hk, hm⟩ := hrel
    have MM := Lib.hid hm
    obtain ⟨e0, e1, e2, e3⟩ := hm.bx.cells
    by_cases hlt : k < es.length
    · have i1 : (k : Int) < (es.length : Int) := by omega
      obtain ⟨⟨p0, c0, q0, d0, x0⟩, he⟩ : ∃ e, es[k]? = some e := ⟨_, List.getElem?_eq_getElem hlt⟩
      obtain ⟨g, off, hpl, e4, hg1, hg2⟩ := hm.bx.ls.get (i := k) (v := .slice p0 x0.length c0) (by rw [List.getElem?_map, he]; rfl)
      have A0 := (ES.out.one _ (List.mem_of_getElem? he)).arr
      obtain ⟨hc0, hc1⟩ : x0.length ≤ c0 ∧ c0 ≤ maxLen := arr_cap A0
      have AC := Lib.hid (arr_cases A0)
      have HE := Lib.hid he
      have j1 : (0 : Int) ≤ (c0 : Int) := by omega
      have j2 : (x0.length : Int) ≤ (c0 : Int) := by omega
      unfold maxLen at hc1
      rw [hpl] at e0
      have HPL := Lib.hid hpl
      clear hm A0 e1 e2 e3 he hpl
      go_wp2_with fail
      go_quiet (fail)
      have M2 := Lib.hid (MM.out.on ((Ext.refl (fun _ => False) wr).drewN nq))
      obtain ⟨W2, hW2⟩ : ∃ W2, wr.drewN nq = W2 := ⟨_, rfl⟩
      rw [hW2] at M2 ⊢
      clear hW2 e0 e4 MM
      go_wp2_with fail
      go_loopw [7] (fun j wi => ∃ m : Nat, j = .int .i64 m ∧ m ≤ c0 ∧ MkSt eI 3 67 S W wi b es pl cl pw cw H mkI k m) (fun j _ => c0 - (intOf j).toNat)
      case atStart => exact ⟨0, rfl, Nat.zero_le _, M2.out⟩
      case round =>
        obtain ⟨m, rfl, hmc, hm2⟩ := hrel
        have M3 := Lib.hid hm2
        clear hm2 M2 M1
        by_cases hlm : m < c0
        · have i2 : (m : Int) < (c0 : Int) := by omega
          obtain ⟨a, rfl⟩ : ∃ a, p0 = some ⟨a, 0, none⟩ := by
            rcases AC.out with ⟨_, _, h, _⟩ | h
            · have h' : c0 = 0 := h
              omega
            · exact h
          have SP := Lib.hid (M3.out.stepI ES.out HE.out rfl hlm)
          obtain ⟨u, hu⟩ := SP.out.2.1
          have huf := SP.out.2.2
          go_wp2_with fail
          refine (intsmark_any k m _ (by omega)).mono ?_
          rintro e W' ⟨rfl, rfl⟩
          go_wp2_with fail
          go_roundw
          case rel => exact ⟨m + 1, by go_num, hlm, SP.out.1⟩
          case measure => simp [intOf]; omega
        · have i2 : ¬ (m : Int) < (c0 : Int) := by omega
          have M4 := Lib.hid (M3.out.next HE.out (show m = c0 by omega))
          go_wp2_with fail
          go_roundw
          case rel => exact ⟨k + 1, by go_num, hlt, M4.out⟩
          case measure => simp [intOf]; omega
    · have i1 : ¬ (k : Int) < (es.length : Int) := by omega
      have hkk : k = es.length := by omega
      subst hkk
      have X2 := Lib.hid (show Ext (fun x => S x ∨ ∃ e ∈ es, blkOf e.p = some x) w wr from (X1.out.mono (fun _ h => .inl h)).trans (MM.out.ext.mono (S' := fun x => S x ∨ ∃ e ∈ es, blkOf e.p = some x) (fun _ h => .inr h)) (fun _ _ h => h))
      have M5 := Lib.hid MM.out
      clear hm e1 e2 e3 MM M1
      obtain ⟨W9, rfl⟩ : ∃ W9 : World, W9 = wr := ⟨_, rfl⟩
      go_wp2_with fail
      go_loopw [8] (fun i wi => ∃ k : Nat, i = .int .i64 k ∧ k ≤ es.length ∧ Ext (fun _ => False) W9 wi) (fun i _ => es.length - (intOf i).toNat)
      case atStart => exact ⟨0, rfl, Nat.zero_le _, Ext.refl _ _⟩
      case round =>
        obtain ⟨k, rfl, hk2, hx5⟩ := hrel
        have X5 := Lib.hid hx5
        have M6 := Lib.hid (M5.out.on hx5)
        clear hx5 e0
        obtain ⟨e0, e1, e2, e3⟩ := M6.out.bx.cells
        by_cases hlt : k < es.length
        · have i1 : (k : Int) < (es.length : Int) := by omega
          obtain ⟨⟨p0, c0, q0, d0, x0⟩, he⟩ : ∃ e, es[k]? = some e := ⟨_, List.getElem?_eq_getElem hlt⟩
          obtain ⟨g, off, hpl, e4, hg1, hg2⟩ := M6.out.bx.ls.get (i := k) (v := .slice p0 x0.length c0) (by rw [List.getElem?_map, he]; rfl)
          have A0 := (ES.out.one _ (List.mem_of_getElem? he)).arr
          obtain ⟨hc0, hc1⟩ : x0.length ≤ c0 ∧ c0 ≤ maxLen := arr_cap A0
          have AC := Lib.hid (arr_cases A0)
          have HE := Lib.hid he
          have j1 : (0 : Int) ≤ (c0 : Int) := by omega
          have j2 : (x0.length : Int) ≤ (c0 : Int) := by omega
          unfold maxLen at hc1
          rw [hpl] at e0
          clear A0 e1 e2 e3 he hpl
          go_wp2_with fail
          go_quiet (fail)
          have M7 := Lib.hid (M6.out.on ((Ext.refl (fun _ => False) wr).drewN nq))
          have X7 := Lib.hid (X5.out.trans ((Ext.refl (fun _ => False) wr).drewN nq) (fun _ _ h => h))
          obtain ⟨W7, hW7⟩ : ∃ W7, wr.drewN nq = W7 := ⟨_, rfl⟩
          rw [hW7] at M7 X7 ⊢
          clear hW7 e0 e4 M6 X5
          go_wp2_with fail
          go_loopw [10] (fun j wj => ∃ m : Nat, j = .int .i64 m ∧ m ≤ c0 ∧ Ext (fun _ => False) W7 wj) (fun j _ => c0 - (intOf j).toNat)
          case atStart => exact ⟨0, rfl, Nat.zero_le _, Ext.refl _ _⟩
          case round =>
            obtain ⟨m, rfl, hmc, hx8⟩ := hrel
            have X8 := Lib.hid hx8
            have AA := Lib.hid ((M7.out.on hx8).all HE.out)
            clear hx8
            by_cases hlm : m < c0
            · have i2 : (m : Int) < (c0 : Int) := by omega
              obtain ⟨a, rfl⟩ : ∃ a, p0 = some ⟨a, 0, none⟩ := by
                rcases AC.out with ⟨_, _, h, _⟩ | h
                · have h' : c0 = 0 := h
                  omega
                · exact h
              have u0 : wr.cell? ⟨a, m, none⟩ = some (.int .i64 (mkI k m)) := by
                have := arr_cell AA.out m (by show m < c0 * 1; omega)
                rw [this]
                have := flat_get (E := eI) (marks_get mkI k c0 m hlm) 0 (by decide)
                have hsz : eI.sz = 1 := rfl
                rw [hsz, Nat.mul_one, Nat.add_zero] at this
                rw [this]
                rfl
              have dq : (mkI k m != mkI k m) = false := by simp
              have CQ := fun w => intsmark_any k m w (by omega)
              have CQ := Lib.hid CQ
              obtain ⟨z, hz⟩ : ∃ z, mkI k m = z := ⟨_, rfl⟩
              rw [hz] at u0 dq CQ
              clear hz
              go_wp2_with fail
              go_region_held3 (fun w' => w'.cell? ⟨a, m, none⟩ = some (.int .i64 z))
                (first | exact u0)
                (first
                  | ((with_reducible refine (CQ.out _).mono ?_); rintro e w5 ⟨rfl, rfl⟩))
              go_wp2_with fail
              go_roundw
              case rel => exact ⟨m + 1, by go_num, hlm, X8.out.drew⟩
              case measure => simp [intOf]; omega
            · have i2 : ¬ (m : Int) < (c0 : Int) := by omega
              go_wp2_with fail
              go_roundw
              case rel => exact ⟨k + 1, by go_num, hlt, X7.out.trans X8.out (fun _ _ h => h)⟩
              case measure => simp [intOf]; omega
        · have i1 : ¬ (k : Int) < (es.length : Int) := by omega
          have z0 := M6.out.bx.free 0
          have z1 := M6.out.bx.free 1
          have z2 := M6.out.bx.free 2
          have X9 := Lib.hid (show ∀ W', Ext S wr W' → ApartEnd S w es (.returned (.bool true)) W' from fun W' hx => ⟨rfl, (X2.out.trans X5.out (fun _ _ h => h.elim)).trans (hx.mono (fun _ h => .inl h)) (fun _ _ h => h)⟩)
          have SB := Lib.hid M6.out.bx.sb
          clear X5 M6 M5
          go_wp2_with fail
          go_ret
          exact X9.out _ ((((Ext.refl S wr).setCell (fun _ => SB.out) _).setCell (fun _ => SB.out) _).setCell (fun _ => SB.out) _)
/-! ### As the laws use it -/
/-- A book of lists of numbers that was begun behind w (q: a list beside it that is none of its own.) -/
def KpSt (q : Option Addr) (w wr : World) (b n : Nat) : Prop := ∃ S : Nat → Prop, IsBook eI 3 67 S w.heap.size wr.heap.size wr b n ∧ (∀ x, S x → w.heap.size ≤ x) ∧ Ext (fun _ => False) w wr ∧ ∀ k, blkOf q = some k → ¬ S k ∧ k < wr.heap.size
theorem KpSt.new {w : World} : KpSt none w (w.alloc (.cells #[.slice none 0 0, .slice none 0 0, .int .i64 0, .bool false] 67)) w.heap.size 0 :=
  ⟨fun k => k = w.heap.size, IsBook.new (heap_alloc_new w _), fun x hx => by omega, (Ext.refl _ _).alloc _, fun k hk => by cases hk⟩
theorem IsBook.up {α : Type} {E : En α} {et bt : Nat} {S : Nat → Prop} {B T T' : Nat} {w : World} {b n : Nat} (h : IsBook E et bt S B T w b n) (hT : T ≤ T') : IsBook E et bt S B T' w b n := by
  obtain ⟨es, pl, cl, pw, cw, H, h1, h2⟩ := h
  exact ⟨es, pl, cl, pw, cw, H, h1, h2.bx, ⟨fun e he => { h2.es.one e he with np := fun k hk => ⟨((h2.es.one e he).np k hk).1, ((h2.es.one e he).np k hk).2.1, Nat.lt_of_lt_of_le ((h2.es.one e he).np k hk).2.2 hT⟩ }, h2.es.ap⟩⟩
theorem IsBook.slt {α : Type} {E : En α} {et bt : Nat} {S : Nat → Prop} {B T : Nat} {w : World} {b n : Nat} (h : IsBook E et bt S B T w b n) : ∀ x, S x → x < w.heap.size := by
  obtain ⟨es, pl, cl, pw, cw, H, h1, h2⟩ := h
  exact h2.bx.lt
theorem KpSt.ext {q : Option Addr} {w wr : World} {b n : Nat} (h : KpSt q w wr b n) : Ext (fun _ => False) w wr := by
  obtain ⟨S, _, _, hx, _⟩ := h
  exact hx
theorem KpSt.on {q : Option Addr} {w wr w1 : World} {b n : Nat} (h : KpSt q w wr b n) (hx : Ext (fun _ => False) wr w1) : KpSt q w w1 b n := by
  obtain ⟨S, h1, h2, h3, h4⟩ := h
  exact ⟨S, (h1.on hx).up hx.size, h2, h3.trans hx (fun _ _ h => h), fun k hk => ⟨(h4 k hk).1, Nat.lt_of_lt_of_le (h4 k hk).2 hx.size⟩⟩
theorem KpSt.spare {q p : Option Addr} {w wr w1 : World} {b n : Nat} (h : KpSt q w wr b n) (hx : Ext (fun _ => False) wr w1) (hp : ∀ k, blkOf p = some k → wr.heap.size ≤ k ∧ k < w1.heap.size) : KpSt p w w1 b n := by
  obtain ⟨S, h1, h2, h3, h4⟩ := h
  exact ⟨S, (h1.on hx).up hx.size, h2, h3.trans hx (fun _ _ h => h), fun k hk => ⟨fun s => by have := h1.slt k s; have := hp k hk; omega, (hp k hk).2⟩⟩
/-- One list more. -/
theorem keepK_any {w wr : World} {S : Nat → Prop} {T T' b n : Nat} (h : IsBook eI 3 67 S w.heap.size T wr b n) (hS : ∀ x, S x → w.heap.size ≤ x) (hT : w.heap.size ≤ T) (hTT : T ≤ T') (hx : Ext (fun _ => False) w wr) (hn : n < 1000) {p : Option Addr} {c : Nat} {xs : List Int} (hA : Arr wr 3 1 p xs.length c (ints xs)) (hp : ∀ k, blkOf p = some k → ¬ S k ∧ T ≤ k ∧ k < T') (hl : xs.length ≤ 1048576) :
    Calls Try.prog 33 #[.pointer (some ⟨b, 0, none⟩), .slice p xs.length c] wr fun e w' => e = .returned (.tuple #[]) ∧ ∃ S' : Nat → Prop, IsBook eI 3 67 S' w.heap.size T' w' b (n + 1) ∧ (∀ k, S' k → S k ∨ wr.heap.size ≤ k) ∧ (∀ x, S' x → w.heap.size ≤ x) ∧ Ext S wr w' ∧ Ext (fun _ => False) w w' := by
  have hA' : Arr wr 3 eI.sz p xs.length c (flat eI xs) := by rw [ints_flat]; exact hA
  refine (keepI_any h hn hA' hp hT hTT (by omega) (by omega)).mono ?_
  rintro e w' ⟨rfl, S', hI, hs, hx2⟩
  have hz := hx.size
  exact ⟨rfl, S', hI, hs, fun x hx => (hs x hx).elim (hS x) (fun h => by omega), hx2, hx.trans hx2 (fun i hi h => by have := hS i h; omega)⟩
/-- Apart, of what was kept. -/
theorem apartK_any {q : Option Addr} {w wr : World} {b n : Nat} (h : KpSt q w wr b n) (hn : n ≤ 1000) :
    Calls Try.prog 34 #[.pointer (some ⟨b, 0, none⟩), .func (.func 35) #[] #[]] wr fun e w' => e = .returned (.bool true) ∧ Ext (fun _ => False) w w' := by
  obtain ⟨S, ⟨es, pl, cl, pw, cw, H, hes, hB⟩, hS, hx, _⟩ := h
  refine (apartI_any hB (by omega)).mono ?_
  rintro e w' ⟨rfl, hx2⟩
  refine ⟨rfl, hx.trans hx2 (fun i hi h => ?_)⟩
  rcases h with h | ⟨e, he, hk⟩
  · have := hS i h; omega
  · have := ((hB.es.one e he).np i hk).2.1; omega
end Go.Proofs.Ytbepmbihonnkaaa.Bk
