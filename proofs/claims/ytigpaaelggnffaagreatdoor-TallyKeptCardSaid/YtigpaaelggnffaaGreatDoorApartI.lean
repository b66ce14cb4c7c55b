/- tesserabook.Book[int]: Apart with tessera/tesserabook.Ints. -/
import Derived.Test.YtigpaaelggnffaaGreatDoorBookRI
import Derived.BigQuiet
import Derived.Deep.RegionHeld3

namespace Go.Proofs.YtigpaaelggnffaaGreatDoor.Bq
open Go.Proofs.YtigpaaelggnffaaGreatDoor.Lib Go.Proofs.YtigpaaelggnffaaGreatDoor.Sl
open Go.RowKit
set_option linter.unusedVariables false
set_option linter.unusedSimpArgs false

def mkI (i j : Nat) : Int := -1000 - (i : Int)
theorem markI_any (i j : Nat) (w : World) (hi : i ≤ 1000000) (hj : j ≤ 9223372036854775807) : Calls Tryz.prog 32 #[.int .i64 i, .int .i64 j] w fun e w' => e = .returned (.int .i64 (-1000 - (i : Int))) ∧ Ext (fun _ => False) w w' := by
  go_enter Tryz.func32, Tryz.ntmps32
  go_wp2_with fail
  go_ret
  exact ⟨rfl, by first | exact Ext.refl _ _ | exact (Ext.refl _ _).alloc _⟩
def ApartEndI (S : Nat → Prop) (w : World) (es : List (Ent Int)) (e : Ending) (w' : World) : Prop := e = .returned (.bool true) ∧ Ext (fun x => S x ∨ ∃ e ∈ es, blkOf e.p = some x) w w'
set_option maxRecDepth 100000 in
set_option maxHeartbeats 8000000 in
theorem apartI_any {S N R : Nat → Prop} {w : World} {b : Nat} {es : List (Ent Int)} {pl : Option Addr} {cl : Nat} {pw : Option Addr} {cw : Nat} {H : Int} (h : Book eI 3 59 S N R w b es pl cl pw cw H) (hn : es.length ≤ 1000) :
    Calls Tryz.prog 31 #[.pointer (some ⟨b, 0, none⟩), .func (.func 32) #[] #[]] w fun e w' => ApartEndI S w es e w' := by
  have B0 := Lib.hid h
  clear h
  go_enter Tryz.func31, Tryz.ntmps31
  go_wp2_with fail
  refine (staysI_any B0.out hn).mono ?_
  rintro e W ⟨rfl, hB, hx⟩
  have B1 := Lib.hid hB
  have X1 := Lib.hid hx
  have ES := Lib.hid hB.es
  have M1 := Lib.hid (MkSt.begin (mk := mkI) hB)
  clear hB hx B0
  go_wp2_with fail
  go_loopw [5] (fun i wr => ∃ k : Nat, i = .int .i64 k ∧ k ≤ es.length ∧ MkSt eI 3 59 S W wr b es pl cl pw cw H mkI k 0) (fun i _ => es.length - (intOf i).toNat)
  case atStart => exact ⟨0, rfl, Nat.zero_le _, M1.out⟩
  case round =>
    obtain ⟨k, rfl, hk, hm⟩ := hrel
    have MM := Lib.hid hm
    obtain ⟨e0, e1, e2, e3⟩ := hm.bx.cells
    by_cases hlt : k < es.length
    · have i1 : (k : Int) < (es.length : Int) := by omega
      obtain ⟨⟨p0, c0, q0, d0, x0⟩, he⟩ : ∃ e, es[k]? = some e := ⟨_, List.getElem?_eq_getElem hlt⟩
      obtain ⟨g, off, hpl, e4, hg1, hg2⟩ := hm.bx.ls.get (i := k) (v := .slice p0 x0.length c0) (by rw [List.getElem?_map, he]; rfl)
      have A0 := (ES.out.one _ (List.mem_of_getElem? he)).arr
      obtain ⟨hc0, hc1⟩ : x0.length ≤ c0 ∧ c0 ≤ maxLen := arr_cap A0
      have AC := Lib.hid (arr_cases A0)
      have HE := Lib.hid he
      have j1 : (0 : Int) ≤ (c0 : Int) := by omega
      have j2 : (x0.length : Int) ≤ (c0 : Int) := by omega
      unfold maxLen at hc1
      rw [hpl] at e0
      have HPL := Lib.hid hpl
      clear hm A0 e1 e2 e3 he hpl
      go_wp2_with fail
      go_quiet (fail)
      have M2 := Lib.hid (MM.out.on ((Ext.refl (fun _ => False) wr).drewN nq))
      obtain ⟨W2, hW2⟩ : ∃ W2, wr.drewN nq = W2 := ⟨_, rfl⟩
      rw [hW2] at M2 ⊢
      clear hW2 e0 e4 MM
      go_wp2_with fail
      go_loopw [7] (fun j wi => ∃ m : Nat, j = .int .i64 m ∧ m ≤ c0 ∧ MkSt eI 3 59 S W wi b es pl cl pw cw H mkI k m) (fun j _ => c0 - (intOf j).toNat)
      case atStart => exact ⟨0, rfl, Nat.zero_le _, M2.out⟩
      case round =>
        obtain ⟨m, rfl, hmc, hm2⟩ := hrel
        have M3 := Lib.hid hm2
        clear hm2 M2 M1
        by_cases hlm : m < c0
        · have i2 : (m : Int) < (c0 : Int) := by omega
          obtain ⟨a, rfl⟩ : ∃ a, p0 = some ⟨a, 0, none⟩ := by
            rcases AC.out with ⟨_, _, h, _⟩ | h
            · have h' : c0 = 0 := h
              omega
            · exact h
          go_wp2_with fail
          refine (markI_any k m _ (by omega) (by omega)).mono ?_
          rintro e W' ⟨rfl, hx4⟩
          have SP := Lib.hid ((M3.out.on hx4).stepG (sz := 1) rfl ES.out HE.out rfl hlm)
          clear hx4
          have SN := SP.out.1
          rw [Nat.mul_one] at SN
          have SN := Lib.hid SN
          obtain ⟨⟨u0, hu0⟩, huf0⟩ := SP.out.2 0 (by decide)
          rw [Nat.mul_one, Nat.add_zero] at hu0 huf0
          go_wp2_with fail
          go_roundw
          case rel => exact ⟨m + 1, by go_num, hlm, SN.out⟩
          case measure => simp [intOf]; omega
        · have i2 : ¬ (m : Int) < (c0 : Int) := by omega
          have M4 := Lib.hid (M3.out.next HE.out (show m = c0 by omega))
          go_wp2_with fail
          go_roundw
          case rel => exact ⟨k + 1, by go_num, hlt, M4.out⟩
          case measure => simp [intOf]; omega
    · have i1 : ¬ (k : Int) < (es.length : Int) := by omega
      have hkk : k = es.length := by omega
      subst hkk
      have X2 := Lib.hid (show Ext (fun x => S x ∨ ∃ e ∈ es, blkOf e.p = some x) w wr from (X1.out.mono (fun _ h => .inl h)).trans (MM.out.ext.mono (S' := fun x => S x ∨ ∃ e ∈ es, blkOf e.p = some x) (fun _ h => .inr h)) (fun _ _ h => h))
      have M5 := Lib.hid MM.out
      clear hm e1 e2 e3 MM M1
      obtain ⟨W9, rfl⟩ : ∃ W9 : World, W9 = wr := ⟨_, rfl⟩
      go_wp2_with fail
      go_loopw [8] (fun i wi => ∃ k : Nat, i = .int .i64 k ∧ k ≤ es.length ∧ Ext (fun _ => False) W9 wi) (fun i _ => es.length - (intOf i).toNat)
      case atStart => exact ⟨0, rfl, Nat.zero_le _, Ext.refl _ _⟩
      case round =>
        obtain ⟨k, rfl, hk2, hx5⟩ := hrel
        have X5 := Lib.hid hx5
        have M6 := Lib.hid (M5.out.on hx5)
        clear hx5 e0
        obtain ⟨e0, e1, e2, e3⟩ := M6.out.bx.cells
        by_cases hlt : k < es.length
        · have i1 : (k : Int) < (es.length : Int) := by omega
          obtain ⟨⟨p0, c0, q0, d0, x0⟩, he⟩ : ∃ e, es[k]? = some e := ⟨_, List.getElem?_eq_getElem hlt⟩
          obtain ⟨g, off, hpl, e4, hg1, hg2⟩ := M6.out.bx.ls.get (i := k) (v := .slice p0 x0.length c0) (by rw [List.getElem?_map, he]; rfl)
          have A0 := (ES.out.one _ (List.mem_of_getElem? he)).arr
          obtain ⟨hc0, hc1⟩ : x0.length ≤ c0 ∧ c0 ≤ maxLen := arr_cap A0
          have AC := Lib.hid (arr_cases A0)
          have HE := Lib.hid he
          have j1 : (0 : Int) ≤ (c0 : Int) := by omega
          have j2 : (x0.length : Int) ≤ (c0 : Int) := by omega
          unfold maxLen at hc1
          rw [hpl] at e0
          clear A0 e1 e2 e3 he hpl
          go_wp2_with fail
          go_quiet (fail)
          have M7 := Lib.hid (M6.out.on ((Ext.refl (fun _ => False) wr).drewN nq))
          have X7 := Lib.hid (X5.out.trans ((Ext.refl (fun _ => False) wr).drewN nq) (fun _ _ h => h))
          obtain ⟨W7, hW7⟩ : ∃ W7, wr.drewN nq = W7 := ⟨_, rfl⟩
          rw [hW7] at M7 X7 ⊢
          clear hW7 e0 e4 M6 X5
          go_wp2_with fail
          go_loopw [10] (fun j wj => ∃ m : Nat, j = .int .i64 m ∧ m ≤ c0 ∧ Ext (fun _ => False) W7 wj) (fun j _ => c0 - (intOf j).toNat)
          case atStart => exact ⟨0, rfl, Nat.zero_le _, Ext.refl _ _⟩
          case round =>
            obtain ⟨m, rfl, hmc, hx8⟩ := hrel
            have X8 := Lib.hid hx8
            by_cases hlm : m < c0
            · have i2 : (m : Int) < (c0 : Int) := by omega
              obtain ⟨a, rfl⟩ : ∃ a, p0 = some ⟨a, 0, none⟩ := by
                rcases AC.out with ⟨_, _, h, _⟩ | h
                · have h' : c0 = 0 := h
                  omega
                · exact h
              have CE := Lib.hid (show ∀ w', Ext (fun _ => False) wr w' → (w'.cell? ⟨a, m, none⟩ = some (.int .i64 (-1000 - (k : Int)))) from fun w' hx => by
                have AA := (M7.out.on (hx8.trans hx (fun _ _ h => h))).all HE.out
                have h0 := arr_cell AA (m) (by show _ < c0 * 1; omega)
                have f0 := flat_get (E := eI) (marks_get mkI k c0 m hlm) 0 (by decide)
                rw [show m * (eI).sz + 0 = m from Nat.mul_one m] at f0
                rw [f0] at h0
                exact h0)
              clear hx8
              have CQ := Lib.hid (fun w => markI_any k m w (by omega) (by omega))
              obtain ⟨z0, hz0⟩ : ∃ z : Int, -1000 - (k : Int) = z := ⟨_, rfl⟩
              rw [hz0] at CE CQ
              clear hz0
              have U0 := Lib.hid (CE.out _ ((Ext.refl _ wr).drew))
              have dq : (z0 != z0) = false := by simp
              go_wp2_with fail
              go_region_held3 (fun w' => w'.cell? ⟨a, m, none⟩ = some (.int .i64 z0))
                (first | exact U0.out | exact U1.out)
                (first
                  | ((with_reducible refine (CQ.out _).mono ?_); rintro e w5 ⟨rfl, hx5⟩; have U1 := Lib.hid (CE.out _ (((Ext.refl (fun _ => False) wr).drew).trans hx5 (fun _ _ h => h))); have X9 := Lib.hid (X8.out.drew.trans hx5 (fun _ _ h => h)); clear hx5))
              go_wp2_with fail
              go_roundw
              case rel => exact ⟨m + 1, by go_num, hlm, X9.out⟩
              case measure => simp [intOf]; omega
            · have i2 : ¬ (m : Int) < (c0 : Int) := by omega
              go_wp2_with fail
              go_roundw
              case rel => exact ⟨k + 1, by go_num, hlt, X7.out.trans X8.out (fun _ _ h => h)⟩
              case measure => simp [intOf]; omega
        · have i1 : ¬ (k : Int) < (es.length : Int) := by omega
          have z0 := M6.out.bx.free 0
          have z1 := M6.out.bx.free 1
          have z2 := M6.out.bx.free 2
          have X9 := Lib.hid (show ∀ W', Ext S wr W' → ApartEndI S w es (.returned (.bool true)) W' from fun W' hx => ⟨rfl, (X2.out.trans X5.out (fun _ _ h => h.elim)).trans (hx.mono (fun _ h => .inl h)) (fun _ _ h => h)⟩)
          have SB := Lib.hid M6.out.bx.sb
          clear X5 M6 M5
          go_wp2_with fail
          go_ret
          exact X9.out _ ((((Ext.refl S wr).setCell (fun _ => SB.out) _).setCell (fun _ => SB.out) _).setCell (fun _ => SB.out) _)
end Go.Proofs.YtigpaaelggnffaaGreatDoor.Bq
