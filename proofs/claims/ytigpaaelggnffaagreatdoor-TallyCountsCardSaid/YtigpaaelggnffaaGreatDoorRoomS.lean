/- tesserabook.Roomy[string], Intact[string]. -/
import Derived.Test.YtigpaaelggnffaaGreatDoorSameD
import Derived.Test.YtigpaaelggnffaaGreatDoorHeapBc
namespace Go.Proofs.YtigpaaelggnffaaGreatDoor.Sl
open Go.Proofs.YtigpaaelggnffaaGreatDoor.Lib
open Go.RowKit
set_option linter.unusedVariables false
set_option linter.unusedSimpArgs false

/-! ### Roomy, Intact -/
/-- xs, then k marks. -/
structure RoomStS (w wr : World) (a N : Nat) (xs : List ByteArray) (z : ByteArray) (k : Nat) : Prop where
  kl : xs.length + k ≤ N
  row : ∃ R, Arr wr 9 1 (some ⟨a, 0, none⟩) N N (flat eS (xs ++ List.replicate k z) ++ R)
  ext : Ext (fun _ => False) w wr
  far : w.heap.size ≤ a
theorem RoomStS.step {w wr : World} {a N : Nat} {xs : List ByteArray} {z : ByteArray} {k : Nat} (h : RoomStS w wr a N xs z k) (hk : xs.length + k < N) : RoomStS w (wr.setCell ⟨a, xs.length + k, none⟩ (.string z)) a N xs z (k + 1) := by
  obtain ⟨R, hR⟩ := h.row
  have hl := arr_len hR
  rw [List.length_append, flat_length] at hl
  simp [eS] at hl
  have hf := h.far
  refine ⟨by omega, ?_, h.ext.trans ((Ext.refl (fun j => j = a) wr).setCell (p := ⟨a, xs.length + k, none⟩) (fun _ => rfl) _) (fun i hi e => by omega), h.far⟩
  have := arr_set hR (xs.length + k) (.string z)
  obtain ⟨y, R, rfl⟩ : ∃ y R', R = y :: R' := by
    cases R with
    | nil => simp at hl; omega
    | cons y R => exact ⟨y, R, rfl⟩
  refine ⟨R, ?_⟩
  have e : (flat eS (xs ++ List.replicate k z) ++ y :: R).set (xs.length + k) (.string z) = flat eS (xs ++ List.replicate (k + 1) z) ++ R := by
    have hfl : (flat eS (xs ++ List.replicate k z)).length = xs.length + k := by rw [flat_length]; simp [eS]
    rw [List.set_append_right _ _ (by omega), hfl, Nat.sub_self, List.set_cons_zero, List.replicate_succ', ← List.append_assoc xs, flat_append eS (xs ++ List.replicate k z) [z], List.append_assoc]
    rfl
  rw [← e]
  exact this
set_option maxRecDepth 100000 in
set_option maxHeartbeats 2000000 in
theorem roomyS_any (w : World) (p : Option Addr) (c : Nat) (xs : List ByteArray) (z : ByteArray) (hx : Rd eS w p xs) (hl : xs.length ≤ 1099511627776) :
    Calls Tryz.prog 13 #[.slice p xs.length c, .string z] w fun e w' => ∃ a, e = .returned (.slice (some ⟨a, 0, none⟩) (xs.length + 80) (xs.length + 80)) ∧
      Arr w' 9 1 (some ⟨a, 0, none⟩) (xs.length + 80) (xs.length + 80) (flat eS (xs ++ List.replicate 80 z)) ∧ Ext (fun _ => False) w w' ∧ w.heap.size ≤ a := by
  have HX := Lib.hid hx
  have HP := Lib.hid (show p = none → xs.length = 0 from fun h => by rw [h] at hx; rw [hx.none_]; rfl)
  clear hx
  go_enter Tryz.func13, Tryz.ntmps13
  go_wp2_with (first
    | (at_make; (refine arr_make rfl (.tmp 9) (.tmp 9) 22 9 1 16 (.string ⟨#[]⟩) rfl Tryz.underlying22 infoS .i64 .i64 _ _ (xs.length + 80) rfl rfl (by omega) (by omega) (by omega) (by decide) rfl ?_); intro w1 hA hx1)
    | (have _g := hx1; (refine arr_copy rfl (.tmp 11) (.tmp 12) 22 22 9 1 16 (.string ⟨#[]⟩) rfl Tryz.underlying22 infoS _ _ _ _ rfl p xs.length c rfl (by omega) (flat eS xs) (flat_length eS xs) ((HX.out.on hx1).src) HP.out (flat_cells eS xs) hA ?_); intro w2 hA2 hx2))
  have HS := Lib.hid (show RoomStS w w2 w.heap.size (xs.length + 80) xs z 0 from
    ⟨by omega, ⟨(madeCells (Value.string ⟨#[]⟩).cells ((xs.length + 80) * 1)).toList.drop (xs.length * 1), by rw [List.replicate_zero, List.append_nil]; exact hA2⟩, hx1.trans hx2 (fun i hi h => by omega), Nat.le_refl _⟩)
  clear hA hA2 hx1 hx2
  go_loopw [6] (fun i wr => ∃ k : Nat, k ≤ 80 ∧ i = .int .i64 ((xs.length + k : Nat) : Int) ∧ RoomStS w wr w.heap.size (xs.length + 80) xs z k) (fun i _ => xs.length + 80 - (intOf i).toNat)
  case atStart => exact ⟨0, by omega, by go_num, HS.out⟩
  case round =>
    obtain ⟨k, hk, rfl, hst⟩ := hrel
    have HST := Lib.hid hst
    obtain ⟨R, hR⟩ := hst.row
    clear hst
    by_cases hlt : k < 80
    · have T := Lib.hid (HST.out.step (by omega))
      have i1 : ((xs.length + k : Nat) : Int) < ((xs.length + 80 : Nat) : Int) := by omega
      obtain ⟨u0, hu0⟩ : ∃ u, wr.cell? ⟨w.heap.size, xs.length + k, none⟩ = some u := ⟨_, (arr_cell hR _ (by omega)).trans (List.getElem?_eq_getElem (by have := arr_len hR; omega))⟩
      have hf0 := arr_frozen hR (xs.length + k)
      clear hR
      obtain ⟨i, hi⟩ : ∃ i, xs.length + k = i := ⟨_, rfl⟩
      rw [hi] at T i1 hu0 hf0 ⊢
      have HI := Lib.hid hi
      clear hi
      go_wp2_with fail
      go_roundw
      case rel => exact ⟨k + 1, by omega, by have hh := HI.out; congr 1; omega, T.out⟩
      case measure => have hh := HI.out; simp [intOf]; omega
    · obtain rfl : k = 80 := by omega
      have EX := Lib.hid HST.out.ext
      have hR0 : R = [] := by
        have hl := arr_len hR
        rw [List.length_append, flat_length] at hl
        have e1 : eS.sz = 1 := rfl
        rw [e1, List.length_append, List.length_replicate] at hl
        exact List.eq_nil_of_length_eq_zero (by omega)
      rw [hR0, List.append_nil] at hR
      have HR := Lib.hid hR
      clear hR hR0
      go_wp2_with fail
      go_ret
      exact ⟨w.heap.size, rfl, HR.out, EX.out, Nat.le_refl _⟩
set_option maxRecDepth 100000 in
set_option maxHeartbeats 2000000 in
theorem intactS_any (w : World) (p q : Option Addr) (c c2 : Nat) (xs : List ByteArray) (z : ByteArray) (hx : Rd eS w p (xs ++ List.replicate 80 z)) (hy : Rd eS w q xs) (hl : xs.length ≤ 1099511627776) (hc : xs.length + 80 ≤ c) :
    Calls Tryz.prog 15 #[.slice p (xs.length + 80) c, .slice q xs.length c2, .string z] w fun e w' => e = .returned (.bool true) ∧ Ext (fun _ => False) w w' := by
  have HX := Lib.hid hx
  have hS := sameS_any w p q c c2 xs xs (by have := hx.take xs.length; rwa [List.take_left' rfl] at this) hy (by omega)
  rw [decide_eq_true rfl] at hS
  have HS := Lib.hid hS
  have hcc : (xs.length : Int) ≤ (c : Int) := by omega
  clear hx hy hS
  go_enter Tryz.func15, Tryz.ntmps15
  go_wp2_with fail
  refine HS.out.mono ?_
  rintro e w1 ⟨rfl, hx1⟩
  have X1 := Lib.hid hx1
  clear hx1
  go_wp2_with fail
  go_loopw [7] (fun i wr => ∃ k : Nat, k ≤ 80 ∧ i = .int .i64 ((xs.length + k : Nat) : Int) ∧ Ext (fun _ => False) w wr) (fun i _ => xs.length + 80 - (intOf i).toNat)
  case atStart => exact ⟨0, by omega, by go_num, X1.out⟩
  case round =>
    obtain ⟨k, hk, rfl, hx⟩ := hrel
    have EX := Lib.hid hx
    clear hx
    by_cases hlt : k < 80
    · have hat : (xs ++ List.replicate 80 z)[xs.length + k]? = some z := by
        rw [List.getElem?_append_right (by omega), Nat.add_sub_cancel_left, List.getElem?_replicate, if_pos hlt]
      obtain ⟨b, o, hp, hb0, d0⟩ := (HX.out.on EX.out).cellS hat
      have i1 : ((xs.length + k : Nat) : Int) < ((xs.length + 80 : Nat) : Int) := by omega
      have i2 : ((xs.length + k : Nat) : Int) < (xs.length : Int) + 80 := by omega
      clear hat
      obtain ⟨i, hi⟩ : ∃ i, xs.length + k = i := ⟨_, rfl⟩
      rw [hi] at i1 i2 d0 ⊢
      have HI := Lib.hid hi
      clear hi
      rw [hp]
      have d1 := (str_neq_f z).1
      go_wp2_with fail
      go_roundw
      case rel => exact ⟨k + 1, by omega, by have hh := HI.out; congr 1; omega, EX.out⟩
      case measure => have hh := HI.out; simp [intOf]; omega
    · obtain rfl : k = 80 := by omega
      go_wp2_with fail
      go_ret
      exact ⟨rfl, EX.out⟩
end Go.Proofs.YtigpaaelggnffaaGreatDoor.Sl
