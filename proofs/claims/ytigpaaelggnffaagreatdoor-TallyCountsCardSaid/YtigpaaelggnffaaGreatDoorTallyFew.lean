/- law23.few: some texts, not too long. -/
import Derived.Test.YtigpaaelggnffaaGreatDoorTallyKnown
namespace Go.Proofs.YtigpaaelggnffaaGreatDoor.Ty
open Go.RowKit Go.Proofs.YtigpaaelggnffaaGreatDoor.Lib Go.Proofs.YtigpaaelggnffaaGreatDoor.Sl
set_option linter.unusedVariables false
set_option linter.unusedSimpArgs false

def cutB (s : ByteArray) (n : Nat) : ByteArray := if n < s.size then s.extract 0 n else s
theorem cutB_size (s : ByteArray) (n : Nat) : (cutB s n).size ≤ n := by
  unfold cutB
  split
  · rw [ByteArray.size_extract]; omega
  · omega
def fewL (l : List ByteArray) (n : Nat) : List ByteArray := (l.take 8).map fun s => cutB s n
theorem fewL_length (l : List ByteArray) (n : Nat) : (fewL l n).length ≤ 8 := by
  unfold fewL
  rw [List.length_map, List.length_take]
  omega
theorem sum_le {l : List ByteArray} {n : Nat} (h : ∀ s ∈ l, s.size ≤ n) : sumSz l ≤ l.length * n := by
  induction l with
  | nil => exact Nat.zero_le _
  | cons x l ih =>
    have e : sumSz (x :: l) = x.size + sumSz l := rfl
    have h1 := h x (.head _)
    have h2 := ih fun s hs => h s (.tail _ hs)
    rw [e, List.length_cons, Nat.succ_mul]
    omega
theorem fewL_sum (l : List ByteArray) (n : Nat) : sumSz (fewL l n) ≤ 8 * n := by
  have h1 := sum_le (l := fewL l n) (n := n) fun s hs => by
    obtain ⟨y, _, rfl⟩ := List.mem_map.1 hs
    exact cutB_size y n
  exact Nat.le_trans h1 (Nat.mul_le_mul_right n (fewL_length l n))
def FewEnd (w : World) (l : List ByteArray) (e : Ending) (w' : World) : Prop :=
  ∃ p c, e = .returned (.slice p l.length c) ∧ Arr w' 9 1 p l.length c (flat eS l) ∧ Ext (fun _ => False) w w' ∧ (∀ k, blkOf p = some k → w.heap.size ≤ k) ∧ (l.length = 0 → p = none ∧ c = 0)
structure FewSt (w W : World) (l : List ByteArray) (n k : Nat) (p : Option Addr) (c : Nat) : Prop where
  arr : Arr W 9 1 p k c (flat eS (fewL (l.take k) n))
  ext : Ext (fun _ => False) w W
  fr : ∀ j, blkOf p = some j → w.heap.size ≤ j
  z : k = 0 → p = none ∧ c = 0
theorem fewL_snoc {l : List ByteArray} {n k : Nat} {x : ByteArray} (h : l[k]? = some x) (hk : k < 8) : fewL (l.take (k + 1)) n = fewL (l.take k) n ++ [cutB x n] := by
  unfold fewL
  rw [List.take_take, List.take_take, Nat.min_eq_right (by omega), Nat.min_eq_right (by omega), List.take_add_one, h]
  simp
set_option maxRecDepth 100000 in
set_option maxHeartbeats 2000000 in
theorem few_any (w : World) (p : Option Addr) (c : Nat) (l : List ByteArray) (hl : Rd eS w p l) (hn : l.length ≤ 281474976710656) (n : Nat) (hnn : n ≤ 1048576) :
    Calls Tryz.prog 12 #[.slice p l.length c, .int .i64 n] w fun e w' => FewEnd w (fewL l n) e w' := by
  have HL := Lib.hid hl
  clear hl
  go_enter Tryz.func12, Tryz.ntmps12
  go_wp2_with fail
  go_loopw [5, 6] (fun v vk wr => ∃ (k : Nat) (p1 : Option Addr) (c1 : Nat), v = .slice p1 k c1 ∧ vk = .int .i64 k ∧ k ≤ l.length ∧ k ≤ 8 ∧ FewSt w wr l n k p1 c1) (fun _ vk _ => l.length - (intOf vk).toNat)
  case atStart => exact ⟨0, none, 0, rfl, rfl, Nat.zero_le _, Nat.zero_le _, ⟨by simpa [fewL, flat_nil] using arr_nil w _ _, Ext.refl _ _, (fun j hj => by cases hj), fun _ => ⟨rfl, rfl⟩⟩⟩
  case round =>
    obtain ⟨k, p1, c1, rfl, rfl, hk, hk8, hst⟩ := hrel
    have ST := Lib.hid hst
    clear hst
    by_cases hlt : k < l.length
    · have i1 : (k : Int) < (l.length : Int) := by omega
      by_cases h8 : k < 8
      · have i2 : (k : Int) < 8 := by omega
        obtain ⟨x, hget⟩ : ∃ x, l[k]? = some x := ⟨_, List.getElem?_eq_getElem hlt⟩
        obtain ⟨b, o, rfl, hb, c0⟩ := (HL.out.on ST.out.ext).cellS hget
        have SN := Lib.hid (fewL_snoc (n := n) hget h8)
        clear hget
        have fin : ∀ (p3 : Option Addr) (c3 : Nat) (w3 : World) (y : ByteArray), y = cutB x n → Arr w3 9 1 p3 (k + 1) c3 (flat eS (fewL (l.take k) n) ++ [.string y]) → Ext (fun j => blkOf p1 = some j) wr w3 → Moved wr p1 p3 → FewSt w w3 l n (k + 1) p3 c3 := fun p3 c3 w3 y hy hA hx hm => by
          subst hy
          refine ⟨by rw [SN.out, flat_append]; exact hA, ST.out.ext.trans hx (fun i hi e => by have := ST.out.fr i e; omega), fun j hj => ?_, fun h => by omega⟩
          rcases hm j hj with h | h
          · exact ST.out.fr j h
          · have := ST.out.ext.size; omega
        have FIN := Lib.hid fin
        have A1 := Lib.hid ST.out.arr
        clear fin
        by_cases hcut : n < x.size
        · have d1 : decide ((x.size : Int) > (n : Int)) = true := decide_eq_true (by omega)
          have i0 : (0 : Int) ≤ (n : Int) := by omega
          have i3 : (n : Int) ≤ (x.size : Int) := by omega
          have E := Lib.hid (show x.extract 0 n = cutB x n from (if_pos hcut).symm)
          go_wp2_with (at_builtin; refine arr_append1 rfl (.tmp 29) (.tmp 31) 22 9 1 16 (.string ⟨#[]⟩) rfl Tryz.underlying22 infoS rfl (by decide) (by decide) p1 k c1 (flat eS (fewL (l.take k) n)) [.string (x.extract 0 n)] rfl _ rfl (by simp) rfl (by simp [Value.oneCell']) A1.out (by omega) ?_; intro p3 c3 w3 hA3 hx3 hm3)
          have NX := Lib.hid (FIN.out p3 c3 w3 _ E.out hA3 hx3 hm3)
          clear hA3 hx3 hm3
          go_roundw
          case rel => exact ⟨k + 1, p3, c3, rfl, by go_num, hlt, h8, NX.out⟩
          case measure => simp [intOf]; omega
        · have d1 : decide ((x.size : Int) > (n : Int)) = false := decide_eq_false (by omega)
          have E := Lib.hid (show x = cutB x n from (if_neg hcut).symm)
          go_wp2_with (at_builtin; refine arr_append1 rfl (.tmp 29) (.tmp 31) 22 9 1 16 (.string ⟨#[]⟩) rfl Tryz.underlying22 infoS rfl (by decide) (by decide) p1 k c1 (flat eS (fewL (l.take k) n)) [.string x] rfl _ rfl (by simp) rfl (by simp [Value.oneCell']) A1.out (by omega) ?_; intro p3 c3 w3 hA3 hx3 hm3)
          have NX := Lib.hid (FIN.out p3 c3 w3 _ E.out hA3 hx3 hm3)
          clear hA3 hx3 hm3
          go_roundw
          case rel => exact ⟨k + 1, p3, c3, rfl, by go_num, hlt, h8, NX.out⟩
          case measure => simp [intOf]; omega
      · have i2 : ¬ (k : Int) < 8 := by omega
        have E := Lib.hid (show fewL l n = fewL (l.take k) n from by unfold fewL; rw [List.take_take, Nat.min_eq_left (by omega)])
        have EL := Lib.hid (show (fewL l n).length = k from by unfold fewL; rw [List.length_map, List.length_take]; omega)
        go_wp2_with fail
        go_ret
        exact ⟨p1, c1, by rw [EL.out]; rfl, by rw [EL.out, E.out]; exact ST.out.arr, ST.out.ext, ST.out.fr, fun h => by rw [EL.out] at h; exact ST.out.z h⟩
    · obtain rfl : k = l.length := by omega
      have i1 : ¬ ((l.length : Int) < (l.length : Int)) := by omega
      have EL := Lib.hid (show (fewL l n).length = l.length from by unfold fewL; rw [List.length_map, List.length_take]; omega)
      go_wp2_with fail
      go_ret
      exact ⟨p1, c1, by rw [EL.out]; rfl, by have := ST.out.arr; rw [List.take_length] at this; rw [EL.out]; exact this, ST.out.ext, ST.out.fr, fun h => by rw [EL.out] at h; exact ST.out.z h⟩
end Go.Proofs.YtigpaaelggnffaaGreatDoor.Ty
