/- bpe.bytes, bpe.Merge; the document's Bytes. -/
import Derived.Test.YtbepmbihonnkaaaBpeJoined
import Derived.Test.YtbepmbihonnkaaaBpeCatP
namespace Go.Proofs.Ytbepmbihonnkaaa.Bpe
open Go.RowKit Go.Proofs.Ytbepmbihonnkaaa.Lib Go.Proofs.Ytbepmbihonnkaaa.Sl Go.Proofs.Ytbepmbihonnkaaa.Chain Go.Proofs.Ytbepmbihonnkaaa.ElBpe Go.Proofs.Ytbepmbihonnkaaa.HeapPure
set_option linter.unusedVariables false
set_option linter.unusedSimpArgs false

theorem bytes_at {s : ByteArray} {k : Nat} (h : k < s.size) : ∃ x : Int, (bytesL s)[k]? = some x ∧ ((s[k]'h).toNat : Int) = x ∧ 0 ≤ x ∧ x < 256 := by
  refine ⟨_, bytesL_get h, rfl, ?_⟩
  have := (s.data[k]'h).toNat_lt
  omega
/-- The first k bytes are there. -/
structure BySt (w wr : World) (s : ByteArray) (k : Nat) : Prop where
  kl : k ≤ s.size
  row : ∃ R, Arr wr 3 1 (some ⟨w.heap.size, 0, none⟩) s.size s.size (Chain.ints ((bytesL s).take k) ++ R)
  ext : Ext (fun _ => False) w wr
theorem BySt.step {w wr : World} {s : ByteArray} {k : Nat} (h : BySt w wr s k) {x : Int} (hx : (bytesL s)[k]? = some x) : BySt w (wr.setCell ⟨w.heap.size, k, none⟩ (.int .i64 x)) s (k + 1) := by
  obtain ⟨R, hR⟩ := h.row
  have hk := (List.getElem?_eq_some_iff.1 hx).1
  have hb := bytesL_length s
  have hl := arr_len hR
  have ht : (Chain.ints ((bytesL s).take k)).length = k := by unfold Chain.ints; rw [List.length_map, List.length_take]; omega
  rw [List.length_append, ht] at hl
  obtain ⟨y, R, rfl⟩ : ∃ y R', R = y :: R' := by
    cases R with
    | nil => simp at hl; omega
    | cons y R => exact ⟨y, R, rfl⟩
  refine ⟨by omega, ⟨R, ?_⟩, h.ext.trans ((Ext.refl (fun j => j = w.heap.size) wr).setCell (p := ⟨w.heap.size, k, none⟩) (fun _ => rfl) _) (fun i hi e => by omega)⟩
  have := arr_set hR k (.int .i64 x)
  rw [List.set_append_right _ _ (by omega), ht, Nat.sub_self, List.set_cons_zero] at this
  rw [List.take_add_one, hx]
  unfold Chain.ints at *
  rw [List.map_append, List.append_assoc]
  exact this
def BytesEnd (w : World) (s : ByteArray) (e : Ending) (w' : World) : Prop :=
  e = .returned (.slice (some ⟨w.heap.size, 0, none⟩) s.size s.size) ∧ Arr w' 3 1 (some ⟨w.heap.size, 0, none⟩) s.size s.size (Chain.ints (bytesL s)) ∧ Ext (fun _ => False) w w'
set_option maxRecDepth 100000 in
set_option maxHeartbeats 1000000 in
theorem bytes_any (w : World) (s : ByteArray) (hs : s.size ≤ 1048576) :
    Calls Try.prog 50 #[.string s] w fun e w' => BytesEnd w s e w' := by
  go_enter Try.func50, Try.ntmps50
  go_wp2_with (at_make; (refine arr_make rfl (.tmp 6) (.tmp 6) 27 3 1 8 (.int .i64 0) rfl Try.underlying27 infoI .i64 .i64 _ _ s.size rfl rfl (by omega) (by omega) (by omega) (by decide) rfl ?_); intro w1 hA hx1)
  have HS := Lib.hid (show BySt w w1 s 0 from ⟨by omega, ⟨(madeCells (Value.int .i64 0).cells (s.size * 1)).toList, hA⟩, hx1⟩)
  clear hA hx1
  go_wp2_with fail
  go_loopw [10] (fun i wr => ∃ k : Nat, i = .int .i64 k ∧ BySt w wr s k) (fun i _ => s.size - (intOf i).toNat)
  case atStart => exact ⟨0, rfl, HS.out⟩
  case round =>
    obtain ⟨k, rfl, hst⟩ := hrel
    have HST := Lib.hid hst
    obtain ⟨kl, ⟨R, hR⟩, hx⟩ := hst
    clear hx
    by_cases hlt : k < s.size
    · have i1 : (k : Int) < (s.size : Int) := by omega
      obtain ⟨x, hx, hxx, hx0, hx1⟩ := bytes_at hlt
      have T := Lib.hid (HST.out.step hx)
      obtain ⟨u0, hu0⟩ : ∃ u, wr.cell? ⟨w.heap.size, k, none⟩ = some u := ⟨_, (arr_cell hR _ (by omega)).trans (List.getElem?_eq_getElem (by have := arr_len hR; omega))⟩
      have hf0 := arr_frozen hR k
      clear hR hx
      go_wp2_with fail
      go_roundw
      case rel => exact ⟨k + 1, by go_num, by first | (rw [← hxx] at T; exact T.out) | exact T.out⟩
      case measure => simp [intOf]; omega
    · obtain rfl : k = s.size := by omega
      have hR0 : R = [] := by
        have hl := arr_len hR
        have hb := bytesL_length s
        rw [List.length_append] at hl
        unfold Chain.ints at hl
        rw [List.length_map, List.length_take] at hl
        exact List.eq_nil_of_length_eq_zero (by omega)
      rw [hR0, List.append_nil, List.take_of_length_le (by rw [bytesL_length]; omega)] at hR
      have HR := Lib.hid hR
      clear hR hR0
      go_wp2_with fail
      go_ret
      exact ⟨rfl, HR.out, HST.out.ext⟩
/-- What Merge tells. -/
def mergeT (d : Dat) (s : ByteArray) : List Int × Int := if 1048576 < s.size then ([], 3) else ((joinT d.ms (bytesL s)).1, 0)
set_option maxRecDepth 100000 in
set_option maxHeartbeats 1000000 in
theorem mergeB_any {w : World} {m : Nat} {d : Dat} (hm : IsModel w m d) (hd : RightD d) (s : ByteArray) :
    Calls Try.prog 31 #[.pointer (some ⟨m, 0, none⟩), .string s] w fun e w' => JoinedEnd w (mergeT d s).1 (mergeT d s).2 e w' := by
  have hq : ∀ W, (binOp .eql 28 (.pointer (some ⟨m, 0, none⟩)) (.pointer none)).run Try.prog W = .ok (.bool false) W := fun W => by kernel_rfl
  have HM := Lib.hid hm
  have HD := Lib.hid hd
  clear hm hd
  by_cases hb : 1048576 < s.size
  · have E := Lib.hid (show mergeT d s = ([], 3) from if_pos hb)
    have i0 : decide ((s.size : Int) > 1048576) = true := decide_eq_true (by omega)
    clear hb
    go_enter Try.func31, Try.ntmps31
    go_wp2_with fail
    go_ret2
    exact ⟨none, 0, by rw [E.out]; rfl, by rw [E.out]; exact arr_nil _ _ _, by repeat (first | exact Ext.refl _ _ | refine Ext.drew ?_ | refine Ext.drewN ?_ _ | refine Ext.alloc ?_ _), fun j hj => by cases hj⟩
  · have E := Lib.hid (show mergeT d s = joinedT d (bytesL s) from by
      unfold mergeT joinedT
      rw [if_neg hb, bytesL_length, if_neg hb, if_pos (List.all_eq_true.2 (bytes_ok d))])
    have i0 : decide ((s.size : Int) > 1048576) = false := decide_eq_false (by omega)
    have BY := Lib.hid (bytes_any w s (by omega))
    clear hb
    go_enter Try.func31, Try.ntmps31
    go_wp2_with fail
    refine BY.out.mono ?_
    rintro e w1 ⟨rfl, hA, hx⟩
    have X1 := Lib.hid hx
    have JO := joined_any (HM.out.on hx) HD.out (p := some ⟨w.heap.size, 0, none⟩) (c := s.size) (ids := bytesL s) (ints_rd hA)
    rw [bytesL_length] at JO
    have JO := Lib.hid JO
    clear hA hx BY
    go_wp2_with fail
    refine JO.out.mono ?_
    rintro e w2 ⟨p, c, rfl, hA2, hx2, hf⟩
    have A2 := Lib.hid hA2
    have X2 := Lib.hid hx2
    have F2 := Lib.hid hf
    clear hA2 hx2 hf
    go_wp2_with fail
    go_ret2
    rw [E.out]
    exact ⟨p, c, rfl, A2.out, X1.out.trans X2.out (fun _ _ h => h), fun k hk => by have := F2.out k hk; have := X1.out.size; omega⟩
end Go.Proofs.Ytbepmbihonnkaaa.Bpe
