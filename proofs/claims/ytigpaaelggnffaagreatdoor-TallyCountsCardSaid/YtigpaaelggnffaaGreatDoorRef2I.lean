/- The document's items (tesseraref2), walked: Complete, Items. -/
import Derived.Test.YtigpaaelggnffaaGreatDoorRef2R
namespace Go.Proofs.YtigpaaelggnffaaGreatDoor.R2
open Go.RowKit Go.Proofs.YtigpaaelggnffaaGreatDoor.Lib Go.Proofs.YtigpaaelggnffaaGreatDoor.Sl Go.Proofs.YtigpaaelggnffaaGreatDoor.Cut
set_option linter.unusedVariables false
set_option linter.unusedSimpArgs false

set_option maxRecDepth 100000 in
theorem read_one (s : ByteArray) (k : Nat) (hk : k < s.size) (w : World) : Calls Tryz.prog 145 #[.string s, .int .i64 k, .int .i64 1] w fun e w' => e = .returned (.int .i32 (bt s k : Nat)) ∧ w = w' := by
  obtain ⟨x, hx, hx0, hx1, _, hxe⟩ := bt_int hk
  have XE := Lib.hid hxe
  clear hxe
  go_enter Tryz.func145, Tryz.ntmps145
  go_wp2_with fail
  go_ret
  exact ⟨by rw [XE.out]; rfl, rfl⟩
theorem read_any {s : ByteArray} {k n : Nat} (hk : k < s.size) (hw : WidthIs s k n) (h1 : 1 ≤ n) (hs : s.size ≤ 1048576) (w : World) : Calls Tryz.prog 145 #[.string s, .int .i64 k, .int .i64 n] w fun e w' => e = .returned (.int .i32 (itemAt s k).r) ∧ w = w' := by
  rcases hw with ⟨rfl, _⟩ | ⟨_, h4, he⟩
  · omega
  have hb := (itemAt_bd hk).2.1
  rw [he] at hb ⊢
  simp only at hb ⊢
  have hc : n = 1 ∨ n = 2 ∨ n = 3 ∨ n = 4 := by omega
  rcases hc with rfl | rfl | rfl | rfl
  · exact read_one s k hk w
  · have := read_seq s k 2 32 hb (.inl ⟨rfl, rfl⟩) hs w
    exact this
  · have := read_seq s k 3 16 hb (.inr (.inl ⟨rfl, rfl⟩)) hs w
    exact this
  · have := read_seq s k 4 8 hb (.inr (.inr ⟨rfl, rfl⟩)) hs w
    exact this
def eIt : En Cut.Item := ⟨4, fun x => [.int .i64 x.at_, .int .i64 x.n, .int .i32 x.r, .bool x.bad], by decide, fun _ => rfl, by simp [Value.oneCell']⟩
theorem infoIt : (Tryz.prog.info? 207).map (fun i => (i.zero, i.size, i.bytes)) = some (some (.agg #[.int .i64 0, .int .i64 0, .int .i32 0, .bool false]), 4, 24) := by kernel_rfl
theorem itemsGo_len (s : ByteArray) : ∀ (f k : Nat), k ≤ s.size → (itemsGo s f k).length ≤ s.size - k
  | 0, _, _ => Nat.zero_le _
  | f + 1, k, h => by
    unfold itemsGo
    by_cases hk : k < s.size
    · have hb := itemAt_bd hk
      have := itemsGo_len s f (k + (itemAt s k).n) hb.2.1
      rw [if_pos hk, List.length_cons]
      omega
    · rw [if_neg hk]
      exact Nat.zero_le _
/-- Of a text's items those ahead of at are there. -/
structure CoSt (w wr : World) (s : ByteArray) (done : List Cut.Item) (at_ : Nat) (p : Option Addr) (c : Nat) : Prop where
  arr : Arr wr 207 4 p done.length c (flat eIt done)
  ext : Ext (fun _ => False) w wr
  fr : ∀ k, blkOf p = some k → w.heap.size ≤ k
  le : at_ ≤ s.size
  is : ∃ f, items s = done ++ itemsGo s f at_ ∧ s.size - at_ ≤ f
  few : done.length ≤ at_
theorem CoSt.next {w wr w1 : World} {s : ByteArray} {done : List Cut.Item} {k : Nat} {p p1 : Option Addr} {c c1 : Nat} {x : Cut.Item} (h : CoSt w wr s done k p c) (hk : k < s.size) (hx : itemAt s k = x) (hA : Arr w1 207 4 p1 (done.length + 1) c1 (flat eIt done ++ [.int .i64 x.at_, .int .i64 x.n, .int .i32 x.r, .bool x.bad])) (hx1 : Ext (fun b => blkOf p = some b) wr w1) (hm : Moved wr p p1) : CoSt w w1 s (done ++ [x]) (k + x.n) p1 c1 ∧ (done ++ [x]).length = done.length + 1 := by
  have hb := itemAt_bd hk
  rw [hx] at hb
  refine ⟨⟨?_, h.ext.trans hx1 (fun i hi e => by have := h.fr i e; omega), fun j hj => ?_, hb.2.1, ?_, ?_⟩, by simp⟩
  · rw [flat_append, flat_one, List.length_append]
    exact hA
  · rcases hm j hj with e | e
    · exact h.fr j e
    · have := h.ext.size; omega
  · obtain ⟨f, h1, h2⟩ := h.is
    obtain ⟨f', e1, e2⟩ := itemsGo_cons hk h2
    rw [hx] at e1 e2
    exact ⟨f', by rw [h1, e1]; simp, e2⟩
  · have := h.few
    rw [List.length_append, List.length_cons, List.length_nil]
    omega
def CompleteEnd (w : World) (s : ByteArray) (e : Ending) (w' : World) : Prop :=
  ∃ done k p c, e = .returned (.tuple #[.slice p done.length c, .int .i64 (k : Nat)]) ∧ CoSt w w' s done k p c ∧ ∀ j, k ≤ j → j < s.size → itemAt s j = bad1 j
def lenS : Value → Nat
  | .slice _ n _ => n
  | _ => 0
set_option maxRecDepth 100000 in
set_option maxHeartbeats 4000000 in
theorem complete_any (s : ByteArray) (hs : s.size ≤ 1048576) (w : World) : Calls Tryz.prog 121 #[.string s] w fun e w' => CompleteEnd w s e w' := by
  go_enter Tryz.func121, Tryz.ntmps121
  go_wp2_with fail
  go_loopw [4, 5] (fun vl vk wr => ∃ (done : List Cut.Item) (k : Nat) (p : Option Addr) (c : Nat), vl = .slice p done.length c ∧ vk = .int .i64 k ∧ CoSt w wr s done k p c) (fun _ vk _ => s.size - (intOf vk).toNat)
  case atStart => exact ⟨[], 0, none, 0, rfl, rfl, arr_nil _ _ _, Ext.refl _ _, (fun j hj => by cases hj), Nat.zero_le _, ⟨s.size, rfl, by omega⟩, Nat.le_refl _⟩
  case round =>
    obtain ⟨done, k, p, c, rfl, rfl, hst⟩ := hrel
    have ST := Lib.hid hst
    have hfew := hst.few
    have hle := hst.le
    clear hst
    obtain ⟨nd, hnd⟩ : ∃ nd, done.length = nd := ⟨_, rfl⟩
    have ND := Lib.hid hnd
    rw [hnd] at hfew
    rw [hnd]
    clear hnd
    have A0 := Lib.hid (show Arr wr 207 4 p nd c (flat eIt done) from by rw [← ND.out]; exact ST.out.arr)
    by_cases hlt : k < s.size
    · have i1 : (k : Int) < (s.size : Int) := by omega
      have WC := Lib.hid (width_any s k hlt hs wr)
      go_wp2_with fail
      refine WC.out.mono ?_
      rintro e w' ⟨n, rfl, hw, rfl⟩
      have HW := Lib.hid hw
      clear hw WC
      by_cases hn : 1 ≤ n
      · have i2 : (n : Int) > 0 := by omega
        have hn4 : n ≤ 4 := by
          rcases HW.out with ⟨h, _⟩ | ⟨_, h, _⟩ <;> omega
        have RC := Lib.hid (read_any hlt HW.out hn hs)
        have IT := Lib.hid (show itemAt s k = ⟨k, n, (itemAt s k).r, false⟩ from by
          rcases HW.out with ⟨h, _⟩ | ⟨_, _, h⟩
          · omega
          · rw [h])
        obtain ⟨r, hr⟩ : ∃ r, (itemAt s k).r = r := ⟨_, rfl⟩
        rw [hr] at RC IT
        clear hr
        go_wp2_with fail
        refine (RC.out _).mono ?_
        rintro e w' ⟨rfl, rfl⟩
        go_wp2_with (at_builtin; refine arr_append1 rfl (.tmp 16) (.tmp 24) 180 207 4 24 (.agg #[.int .i64 0, .int .i64 0, .int .i32 0, .bool false]) rfl Tryz.underlying180 infoIt rfl (by decide) (by decide) p nd c (flat eIt done) [.int .i64 k, .int .i64 n, .int .i32 r, .bool false] rfl _ rfl (by simp) rfl (by simp [Value.oneCell']) A0.out (by omega) ?_; intro p1 c1 w1 hA1 hx1 hm1; have NX := Lib.hid (ST.out.next hlt IT.out (by rw [ND.out]; exact hA1) hx1 hm1); clear hA1 hx1 hm1)
        go_roundw
        case rel => exact ⟨done ++ [⟨k, n, r, false⟩], k + n, p1, c1, by rw [NX.out.2, ND.out], by go_num, NX.out.1⟩
        case measure => simp [intOf]; omega
      · obtain rfl : n = 0 := by omega
        have IT := Lib.hid (show itemAt s k = bad1 k from by
          rcases HW.out with ⟨_, h⟩ | ⟨h, _⟩
          · exact h
          · omega)
        have BC := Lib.hid (begins_any s k hlt hs wr)
        obtain ⟨lf, hlf⟩ : ∃ lf, s.size - k = lf := ⟨_, rfl⟩
        have j1 : (s.size : Int) - (k : Int) = (lf : Int) := by omega
        go_wp2_with fail
        refine BC.out.mono ?_
        rintro e w' ⟨n, rfl, hb, rfl⟩
        have HB := Lib.hid hb
        clear hb BC
        by_cases he : n = lf
        · have q1 : ((n : Int) == (lf : Int)) = true := by simp [he]
          have HE := Lib.hid he
          have HL := Lib.hid hlf
          clear he hlf
          go_wp2_with fail
          go_ret2
          refine ⟨done, k, p, c, by rw [ND.out]; rfl, ST.out, fun j h1 h2 => ?_⟩
          by_cases hj : j = k
          · subst hj; exact IT.out
          · exact HB.out (by rw [HE.out, HL.out]) j (by omega) h2
        · have q1 : ((n : Int) == (lf : Int)) = false := by simpa using (by omega : ¬ (n : Int) = (lf : Int))
          clear he
          go_wp2_with (at_builtin; refine arr_append1 rfl (.tmp 39) (.tmp 42) 180 207 4 24 (.agg #[.int .i64 0, .int .i64 0, .int .i32 0, .bool false]) rfl Tryz.underlying180 infoIt rfl (by decide) (by decide) p nd c (flat eIt done) [.int .i64 k, .int .i64 1, .int .i32 65533, .bool true] rfl _ rfl (by simp) rfl (by simp [Value.oneCell']) A0.out (by omega) ?_; intro p1 c1 w1 hA1 hx1 hm1; have NX := Lib.hid (ST.out.next hlt IT.out (by rw [ND.out]; exact hA1) hx1 hm1); clear hA1 hx1 hm1)
          go_roundw
          case rel => exact ⟨done ++ [bad1 k], k + 1, p1, c1, by rw [NX.out.2, ND.out], by go_num, NX.out.1⟩
          case measure => simp [intOf]; omega
    · obtain rfl : k = s.size := by omega
      have i1 : ¬ (s.size : Int) < (s.size : Int) := by omega
      go_wp2_with fail
      go_ret2
      exact ⟨done, s.size, p, c, by rw [ND.out]; rfl, ST.out, fun j h1 h2 => by omega⟩
def ItemsEnd (w : World) (s : ByteArray) (e : Ending) (w' : World) : Prop :=
  ∃ p c, e = .returned (.slice p (items s).length c) ∧ Arr w' 207 4 p (items s).length c (flat eIt (items s)) ∧ Ext (fun _ => False) w w' ∧ ∀ k, blkOf p = some k → w.heap.size ≤ k
set_option maxRecDepth 100000 in
set_option maxHeartbeats 4000000 in
theorem items_any (s : ByteArray) (hs : s.size ≤ 1048576) (w : World) : Calls Tryz.prog 93 #[.string s] w fun e w' => ItemsEnd w s e w' := by
  have CC := Lib.hid (complete_any s hs w)
  go_enter Tryz.func93, Tryz.ntmps93
  go_wp2_with fail
  refine CC.out.mono ?_
  rintro e W ⟨done0, k0, p0, c0, rfl, hst0, hbad⟩
  have S0 := Lib.hid hst0
  have BD := Lib.hid hbad
  clear hst0 hbad CC
  go_wp2_with fail
  go_loopw [3, 4] (fun vl vk wr => ∃ (done : List Cut.Item) (k : Nat) (p : Option Addr) (c : Nat), vl = .slice p done.length c ∧ vk = .int .i64 k ∧ k0 ≤ k ∧ CoSt w wr s done k p c) (fun _ vk _ => s.size - (intOf vk).toNat)
  case atStart => exact ⟨done0, k0, p0, c0, rfl, rfl, Nat.le_refl _, S0.out⟩
  case round =>
    obtain ⟨done, k, p, c, rfl, rfl, hk0, hst⟩ := hrel
    have ST := Lib.hid hst
    have hfew := hst.few
    have hle := hst.le
    clear hst
    obtain ⟨nd, hnd⟩ : ∃ nd, done.length = nd := ⟨_, rfl⟩
    have ND := Lib.hid hnd
    rw [hnd] at hfew
    rw [hnd]
    clear hnd
    have A0 := Lib.hid (show Arr wr 207 4 p nd c (flat eIt done) from by rw [← ND.out]; exact ST.out.arr)
    by_cases hlt : k < s.size
    · have i1 : (k : Int) < (s.size : Int) := by omega
      have IT := Lib.hid (BD.out k hk0 hlt)
      go_wp2_with (at_builtin; refine arr_append1 rfl (.tmp 14) (.tmp 17) 180 207 4 24 (.agg #[.int .i64 0, .int .i64 0, .int .i32 0, .bool false]) rfl Tryz.underlying180 infoIt rfl (by decide) (by decide) p nd c (flat eIt done) [.int .i64 k, .int .i64 1, .int .i32 65533, .bool true] rfl _ rfl (by simp) rfl (by simp [Value.oneCell']) A0.out (by omega) ?_; intro p1 c1 w1 hA1 hx1 hm1; have NX := Lib.hid (ST.out.next hlt IT.out (by rw [ND.out]; exact hA1) hx1 hm1); clear hA1 hx1 hm1)
      go_roundw
      case rel => exact ⟨done ++ [bad1 k], k + 1, p1, c1, by rw [NX.out.2, ND.out], by go_num, by omega, NX.out.1⟩
      case measure => simp [intOf]; omega
    · obtain rfl : k = s.size := by omega
      have i1 : ¬ (s.size : Int) < (s.size : Int) := by omega
      have E := Lib.hid (show items s = done from by
        obtain ⟨f, h1, _⟩ := ST.out.is
        rw [h1, itemsGo_end (Nat.le_refl _), List.append_nil])
      go_wp2_with fail
      go_ret
      refine ⟨p, c, by rw [E.out, ND.out]; rfl, ?_, ST.out.ext, ST.out.fr⟩
      rw [E.out]
      exact ST.out.arr
end Go.Proofs.YtigpaaelggnffaaGreatDoor.R2
