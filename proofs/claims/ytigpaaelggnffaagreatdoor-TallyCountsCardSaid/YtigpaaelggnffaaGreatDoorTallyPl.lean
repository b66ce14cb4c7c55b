/- law23.plain; tesseraref23.Unused, Saved. -/
import Derived.Test.YtigpaaelggnffaaGreatDoorTallyUn
import Derived.Test.YtigpaaelggnffaaGreatDoorTallyKnown
namespace Go.Proofs.YtigpaaelggnffaaGreatDoor.Ty
open Go.RowKit Go.Proofs.YtigpaaelggnffaaGreatDoor.Lib Go.Proofs.YtigpaaelggnffaaGreatDoor.Sl Go.Proofs.YtigpaaelggnffaaGreatDoor.Bpe Go.Proofs.YtigpaaelggnffaaGreatDoor.Cut Go.Proofs.YtigpaaelggnffaaGreatDoorW.PrintLast
set_option linter.unusedVariables false
set_option linter.unusedSimpArgs false

theorem infoF : (Tryz.prog.info? 94).map (fun i => (i.zero, i.size, i.bytes)) = some (some (.agg #[.int .i64 0, .int .i64 0]), 2, 16) := by kernel_rfl
structure PlEnd (w : World) (l : List TRow) (e : Ending) (w' : World) : Prop where
  is : ∃ p c, e = .returned (.slice p l.length c) ∧ Arr w' 94 2 p l.length c (flat eTR l) ∧ Ext (fun _ => False) w w'
structure PaSt (w W : World) (l : List TRow) (k : Nat) (p : Option Addr) (c : Nat) : Prop where
  arr : Arr W 94 2 p k c (flat eTR (l.take k))
  ext : Ext (fun _ => False) w W
  fr : ∀ j, blkOf p = some j → w.heap.size ≤ j
set_option maxRecDepth 100000 in
set_option maxHeartbeats 8000000 in
theorem plain_any (w : World) (p : Option Addr) (c : Nat) (l : List TRow) (hl : Rd eTR w p l) (hn : l.length * 16 ≤ 140737488351232) :
    Calls Tryz.prog 24 #[.slice p l.length c] w fun e w' => PlEnd w l e w' := by
  have HL := Lib.hid hl
  have h0 := arr_nil w 94 2
  have S0 := Lib.hid (show PaSt w w l 0 none 0 from ⟨h0, Ext.refl _ _, fun j hj => by cases hj⟩)
  clear hl h0
  go_enter Tryz.func24, Tryz.ntmps24
  go_wp2_with fail
  go_loopw [3, 4] (fun v vk wr => ∃ (k : Nat) (p1 : Option Addr) (c1 : Nat), v = .slice p1 k c1 ∧ vk = .int .i64 k ∧ k ≤ l.length ∧ PaSt w wr l k p1 c1) (fun _ vk _ => l.length - (intOf vk).toNat)
  case atStart => exact ⟨0, none, 0, rfl, rfl, Nat.zero_le _, S0.out⟩
  case round =>
    obtain ⟨k, p1, c1, rfl, rfl, hk, hst⟩ := hrel
    have ST := Lib.hid hst
    by_cases hlt : k < l.length
    · have i1 : (k : Int) < (l.length : Int) := by omega
      obtain ⟨x, hget⟩ : ∃ x, l[k]? = some x := ⟨_, List.getElem?_eq_getElem hlt⟩
      have CE0 : ∃ b o, p = some ⟨b, o, none⟩ ∧ ∀ w', Ext (fun _ => False) wr w' → (w'.cell? ⟨b, o + k * 2, none⟩ = some (.int .i64 x.id) ∧ w'.cell? ⟨b, o + k * 2 + 1, none⟩ = some (.int .i64 x.n)) := by
        obtain ⟨b, o, hp, hb, c0, c1⟩ := (HL.out.on hst.ext).cellR hget
        exact ⟨b, o, hp, fun w' hx => ⟨(hx.cell (p := ⟨b, _, none⟩) hb (fun h => h)).trans c0, (hx.cell (p := ⟨b, _, none⟩) hb (fun h => h)).trans c1⟩⟩
      obtain ⟨b, o, rfl, ce⟩ := CE0
      have SN := Lib.hid (show l.take (k + 1) = l.take k ++ [x] from by rw [List.take_add_one, hget]; rfl)
      obtain ⟨xi, xn⟩ := x
      simp only at ce
      have CE := Lib.hid ce
      have A2 := Lib.hid (show Arr ((wr.alloc (.cells #[.int .i64 xi, .int .i64 xn] 94)).drew) 94 2 p1 k c1 (flat eTR (l.take k)) from arr_ext hst.arr (((Ext.refl (fun _ => False) wr).alloc _).drew) (fun _ _ h => h))
      have fin : ∀ (p3 : Option Addr) (c3 : Nat) (w3 : World), Arr w3 94 2 p3 (k + 1) c3 (flat eTR (l.take k) ++ [.int .i64 xi, .int .i64 xn]) → Ext (fun j => blkOf p1 = some j) ((wr.alloc (.cells #[.int .i64 xi, .int .i64 xn] 94)).drew) w3 → Moved ((wr.alloc (.cells #[.int .i64 xi, .int .i64 xn] 94)).drew) p1 p3 → PaSt w w3 l (k + 1) p3 c3 := fun p3 c3 w3 hA hx hm => by
        have X1 := ST.out.ext.trans (((Ext.refl (fun _ => False) wr).alloc (.cells #[.int .i64 xi, .int .i64 xn] 94)).drew) (fun _ _ h => h)
        refine ⟨by rw [SN.out, flat_append]; exact hA, X1.trans hx (fun i hi e => by have := ST.out.fr i e; omega), fun j hj => ?_⟩
        rcases hm j hj with h | h
        · exact ST.out.fr j h
        · have := X1.size; omega
      have FIN := Lib.hid fin
      clear hst ce hget fin
      go_upto_region 5 with (fail)
      refine start_ (n := 15) (S := fun w' => w'.cell? ⟨b, o + k * 2, none⟩ = some (.int .i64 xi) ∧ w'.cell? ⟨b, o + k * 2 + 1, none⟩ = some (.int .i64 xn)) (ds := [13]) (ls 15 0) (by kernel_rfl) rfl rfl (CE.out _ (Ext.refl _ _).drew) (fun hHeld => ?_)
      refine pure_ (i := 0) (N := some 11) (v := ?_) (a' := ?_) (ls 15 1) rfl rfl (by kernel_rfl) (fun _ _ _ h => h) (Or.inl ⟨by rfl, ?_⟩) ?_ ?_
      rotate_left
      · intro w'; go_simp; with_reducible rfl
      rotate_left
      · simp only [Act.put, List.setIfInBounds_toArray, List.set_cons_zero, List.set_cons_succ, i64_w, i32_w]; rfl
      refine pure_ (i := 1) (N := some 12) (v := ?_) (a' := ?_) (ls 15 3) rfl rfl (by kernel_rfl) (fun _ _ _ h => h) (Or.inl ⟨by rfl, ?_⟩) ?_ ?_
      rotate_left
      · intro w'; go_simp; with_reducible rfl
      rotate_left
      · simp only [Act.put, List.setIfInBounds_toArray, List.set_cons_zero, List.set_cons_succ, i64_w, i32_w]; rfl
      refine pure_ (i := 2) (N := some 13) (v := ?_) (a' := ?_) (ls 15 7) rfl rfl (by kernel_rfl) (fun _ _ _ h => h) (Or.inl ⟨by rfl, ?_⟩) ?_ ?_
      rotate_left
      · intro w'; go_simp; with_reducible rfl
      rotate_left
      · simp only [Act.put, List.setIfInBounds_toArray, List.set_cons_zero, List.set_cons_succ, i64_w, i32_w]; rfl
      refine pure_ (i := 3) (N := some 14) (v := ?_) (a' := ?_) (ls 15 15) rfl rfl (by kernel_rfl) (fun _ _ _ h => h) (Or.inl ⟨by rfl, ?_⟩) ?_ ?_
      rotate_left
      · intro w'; go_simp; with_reducible rfl
      rotate_left
      · simp only [Act.put, List.setIfInBounds_toArray, List.set_cons_zero, List.set_cons_succ, i64_w, i32_w]; rfl
      refine pure_ (i := 4) (N := some 15) (v := ?_) (a' := ?_) (ls 15 31) rfl rfl (by kernel_rfl) (fun _ _ _ h => h) (Or.inl ⟨by rfl, ?_⟩) ?_ ?_
      rotate_left
      · intro w'; go_simp; with_reducible rfl
      rotate_left
      · simp only [Act.put, List.setIfInBounds_toArray, List.set_cons_zero, List.set_cons_succ, i64_w, i32_w]; rfl
      refine pure_ (i := 6) (N := some 17) (v := ?_) (a' := ?_) (ls 15 95) rfl rfl (by kernel_rfl) (fun _ _ _ h => h) (Or.inl ⟨by rfl, ?_⟩) ?_ ?_
      rotate_left
      · intro w'; go_simp; with_reducible rfl
      rotate_left
      · simp only [Act.put, List.setIfInBounds_toArray, List.set_cons_zero, List.set_cons_succ, i64_w, i32_w]; rfl
      refine pure_ (i := 7) (N := some 18) (v := ?_) (a' := ?_) (ls 15 223) rfl rfl (by kernel_rfl) (fun _ _ _ h => h) (Or.inl ⟨by rfl, ?_⟩) ?_ ?_
      rotate_left
      · intro w'; go_simp; with_reducible rfl
      rotate_left
      · simp only [Act.put, List.setIfInBounds_toArray, List.set_cons_zero, List.set_cons_succ, i64_w, i32_w]; rfl
      refine pure_ (i := 8) (N := some 19) (v := ?_) (a' := ?_) (ls 15 479) rfl rfl (by kernel_rfl) (fun _ _ _ h => h) (Or.inl ⟨by rfl, ?_⟩) ?_ ?_
      rotate_left
      · intro w'; go_simp; with_reducible rfl
      rotate_left
      · simp only [Act.put, List.setIfInBounds_toArray, List.set_cons_zero, List.set_cons_succ, i64_w, i32_w]; rfl
      refine pure_ (i := 9) (N := some 20) (v := ?_) (a' := ?_) (ls 15 991) rfl rfl (by kernel_rfl) (fun _ _ _ h => h) (Or.inl ⟨by rfl, ?_⟩) ?_ ?_
      rotate_left
      · intro w'; go_simp; with_reducible rfl
      rotate_left
      · simp only [Act.put, List.setIfInBounds_toArray, List.set_cons_zero, List.set_cons_succ, i64_w, i32_w]; rfl
      refine take_ (i := 5) (N := some 16) (v := ?_) (a' := ?_) (ls 15 1023) rfl rfl (by kernel_rfl) (fun _ _ _ h => h) (Or.inl ⟨by rfl, ?_⟩) hHeld ?_ ?_
      rotate_left
      · rintro w' ⟨s0, s1⟩; go_simp; with_reducible rfl
      rotate_left
      · simp only [Act.put, List.setIfInBounds_toArray, List.set_cons_zero, List.set_cons_succ, i64_w, i32_w]; rfl
      refine take_ (i := 10) (N := some 21) (v := ?_) (a' := ?_) (ls 15 2047) rfl rfl (by kernel_rfl) (fun _ _ _ h => h) (Or.inl ⟨by rfl, ?_⟩) hHeld ?_ ?_
      rotate_left
      · rintro w' ⟨s0, s1⟩; go_simp; with_reducible rfl
      rotate_left
      · simp only [Act.put, List.setIfInBounds_toArray, List.set_cons_zero, List.set_cons_succ, i64_w, i32_w]; rfl
      refine pure_ (i := 11) (N := some 22) (v := ?_) (a' := ?_) (ls 15 4095) rfl rfl (by kernel_rfl) (fun _ _ _ h => h) (Or.inl ⟨by rfl, ?_⟩) ?_ ?_
      rotate_left
      · intro w'; go_simp; with_reducible rfl
      rotate_left
      · simp only [Act.put, List.setIfInBounds_toArray, List.set_cons_zero, List.set_cons_succ, i64_w, i32_w]; rfl
      refine one_ (i := 12) (N := some 23) (ls 15 8191) rfl rfl (by kernel_rfl) (by decide) (fun K hK => ?_)
      refine value_ (w1 := ?_) (v := ?_) (by rfl) rfl ?_ ?_
      rotate_left 2
      · go_simp
        constructor
        · rfl
        · rfl
      refine hK.out _ _ (CE.out _ ((Ext.refl _ _).drew.alloc _)) (fun hHeld => ?_)
      clear hK K
      refine norm_ (a' := ?_) ?_ ?_
      rotate_left
      · simp only [Act.put, List.setIfInBounds_toArray, List.set_cons_zero, List.set_cons_succ, i64_w, i32_w]; rfl
      refine last_ (i := 13) (N := some 24) (ls 15 16383) rfl rfl (by kernel_rfl) (by decide) (fun K hK => ?_)
      refine arr_append_stepN (N := some 24) rfl (by rfl) (.tmp 11) (.tmp 23) 39 94 2 16 (.agg #[.int .i64 0, .int .i64 0]) rfl Tryz.underlying39 infoF rfl (by decide) (by decide) p1 k c1 (flat eTR (l.take k)) rfl (some ⟨wr.heap.size, 0, none⟩) 1 1 rfl [.int .i64 xi, .int .i64 xn] rfl (fun ad h => by injection h with h; subst h; exact World.news_of_block (heap_alloc_new _ _)) (fun h => by cases h) (by simp [Value.oneCell']) A2.out (by omega) ?_
      intro p3 c3 w3 hA3 hx3 hm3
      have NX := Lib.hid (FIN.out p3 c3 w3 hA3 hx3 hm3)
      clear hA3 hx3 hm3
      refine hK.out _ _ ?_
      clear hK K
      refine norm_ (a' := ?_) ?_ ?_
      rotate_left
      · simp only [Act.put, List.setIfInBounds_toArray, List.set_cons_zero, List.set_cons_succ, i64_w, i32_w]; rfl
      refine pure_ (i := 14) (N := some 3) (v := ?_) (a' := ?_) (ls 15 32767) rfl rfl (by kernel_rfl) (fun _ _ _ h => h) (Or.inl ⟨by rfl, ?_⟩) ?_ ?_
      rotate_left
      · intro w'; go_simp; with_reducible rfl
      rotate_left
      · simp only [Act.put, List.setIfInBounds_toArray, List.set_cons_zero, List.set_cons_succ, i64_w, i32_w]; rfl
      refine done_ (by kernel_rfl) ?_
      go_wp2_with fail
      go_roundw
      case rel => exact ⟨k + 1, p3, c3, rfl, by go_num, hlt, NX.out⟩
      case measure => simp [intOf]; omega
    · obtain rfl : k = l.length := by omega
      have i1 : ¬ ((l.length : Int) < (l.length : Int)) := by omega
      have A := Lib.hid (show Arr wr 94 2 p1 l.length c1 (flat eTR l) from by have := hst.arr; rwa [List.take_length] at this)
      go_wp2_with fail
      go_ret
      exact ⟨p1, c1, rfl, A.out, ST.out.ext⟩
end Go.Proofs.YtigpaaelggnffaaGreatDoor.Ty
