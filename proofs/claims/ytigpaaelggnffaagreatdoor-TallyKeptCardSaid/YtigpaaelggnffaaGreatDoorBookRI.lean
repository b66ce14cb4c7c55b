/- tesserabook.Book[int]: Keep, Stays. -/
import Derived.Test.YtigpaaelggnffaaGreatDoorBookQ
import Derived.Test.YtigpaaelggnffaaGreatDoorHeapBa
import Derived.Test.YtigpaaelggnffaaGreatDoorHeapBc
namespace Go.Proofs.YtigpaaelggnffaaGreatDoor.Bq
open Go.Proofs.YtigpaaelggnffaaGreatDoor.Lib Go.Proofs.YtigpaaelggnffaaGreatDoor.Sl
open Go.RowKit Go.Proofs.YtigpaaelggnffaaGreatDoorW.PrintLast
set_option linter.unusedVariables false
set_option linter.unusedSimpArgs false

theorem infoSlI : (Tryz.prog.info? 62).map (fun i => (i.zero, i.size, i.bytes)) = some (some (.slice none 0 0), 1, 24) := by kernel_rfl
def KeepEndI (S N R : Nat → Prop) (w : World) (b n : Nat) (e : Ending) (w' : World) : Prop :=
  e = .returned (.tuple #[]) ∧ ∃ S' : Nat → Prop, IsBook eI 3 59 S' N R w' b n ∧ (∀ k, S' k → S k ∨ w.heap.size ≤ k) ∧ Ext S w w'
def KeepStI (S S' N R : Nat → Prop) (w wr : World) (b n : Nat) : Prop := IsBook eI 3 59 S' N R wr b n ∧ (∀ k, S' k → S k ∨ w.heap.size ≤ k) ∧ Ext S w wr

set_option maxRecDepth 100000 in
set_option maxHeartbeats 8000000 in
theorem keepI_any {S N R R' : Nat → Prop} {w : World} {b n : Nat} (h : IsBook eI 3 59 S N R w b n) (hn : n < 1000) {p : Option Addr} {c : Nat} {xs : List Int} (hA : Arr w 3 eI.sz p xs.length c (flat eI xs)) (hp : ∀ k, blkOf p = some k → ¬ (S k ∨ N k) ∧ ¬ R k ∧ R' k) (hN : ∀ k, N k → k < w.heap.size) (hT : ∀ k, R k → R' k) (hl : xs.length * 8 ≤ 140737488351232) (hxl : xs.length ≤ 1125899906842624) :
    Calls Tryz.prog 27 #[.pointer (some ⟨b, 0, none⟩), .slice p xs.length c] w fun e w' => KeepEndI S N R' w b (n + 1) e w' := by
  obtain ⟨es, pl, cl, pw, cw, H, hes, hB⟩ := h
  have B0 := Lib.hid hB
  have A0 := Lib.hid hA
  have P0 := Lib.hid hp
  have XR := Lib.hid (fun w' (hx : Ext S w w') => (Rd.of_arr hA).ext hx (fun k hk _ s => (hp k hk).1 (.inl s)))
  have HT := Lib.hid hT
  have NLT := Lib.hid hN
  obtain ⟨d0, d1, d2, d3⟩ := hB.bx.cells
  have f0 := hB.bx.free 0
  clear hB hA hp hT hN
  go_enter Tryz.func27, Tryz.ntmps27
  go_wp2_with (at_builtin; refine win_append rfl (.tmp 8) (.tmp 10) 57 62 24 (.slice none 0 0) rfl Tryz.underlying57 infoSlI rfl (by decide) pl es.length cl (es.map Ent.l) rfl ⟨w.heap.size, 0, none⟩ 1 rfl (.slice p xs.length c) (blk_cell (heap_alloc_new w (.cells #[.slice p xs.length c] 62)) 0) rfl (B0.out.bx.on ((Ext.refl _ w).alloc _)).ls (by omega) ?_; intro p1 c1 w1 hW1 hx1 hm1; have PL := Lib.hid ((B0.out.bx.on ((Ext.refl _ w).alloc (.cells #[.slice p xs.length c] 62))).putL hW1 hx1 hm1); have q0 := blk_cell (hx1.obj (((Ext.refl (fun _ => False) w).alloc (.cells #[.slice p xs.length c] 62)).obj B0.out.bx.box (fun h => h)) (fun e => (B0.out.bx.sl _ e).2.1 rfl)) 0; have hm1 := Lib.hid hm1; have q1 := blk_frozen (hx1.obj (((Ext.refl (fun _ => False) w).alloc (.cells #[.slice p xs.length c] 62)).obj B0.out.bx.box (fun h => h)) (fun e => (B0.out.bx.sl _ e).2.1 rfl)) 0; simp at q0; clear hW1 hx1)
  have EX1 := Lib.hid ((((Ext.refl S w).alloc (.cells #[.slice p xs.length c] 62)).trans PL.out.2 (fun _ _ h => h)).drew)
  have PM := Lib.hid (show ∀ k, blkOf p1 = some k → k < w.heap.size → S k from fun k hk hlt => by
    rcases hm1.out k hk with h1 | h1
    · exact (B0.out.bx.sl k h1).1
    · simp at h1; omega)
  have d1 : (w1.setCell ⟨b, 0, none⟩ (.slice p1 (es.length + 1) c1)).drew.cell? ⟨b, 1, none⟩ = some (.slice pw es.length cw) := PL.out.1.cells.2.1
  have BX1 := Lib.hid (PL.out.1.on ((Ext.refl (fun _ => False) _).drew))
  obtain ⟨W1, hW1⟩ : ∃ W1, w1.setCell ⟨b, 0, none⟩ (.slice p1 (es.length + 1) c1) = W1 := ⟨_, rfl⟩
  rw [hW1] at BX1 EX1 d1 ⊢
  clear hW1 PL hm1
  refine start_ (n := 12) (S := fun w' => w'.cell? ⟨b, 1, none⟩ = some (.slice pw es.length cw)) (ds := [8, 11]) (ls 12 0) (by kernel_rfl) rfl rfl d1 (fun hHeld => ?_)
  refine pure_ (i := 0) (N := some 14) (v := ?_) (a' := ?_) (ls 12 1) rfl rfl (by kernel_rfl) (fun _ _ _ h => h) (Or.inl ⟨by rfl, ?_⟩) ?_ ?_
  rotate_left
  · intro w'; go_simp; with_reducible rfl
  rotate_left
  · simp only [Act.put, List.setIfInBounds_toArray, List.set_cons_zero, List.set_cons_succ, i64_w, i32_w]; rfl
  refine pure_ (i := 1) (N := some 15) (v := ?_) (a' := ?_) (ls 12 3) rfl rfl (by kernel_rfl) (fun _ _ _ h => h) (Or.inl ⟨by rfl, ?_⟩) ?_ ?_
  rotate_left
  · intro w'; go_simp; with_reducible rfl
  rotate_left
  · simp only [Act.put, List.setIfInBounds_toArray, List.set_cons_zero, List.set_cons_succ, i64_w, i32_w]; rfl
  refine pure_ (i := 2) (N := some 16) (v := ?_) (a' := ?_) (ls 12 7) rfl rfl (by kernel_rfl) (fun _ _ _ h => h) (Or.inl ⟨by rfl, ?_⟩) ?_ ?_
  rotate_left
  · intro w'; go_simp; with_reducible rfl
  rotate_left
  · simp only [Act.put, List.setIfInBounds_toArray, List.set_cons_zero, List.set_cons_succ, i64_w, i32_w]; rfl
  refine pure_ (i := 3) (N := some 17) (v := ?_) (a' := ?_) (ls 12 15) rfl rfl (by kernel_rfl) (fun _ _ _ h => h) (Or.inl ⟨by rfl, ?_⟩) ?_ ?_
  rotate_left
  · intro w'; go_simp; with_reducible rfl
  rotate_left
  · simp only [Act.put, List.setIfInBounds_toArray, List.set_cons_zero, List.set_cons_succ, i64_w, i32_w]; rfl
  refine pure_ (i := 5) (N := some 19) (v := ?_) (a' := ?_) (ls 12 47) rfl rfl (by kernel_rfl) (fun _ _ _ h => h) (Or.inl ⟨by rfl, ?_⟩) ?_ ?_
  rotate_left
  · intro w'; go_simp; with_reducible rfl
  rotate_left
  · simp only [Act.put, List.setIfInBounds_toArray, List.set_cons_zero, List.set_cons_succ, i64_w, i32_w]; rfl
  refine take_ (i := 4) (N := some 18) (v := ?_) (a' := ?_) (ls 12 63) rfl rfl (by kernel_rfl) (fun _ _ _ h => h) (Or.inl ⟨by rfl, ?_⟩) hHeld ?_ ?_
  rotate_left
  · rintro w' s0; go_simp; with_reducible rfl
  rotate_left
  · simp only [Act.put, List.setIfInBounds_toArray, List.set_cons_zero, List.set_cons_succ, i64_w, i32_w]; rfl
  refine one_ (i := 6) (N := some 20) (ls 12 127) rfl rfl (by kernel_rfl) (by decide) (fun K hK => ?_)
  refine arr_append_stepN (N := some 20) rfl (by rfl) (.const (.slice none 0 0)) (.tmp 19) 62 3 1 8 (.int .i64 0) rfl Tryz.underlying62 infoI rfl (by decide) (by decide) none 0 0 [] rfl p xs.length c rfl (flat eI xs) (flat_length eI xs) (XR.out _ EX1.out).src (fun h => by have := (XR.out _ EX1.out); rw [h] at this; rw [this.none_]; rfl) (flat_cells eI xs) (arr_nil _ _ _) (by omega) ?_
  intro q d w3 hA3 hx3 hm3
  rw [Nat.zero_add xs.length]
  have X3 := Lib.hid (hx3.mono (S' := fun _ => False) (fun k hk => by cases hk))
  have A3 := Lib.hid hA3
  have M3 := Lib.hid hm3
  have d1 := blk_cell (X3.out.obj BX1.out.box (fun h => h)) 1
  simp at d1
  clear hA3 hx3 hm3
  refine hK.out _ _ d1 (fun hHeld => ?_)
  clear hK K
  refine norm_ (a' := ?_) ?_ ?_
  rotate_left
  · simp only [Act.put, List.setIfInBounds_toArray, List.set_cons_zero, List.set_cons_succ, i64_w, i32_w]; rfl
  refine one_ (i := 7) (N := some 21) (ls 12 255) rfl rfl (by kernel_rfl) (by decide) (fun K hK => ?_)
  refine value_ (w1 := ?_) (v := ?_) (by rfl) rfl ?_ ?_
  rotate_left 2
  · go_simp
    constructor
    · rfl
    · rfl
  refine hK.out _ _ (cell_alloc d1) (fun hHeld => ?_)
  clear hK K
  refine norm_ (a' := ?_) ?_ ?_
  rotate_left
  · simp only [Act.put, List.setIfInBounds_toArray, List.set_cons_zero, List.set_cons_succ, i64_w, i32_w]; rfl
  refine last_ (i := 8) (N := some 22) (ls 12 511) rfl rfl (by kernel_rfl) (by decide) (fun K hK => ?_)
  have BX4 := Lib.hid (BX1.out.on (X3.out.trans ((Ext.refl (fun _ => False) w3).alloc (.cells #[.slice q xs.length d] 62)) (fun _ _ h => h)))
  refine win_append_step (N := some 22) rfl (by rfl) (.tmp 18) (.tmp 21) 57 62 24 (.slice none 0 0) rfl Tryz.underlying57 infoSlI rfl (by decide) pw es.length cw (es.map Ent.w) rfl ⟨w3.heap.size, 0, none⟩ 1 rfl (.slice q xs.length d) (blk_cell (heap_alloc_new w3 (.cells #[.slice q xs.length d] 62)) 0) rfl BX4.out.ws (by omega) ?_
  intro p2 c2 w5 hW5 hx5 hm5
  have W5 := Lib.hid hW5
  have X5 := Lib.hid hx5
  have M5 := Lib.hid hm5
  have g1 := blk_cell (X5.out.obj BX4.out.box (fun e => (BX4.out.sw _ e).2 rfl)) 1
  have g2 := blk_frozen (X5.out.obj BX4.out.box (fun e => (BX4.out.sw _ e).2 rfl)) 1
  simp at g1
  clear hW5 hx5 hm5
  refine hK.out _ _ ?_
  clear hK K
  refine norm_ (a' := ?_) ?_ ?_
  rotate_left
  · simp only [Act.put, List.setIfInBounds_toArray, List.set_cons_zero, List.set_cons_succ, i64_w, i32_w]; rfl
  refine pure_ (i := 9) (N := some 23) (v := ?_) (a' := ?_) (ls 12 1023) rfl rfl (by kernel_rfl) (fun _ _ _ h => h) (Or.inl ⟨by rfl, ?_⟩) ?_ ?_
  rotate_left
  · intro w'; go_simp; with_reducible rfl
  rotate_left
  · simp only [Act.put, List.setIfInBounds_toArray, List.set_cons_zero, List.set_cons_succ, i64_w, i32_w]; rfl
  refine pure_ (i := 10) (N := some 24) (v := ?_) (a' := ?_) (ls 12 2047) rfl rfl (by kernel_rfl) (fun _ _ _ h => h) (Or.inl ⟨by rfl, ?_⟩) ?_ ?_
  rotate_left
  · intro w'; go_simp; with_reducible rfl
  rotate_left
  · simp only [Act.put, List.setIfInBounds_toArray, List.set_cons_zero, List.set_cons_succ, i64_w, i32_w]; rfl
  refine last_ (i := 11) (N := none) (ls 12 4095) rfl rfl (by kernel_rfl) (by decide) (fun K hK => ?_)
  refine skip_ (w1 := ?_) (by rfl) rfl ?_ ?_
  rotate_left 1
  · go_simp; rfl
  refine hK.out _ _ ?_
  clear hK K
  refine done_ (by kernel_rfl) ?_

  have PW := Lib.hid (BX4.out.putW W5.out X5.out M5.out)
  have Q3 := Lib.hid (show ∀ k, blkOf q = some k → W1.heap.size ≤ k ∧ k < w3.heap.size from fun k hk => ⟨(M3.out k hk).elim (fun h => by cases h) (fun h => h), arr_lt A3.out hk⟩)
  have EX2 := Lib.hid (show Ext S w (w5.setCell ⟨b, 1, none⟩ (.slice p2 (es.length + 1) c2)) from
    (EX1.out.trans (X3.out.trans ((Ext.refl (fun _ => False) w3).alloc (.cells #[.slice q xs.length d] 62)) (fun _ _ h => h)) (fun _ _ h => h.elim)).trans PW.out.2 (fun i hi h => h.elim (fun h => h) (fun h => PM.out i h hi)))
  have S2 := Lib.hid (show ∀ k, ((S k ∨ blkOf p1 = some k) ∨ blkOf p2 = some k) → S k ∨ w.heap.size ≤ k from fun k hk => by
    rcases hk with (h | h) | h
    · exact .inl h
    · by_cases hl : k < w.heap.size
      · exact .inl (PM.out k h hl)
      · exact .inr (by omega)
    · rcases M5.out k h with h1 | h1
      · exact .inl (B0.out.bx.sw k h1).1
      · have := (EX1.out.trans X3.out (fun _ _ h => h.elim)).size
        simp at h1
        exact .inr (by omega))
  have XE := Lib.hid (show Ext (fun k => S k) w w3 from EX1.out.trans X3.out (fun _ _ h => h.elim))
  have ES := Lib.hid (show Es eI 3 (fun k => ((S k ∨ blkOf p1 = some k) ∨ blkOf p2 = some k) ∨ N k) R' (w5.setCell ⟨b, 1, none⟩ (.slice p2 (es.length + 1) c2)) (es ++ [⟨p, c, q, d, xs⟩]) from by
    refine (B0.out.es.ext EX2.out (fun _ h => .inl h) (fun k hk => hk.elim (fun s => (S2.out k s).elim (fun h => .inl (.inl h)) .inr) (fun s => .inl (.inr s))) (fun _ h => h)).add ⟨?_, ?_, ?_, ?_, hxl⟩ (fun k hk => (P0.out k hk).2.1) HT.out
    · exact arr_ext A0.out EX2.out (fun k hk s => (P0.out k hk).1 (.inl s))
    · refine ((Rd.of_arr (E := eI) (by have := A3.out; simp only [Nat.zero_add, List.nil_append] at this; exact this)).on ((Ext.refl (fun _ => False) w3).alloc (.cells #[.slice q xs.length d] 62))).ext PW.out.2 (fun k hk _ s => ?_)
      have h3 := Q3.out k hk
      have hz := EX1.out.size
      rcases s with s | s
      · have := B0.out.bx.lt k s; simp at hz; omega
      · have h5 : k < W1.heap.size := BX1.out.ls.lt s
        omega
    · exact fun k hk => ⟨fun s => s.elim (fun s => (S2.out k s).elim (fun h => (P0.out k hk).1 (.inl h)) (fun h => by have := arr_lt A0.out hk; omega)) (fun s => (P0.out k hk).1 (.inr s)), (P0.out k hk).2.2⟩
    · exact fun k hk => ⟨fun s => by
        have h3 := Q3.out k hk
        have hz := EX1.out.size
        rcases s with ((s | s) | s) | s
        · have := B0.out.bx.lt k s; simp at hz; omega
        · have h5 : k < W1.heap.size := BX1.out.ls.lt s
          omega
        · rcases M5.out k s with h1 | h1
          · have h5 : k < W1.heap.size := BX1.out.ws.lt h1
            omega
          · simp at h1; omega
        · have := NLT.out k s; simp at hz; omega, by
        have h3 := Q3.out k hk
        have h4 := PW.out.2.size
        simp at h4 ⊢
        omega⟩)
  have K0 := Lib.hid (show ∀ X : Int, KeepStI S (fun k => (S k ∨ blkOf p1 = some k) ∨ blkOf p2 = some k) N R' w ((w5.setCell ⟨b, 1, none⟩ (.slice p2 (es.length + 1) c2)).setCell ⟨b, 2, none⟩ (.int .i64 X)) b (n + 1) from fun X => by
    have hb := PW.out.1.putB (i := 2) (v := .int .i64 X) rfl PW.out.1.ls PW.out.1.ws rfl rfl
    have hx : Ext (fun k => (S k ∨ blkOf p1 = some k) ∨ blkOf p2 = some k) (w5.setCell ⟨b, 1, none⟩ (.slice p2 (es.length + 1) c2)) _ := hb.2
    refine ⟨⟨es ++ [⟨p, c, q, d, xs⟩], p1, c1, p2, c2, X, by rw [List.length_append, List.length_cons, List.length_nil]; omega, ⟨?_, ?_⟩⟩, S2.out, ?_⟩
    · have := hb.1
      rw [List.length_append, List.map_append, List.map_append]
      simpa [Ent.l, Ent.w] using this
    · exact ES.out.ext hx (fun _ h => .inl h) (fun _ h => .inl h) (fun _ h => h)
    · refine EX2.out.trans hx (fun i hi h => ?_)
      rcases S2.out i h with h | h
      · exact h
      · omega)
  obtain ⟨d0', d1', d2', d3'⟩ := PW.out.1.cells
  have f2 := PW.out.1.free 2
  obtain ⟨W6, hW6⟩ : ∃ W6, w5.setCell ⟨b, 1, none⟩ (.slice p2 (es.length + 1) c2) = W6 := ⟨_, rfl⟩
  obtain ⟨S', hS'⟩ : ∃ S' : Nat → Prop, (fun k => (S k ∨ blkOf p1 = some k) ∨ blkOf p2 = some k) = S' := ⟨_, rfl⟩
  rw [hW6, hS'] at K0
  rw [hW6] at d2' f2 ⊢
  clear hW6 hS' PW Q3 EX2 S2 XE ES d0' d1' d3' d1 d0 d2 d3 f0 hHeld A3 M3 X3 W5 X5 M5 BX4 BX1 g1 g2
  go_wp2_with fail
  go_loopg [] (n + 1) (fun gk wr => KeepStI S S' N R' w wr b gk ∧ gk ≤ n + 1)
  case atStart => exact ⟨K0.out _, Nat.le_refl _⟩
  case round =>
    obtain ⟨⟨⟨es1, pl, cl, pw, cw, H, hes1, hB⟩, hS, hx⟩, hgk⟩ := hrel
    have BB := Lib.hid hB
    have SS := Lib.hid hS
    have XX := Lib.hid hx
    obtain ⟨e0, e1, e2, e3⟩ := hB.bx.cells
    clear hB hS hx
    have i2 : ¬ (4000 : Int) < (es1.length : Int) := by omega
    have EN := Lib.hid (show KeepEndI S N R' w b (n + 1) (.returned (.tuple #[])) wr from ⟨rfl, S', ⟨es1, pl, cl, pw, cw, H, by omega, BB.out⟩, SS.out, XX.out⟩)
    by_cases h1 : (1 : Int) < (es1.length : Int)
    · by_cases hH : (1000000 : Int) < H
      · obtain ⟨⟨p0, c0, q0, d0, x0⟩, t, rfl⟩ : ∃ e t, es1 = e :: t := by
          cases es1 with
          | nil => simp at h1
          | cons e t => exact ⟨e, t, rfl⟩
        have hln : (⟨p0, c0, q0, d0, x0⟩ :: t : List (Ent Int)).length = t.length + 1 := rfl
        have X1 : Bx 59 S' wr b pl (t.length + 1) cl (.slice p0 x0.length c0 :: t.map Ent.l) pw (t.length + 1) cw (.slice q0 x0.length d0 :: t.map Ent.w) H := BB.out.bx
        have O1 := BB.out.es.one ⟨p0, c0, q0, d0, x0⟩ (.head _)
        have ET := Lib.hid BB.out.es.tail
        obtain ⟨g, off, rfl, e4, hg1, hg2⟩ := X1.ls.get (i := 0) rfl
        obtain ⟨g2, off2, rfl, e5, hg3, hg4⟩ := X1.ws.get (i := 0) rfl
        rw [Nat.add_zero] at e4 e5
        have BX := Lib.hid X1
        have LT1 := Lib.hid X1.ls.tail
        have LT2 := Lib.hid X1.ws.tail
        have SM := Lib.hid (show ∀ w', Ext (fun _ => False) wr w' → Calls Tryz.prog 35 #[.slice p0 x0.length c0, .slice q0 x0.length d0] w' fun e w'' => e = .returned (.bool true) ∧ Ext (fun _ => False) w' w'' from fun w' hx => by
          have := sameI_any w' p0 q0 c0 d0 x0 x0 ((Rd.of_arr O1.arr).on hx) (O1.cop.on hx) O1.bd
          rwa [decide_eq_true rfl] at this)
        have CE := Lib.hid (show ∀ w', Ext (fun _ => False) wr w' → (w'.cell? ⟨b, 3, none⟩ = some (.bool false) ∧ w'.cell? ⟨b, 0, none⟩ = some (.slice (some ⟨g, off, none⟩) (t.length + 1) cl) ∧ w'.cell? ⟨b, 1, none⟩ = some (.slice (some ⟨g2, off2, none⟩) (t.length + 1) cw) ∧ w'.cell? ⟨g, off, none⟩ = some (.slice p0 x0.length c0) ∧ w'.cell? ⟨g2, off2, none⟩ = some (.slice q0 x0.length d0)) from fun w' hx => by
          have X2 := X1.on hx
          exact ⟨X2.cells.2.2.2, X2.cells.1, X2.cells.2.1, X2.ls.at0, X2.ws.at0⟩)
        clear X1 O1 EN K0
        rw [hln] at i2 h1 e0 e1
        go_wp2_with fail
        refine start_ (n := 24) (S := fun w' => (w'.cell? ⟨b, 3, none⟩ = some (.bool false) ∧ w'.cell? ⟨b, 0, none⟩ = some (.slice (some ⟨g, off, none⟩) (t.length + 1) cl) ∧ w'.cell? ⟨b, 1, none⟩ = some (.slice (some ⟨g2, off2, none⟩) (t.length + 1) cw) ∧ w'.cell? ⟨g, off, none⟩ = some (.slice p0 x0.length c0) ∧ w'.cell? ⟨g2, off2, none⟩ = some (.slice q0 x0.length d0))) (ds := [23]) (ls 24 0) (by kernel_rfl) rfl rfl (CE.out _ ((Ext.refl _ wr).drew)) (fun hHeld => ?_)
        refine pure_ (i := 0) (N := some 57) (v := ?_) (a' := ?_) (ls 24 1) rfl rfl (by kernel_rfl) (fun _ _ _ h => h) (Or.inl ⟨by rfl, ?_⟩) ?_ ?_
        rotate_left
        · intro w'; go_simp; with_reducible rfl
        rotate_left
        · simp only [Act.put, List.setIfInBounds_toArray, List.set_cons_zero, List.set_cons_succ, i64_w, i32_w]; rfl
        refine pure_ (i := 1) (N := some 58) (v := ?_) (a' := ?_) (ls 24 3) rfl rfl (by kernel_rfl) (fun _ _ _ h => h) (Or.inl ⟨by rfl, ?_⟩) ?_ ?_
        rotate_left
        · intro w'; go_simp; with_reducible rfl
        rotate_left
        · simp only [Act.put, List.setIfInBounds_toArray, List.set_cons_zero, List.set_cons_succ, i64_w, i32_w]; rfl
        refine pure_ (i := 2) (N := some 59) (v := ?_) (a' := ?_) (ls 24 7) rfl rfl (by kernel_rfl) (fun _ _ _ h => h) (Or.inl ⟨by rfl, ?_⟩) ?_ ?_
        rotate_left
        · intro w'; go_simp; with_reducible rfl
        rotate_left
        · simp only [Act.put, List.setIfInBounds_toArray, List.set_cons_zero, List.set_cons_succ, i64_w, i32_w]; rfl
        refine pure_ (i := 3) (N := some 60) (v := ?_) (a' := ?_) (ls 24 15) rfl rfl (by kernel_rfl) (fun _ _ _ h => h) (Or.inl ⟨by rfl, ?_⟩) ?_ ?_
        rotate_left
        · intro w'; go_simp; with_reducible rfl
        rotate_left
        · simp only [Act.put, List.setIfInBounds_toArray, List.set_cons_zero, List.set_cons_succ, i64_w, i32_w]; rfl
        refine take_ (i := 4) (N := some 61) (v := ?_) (a' := ?_) (ls 24 31) rfl rfl (by kernel_rfl) (fun _ _ _ h => h) (Or.inl ⟨by rfl, ?_⟩) hHeld ?_ ?_
        rotate_left
        · rintro w' ⟨s0, s1, s2, s3, s4⟩; go_simp; with_reducible rfl
        rotate_left
        · simp only [Act.put, List.setIfInBounds_toArray, List.set_cons_zero, List.set_cons_succ, i64_w, i32_w]; rfl
        refine pure_ (i := 5) (N := some 62) (v := ?_) (a' := ?_) (ls 24 63) rfl rfl (by kernel_rfl) (fun _ _ _ h => h) (Or.inl ⟨by rfl, ?_⟩) ?_ ?_
        rotate_left
        · intro w'; go_simp; with_reducible rfl
        rotate_left
        · simp only [Act.put, List.setIfInBounds_toArray, List.set_cons_zero, List.set_cons_succ, i64_w, i32_w]; rfl
        refine pure_ (i := 6) (N := some 63) (v := ?_) (a' := ?_) (ls 24 127) rfl rfl (by kernel_rfl) (fun _ _ _ h => h) (Or.inl ⟨by rfl, ?_⟩) ?_ ?_
        rotate_left
        · intro w'; go_simp; with_reducible rfl
        rotate_left
        · simp only [Act.put, List.setIfInBounds_toArray, List.set_cons_zero, List.set_cons_succ, i64_w, i32_w]; rfl
        refine pure_ (i := 7) (N := some 64) (v := ?_) (a' := ?_) (ls 24 255) rfl rfl (by kernel_rfl) (fun _ _ _ h => h) (Or.inl ⟨by rfl, ?_⟩) ?_ ?_
        rotate_left
        · intro w'; go_simp; with_reducible rfl
        rotate_left
        · simp only [Act.put, List.setIfInBounds_toArray, List.set_cons_zero, List.set_cons_succ, i64_w, i32_w]; rfl
        refine pure_ (i := 8) (N := some 65) (v := ?_) (a' := ?_) (ls 24 511) rfl rfl (by kernel_rfl) (fun _ _ _ h => h) (Or.inl ⟨by rfl, ?_⟩) ?_ ?_
        rotate_left
        · intro w'; go_simp; with_reducible rfl
        rotate_left
        · simp only [Act.put, List.setIfInBounds_toArray, List.set_cons_zero, List.set_cons_succ, i64_w, i32_w]; rfl
        refine pure_ (i := 12) (N := some 69) (v := ?_) (a' := ?_) (ls 24 4607) rfl rfl (by kernel_rfl) (fun _ _ _ h => h) (Or.inl ⟨by rfl, ?_⟩) ?_ ?_
        rotate_left
        · intro w'; go_simp; with_reducible rfl
        rotate_left
        · simp only [Act.put, List.setIfInBounds_toArray, List.set_cons_zero, List.set_cons_succ, i64_w, i32_w]; rfl
        refine pure_ (i := 13) (N := some 70) (v := ?_) (a' := ?_) (ls 24 12799) rfl rfl (by kernel_rfl) (fun _ _ _ h => h) (Or.inl ⟨by rfl, ?_⟩) ?_ ?_
        rotate_left
        · intro w'; go_simp; with_reducible rfl
        rotate_left
        · simp only [Act.put, List.setIfInBounds_toArray, List.set_cons_zero, List.set_cons_succ, i64_w, i32_w]; rfl
        refine pure_ (i := 14) (N := some 71) (v := ?_) (a' := ?_) (ls 24 29183) rfl rfl (by kernel_rfl) (fun _ _ _ h => h) (Or.inl ⟨by rfl, ?_⟩) ?_ ?_
        rotate_left
        · intro w'; go_simp; with_reducible rfl
        rotate_left
        · simp only [Act.put, List.setIfInBounds_toArray, List.set_cons_zero, List.set_cons_succ, i64_w, i32_w]; rfl
        refine take_ (i := 9) (N := some 66) (v := ?_) (a' := ?_) (ls 24 29695) rfl rfl (by kernel_rfl) (fun _ _ _ h => h) (Or.inl ⟨by rfl, ?_⟩) hHeld ?_ ?_
        rotate_left
        · rintro w' ⟨s0, s1, s2, s3, s4⟩; go_simp; with_reducible rfl
        rotate_left
        · simp only [Act.put, List.setIfInBounds_toArray, List.set_cons_zero, List.set_cons_succ, i64_w, i32_w]; rfl
        refine pure_ (i := 10) (N := some 67) (v := ?_) (a' := ?_) (ls 24 30719) rfl rfl (by kernel_rfl) (fun _ _ _ h => h) (Or.inl ⟨by rfl, ?_⟩) ?_ ?_
        rotate_left
        · intro w'; go_simp; with_reducible rfl
        rotate_left
        · simp only [Act.put, List.setIfInBounds_toArray, List.set_cons_zero, List.set_cons_succ, i64_w, i32_w]; rfl
        refine take_ (i := 11) (N := some 68) (v := ?_) (a' := ?_) (ls 24 32767) rfl rfl (by kernel_rfl) (fun _ _ _ h => h) (Or.inl ⟨by rfl, ?_⟩) hHeld ?_ ?_
        rotate_left
        · rintro w' ⟨s0, s1, s2, s3, s4⟩; go_simp; with_reducible rfl
        rotate_left
        · simp only [Act.put, List.setIfInBounds_toArray, List.set_cons_zero, List.set_cons_succ, i64_w, i32_w]; rfl
        refine take_ (i := 15) (N := some 72) (v := ?_) (a' := ?_) (ls 24 65535) rfl rfl (by kernel_rfl) (fun _ _ _ h => h) (Or.inl ⟨by rfl, ?_⟩) hHeld ?_ ?_
        rotate_left
        · rintro w' ⟨s0, s1, s2, s3, s4⟩; go_simp; with_reducible rfl
        rotate_left
        · simp only [Act.put, List.setIfInBounds_toArray, List.set_cons_zero, List.set_cons_succ, i64_w, i32_w]; rfl
        refine pure_ (i := 16) (N := some 73) (v := ?_) (a' := ?_) (ls 24 131071) rfl rfl (by kernel_rfl) (fun _ _ _ h => h) (Or.inl ⟨by rfl, ?_⟩) ?_ ?_
        rotate_left
        · intro w'; go_simp; with_reducible rfl
        rotate_left
        · simp only [Act.put, List.setIfInBounds_toArray, List.set_cons_zero, List.set_cons_succ, i64_w, i32_w]; rfl
        refine take_ (i := 17) (N := some 74) (v := ?_) (a' := ?_) (ls 24 262143) rfl rfl (by kernel_rfl) (fun _ _ _ h => h) (Or.inl ⟨by rfl, ?_⟩) hHeld ?_ ?_
        rotate_left
        · rintro w' ⟨s0, s1, s2, s3, s4⟩; go_simp; with_reducible rfl
        rotate_left
        · simp only [Act.put, List.setIfInBounds_toArray, List.set_cons_zero, List.set_cons_succ, i64_w, i32_w]; rfl
        refine one_ (i := 18) (N := some 75) (ls 24 524287) rfl rfl (by kernel_rfl) (by decide) (fun K hK => ?_)
        refine goes_ Tryz.func35 (by kernel_rfl) rfl #[.slice p0 x0.length c0, .slice q0 x0.length d0] (by rfl) rfl rfl (by (try simp only [List.map_toArray, List.map_cons, List.map_nil]); first | done | rfl) ?_
        refine (SM.out _ ((Ext.refl _ wr).drew)).mono ?_
        rintro e W18 ⟨rfl, x18⟩
        refine ⟨_, rfl, ?_⟩
        refine hK.out _ _ (CE.out _ (((Ext.refl _ wr).drew).trans x18 (fun _ _ h => h))) (fun hHeld => ?_)
        clear hK K
        have BX18 := Lib.hid (BX.out.on (((Ext.refl _ wr).drew).trans x18 (fun _ _ h => h)))
        have v3 := BX18.out.cells.2.2.2
        have v3f := BX18.out.free 3
        refine norm_ (a' := ?_) ?_ ?_
        rotate_left
        · simp only [Act.put, List.setIfInBounds_toArray, List.set_cons_zero, List.set_cons_succ, i64_w, i32_w]; rfl
        refine pure_ (i := 19) (N := some 76) (v := ?_) (a' := ?_) (ls 24 1048575) rfl rfl (by kernel_rfl) (fun _ _ _ h => h) (Or.inl ⟨by rfl, ?_⟩) ?_ ?_
        rotate_left
        · intro w'; go_simp; with_reducible rfl
        rotate_left
        · simp only [Act.put, List.setIfInBounds_toArray, List.set_cons_zero, List.set_cons_succ, i64_w, i32_w]; rfl
        refine pure_ (i := 20) (N := some 77) (v := ?_) (a' := ?_) (ls 24 2097151) rfl rfl (by kernel_rfl) (fun _ _ _ h => h) (Or.inl ⟨by rfl, ?_⟩) ?_ ?_
        rotate_left
        · intro w'; go_simp; with_reducible rfl
        rotate_left
        · simp only [Act.put, List.setIfInBounds_toArray, List.set_cons_zero, List.set_cons_succ, i64_w, i32_w]; rfl
        refine pure_ (i := 21) (N := some 78) (v := ?_) (a' := ?_) (ls 24 4194303) rfl rfl (by kernel_rfl) (fun _ _ _ h => h) (Or.inl ⟨by rfl, ?_⟩) ?_ ?_
        rotate_left
        · intro w'; go_simp; with_reducible rfl
        rotate_left
        · simp only [Act.put, List.setIfInBounds_toArray, List.set_cons_zero, List.set_cons_succ, i64_w, i32_w]; rfl
        refine pure_ (i := 22) (N := some 79) (v := ?_) (a' := ?_) (ls 24 8388607) rfl rfl (by kernel_rfl) (fun _ _ _ h => h) (Or.inl ⟨by rfl, ?_⟩) ?_ ?_
        rotate_left
        · intro w'; go_simp; with_reducible rfl
        rotate_left
        · simp only [Act.put, List.setIfInBounds_toArray, List.set_cons_zero, List.set_cons_succ, i64_w, i32_w]; rfl
        refine last_ (i := 23) (N := none) (ls 24 16777215) rfl rfl (by kernel_rfl) (by decide) (fun K hK => ?_)
        refine skip_ (w1 := ?_) (by rfl) rfl ?_ ?_
        rotate_left 1
        · go_simp; rfl
        refine hK.out _ _ ?_
        clear hK K
        refine done_ (by kernel_rfl) ?_

        have P4 := Lib.hid (BX18.out.putB (i := 3) (v := .bool false) rfl BX18.out.ls BX18.out.ws rfl rfl)
        have X4 := Lib.hid (show Ext S' wr (W18.setCell ⟨b, 3, none⟩ (.bool false)) from ((((Ext.refl (fun _ => False) wr).drew).trans x18 (fun _ _ h => h)).mono (fun _ h => h.elim)).trans P4.out.2 (fun _ _ h => h))
        obtain ⟨W20, hW20⟩ : ∃ W20, W18.setCell ⟨b, 3, none⟩ (.bool false) = W20 := ⟨_, rfl⟩
        rw [hW20] at P4 X4 ⊢
        clear hW20 e0 e1 e2 e3 e4 e5 v3 v3f BX18 hHeld x18 BX CE
        obtain ⟨e0, e1, e2, e3⟩ := P4.out.1.cells
        have e4 := P4.out.1.ls.at0
        have e2f := P4.out.1.free 2
        have B5 := Lib.hid (P4.out.1.on ((Ext.refl (fun _ => False) W20).drew))
        go_wp2_with fail
        refine start_ (n := 17) (S := fun w' => (w'.cell? ⟨b, 2, none⟩ = some (.int .i64 H) ∧ w'.cell? ⟨b, 0, none⟩ = some (.slice (some ⟨g, off, none⟩) (t.length + 1) cl) ∧ w'.cell? ⟨g, off, none⟩ = some (.slice p0 x0.length c0))) (ds := [16]) (ls 17 0) (by kernel_rfl) rfl rfl ⟨e2, e0, e4⟩ (fun hHeld => ?_)
        refine pure_ (i := 0) (N := some 80) (v := ?_) (a' := ?_) (ls 17 1) rfl rfl (by kernel_rfl) (fun _ _ _ h => h) (Or.inl ⟨by rfl, ?_⟩) ?_ ?_
        rotate_left
        · intro w'; go_simp; with_reducible rfl
        rotate_left
        · simp only [Act.put, List.setIfInBounds_toArray, List.set_cons_zero, List.set_cons_succ, i64_w, i32_w]; rfl
        refine pure_ (i := 1) (N := some 81) (v := ?_) (a' := ?_) (ls 17 3) rfl rfl (by kernel_rfl) (fun _ _ _ h => h) (Or.inl ⟨by rfl, ?_⟩) ?_ ?_
        rotate_left
        · intro w'; go_simp; with_reducible rfl
        rotate_left
        · simp only [Act.put, List.setIfInBounds_toArray, List.set_cons_zero, List.set_cons_succ, i64_w, i32_w]; rfl
        refine pure_ (i := 2) (N := some 82) (v := ?_) (a' := ?_) (ls 17 7) rfl rfl (by kernel_rfl) (fun _ _ _ h => h) (Or.inl ⟨by rfl, ?_⟩) ?_ ?_
        rotate_left
        · intro w'; go_simp; with_reducible rfl
        rotate_left
        · simp only [Act.put, List.setIfInBounds_toArray, List.set_cons_zero, List.set_cons_succ, i64_w, i32_w]; rfl
        refine pure_ (i := 3) (N := some 83) (v := ?_) (a' := ?_) (ls 17 15) rfl rfl (by kernel_rfl) (fun _ _ _ h => h) (Or.inl ⟨by rfl, ?_⟩) ?_ ?_
        rotate_left
        · intro w'; go_simp; with_reducible rfl
        rotate_left
        · simp only [Act.put, List.setIfInBounds_toArray, List.set_cons_zero, List.set_cons_succ, i64_w, i32_w]; rfl
        refine pure_ (i := 5) (N := some 85) (v := ?_) (a' := ?_) (ls 17 47) rfl rfl (by kernel_rfl) (fun _ _ _ h => h) (Or.inl ⟨by rfl, ?_⟩) ?_ ?_
        rotate_left
        · intro w'; go_simp; with_reducible rfl
        rotate_left
        · simp only [Act.put, List.setIfInBounds_toArray, List.set_cons_zero, List.set_cons_succ, i64_w, i32_w]; rfl
        refine pure_ (i := 6) (N := some 86) (v := ?_) (a' := ?_) (ls 17 111) rfl rfl (by kernel_rfl) (fun _ _ _ h => h) (Or.inl ⟨by rfl, ?_⟩) ?_ ?_
        rotate_left
        · intro w'; go_simp; with_reducible rfl
        rotate_left
        · simp only [Act.put, List.setIfInBounds_toArray, List.set_cons_zero, List.set_cons_succ, i64_w, i32_w]; rfl
        refine pure_ (i := 7) (N := some 87) (v := ?_) (a' := ?_) (ls 17 239) rfl rfl (by kernel_rfl) (fun _ _ _ h => h) (Or.inl ⟨by rfl, ?_⟩) ?_ ?_
        rotate_left
        · intro w'; go_simp; with_reducible rfl
        rotate_left
        · simp only [Act.put, List.setIfInBounds_toArray, List.set_cons_zero, List.set_cons_succ, i64_w, i32_w]; rfl
        refine take_ (i := 4) (N := some 84) (v := ?_) (a' := ?_) (ls 17 255) rfl rfl (by kernel_rfl) (fun _ _ _ h => h) (Or.inl ⟨by rfl, ?_⟩) hHeld ?_ ?_
        rotate_left
        · rintro w' ⟨s0, s1, s2⟩; go_simp; with_reducible rfl
        rotate_left
        · simp only [Act.put, List.setIfInBounds_toArray, List.set_cons_zero, List.set_cons_succ, i64_w, i32_w]; rfl
        refine take_ (i := 8) (N := some 88) (v := ?_) (a' := ?_) (ls 17 511) rfl rfl (by kernel_rfl) (fun _ _ _ h => h) (Or.inl ⟨by rfl, ?_⟩) hHeld ?_ ?_
        rotate_left
        · rintro w' ⟨s0, s1, s2⟩; go_simp; with_reducible rfl
        rotate_left
        · simp only [Act.put, List.setIfInBounds_toArray, List.set_cons_zero, List.set_cons_succ, i64_w, i32_w]; rfl
        refine pure_ (i := 9) (N := some 89) (v := ?_) (a' := ?_) (ls 17 1023) rfl rfl (by kernel_rfl) (fun _ _ _ h => h) (Or.inl ⟨by rfl, ?_⟩) ?_ ?_
        rotate_left
        · intro w'; go_simp; with_reducible rfl
        rotate_left
        · simp only [Act.put, List.setIfInBounds_toArray, List.set_cons_zero, List.set_cons_succ, i64_w, i32_w]; rfl
        refine take_ (i := 10) (N := some 90) (v := ?_) (a' := ?_) (ls 17 2047) rfl rfl (by kernel_rfl) (fun _ _ _ h => h) (Or.inl ⟨by rfl, ?_⟩) hHeld ?_ ?_
        rotate_left
        · rintro w' ⟨s0, s1, s2⟩; go_simp; with_reducible rfl
        rotate_left
        · simp only [Act.put, List.setIfInBounds_toArray, List.set_cons_zero, List.set_cons_succ, i64_w, i32_w]; rfl
        refine pure_ (i := 11) (N := some 91) (v := ?_) (a' := ?_) (ls 17 4095) rfl rfl (by kernel_rfl) (fun _ _ _ h => h) (Or.inl ⟨by rfl, ?_⟩) ?_ ?_
        rotate_left
        · intro w'; go_simp; with_reducible rfl
        rotate_left
        · simp only [Act.put, List.setIfInBounds_toArray, List.set_cons_zero, List.set_cons_succ, i64_w, i32_w]; rfl
        refine pure_ (i := 12) (N := some 92) (v := ?_) (a' := ?_) (ls 17 8191) rfl rfl (by kernel_rfl) (fun _ _ _ h => h) (Or.inl ⟨by rfl, ?_⟩) ?_ ?_
        rotate_left
        · intro w'; go_simp; with_reducible rfl
        rotate_left
        · simp only [Act.put, List.setIfInBounds_toArray, List.set_cons_zero, List.set_cons_succ, i64_w, i32_w]; rfl
        refine pure_ (i := 13) (N := some 93) (v := ?_) (a' := ?_) (ls 17 16383) rfl rfl (by kernel_rfl) (fun _ _ _ h => h) (Or.inl ⟨by rfl, ?_⟩) ?_ ?_
        rotate_left
        · intro w'; go_simp; with_reducible rfl
        rotate_left
        · simp only [Act.put, List.setIfInBounds_toArray, List.set_cons_zero, List.set_cons_succ, i64_w, i32_w]; rfl
        refine pure_ (i := 14) (N := some 94) (v := ?_) (a' := ?_) (ls 17 32767) rfl rfl (by kernel_rfl) (fun _ _ _ h => h) (Or.inl ⟨by rfl, ?_⟩) ?_ ?_
        rotate_left
        · intro w'; go_simp; with_reducible rfl
        rotate_left
        · simp only [Act.put, List.setIfInBounds_toArray, List.set_cons_zero, List.set_cons_succ, i64_w, i32_w]; rfl
        refine pure_ (i := 15) (N := some 95) (v := ?_) (a' := ?_) (ls 17 65535) rfl rfl (by kernel_rfl) (fun _ _ _ h => h) (Or.inl ⟨by rfl, ?_⟩) ?_ ?_
        rotate_left
        · intro w'; go_simp; with_reducible rfl
        rotate_left
        · simp only [Act.put, List.setIfInBounds_toArray, List.set_cons_zero, List.set_cons_succ, i64_w, i32_w]; rfl
        refine last_ (i := 16) (N := none) (ls 17 131071) rfl rfl (by kernel_rfl) (by decide) (fun K hK => ?_)
        refine skip_ (w1 := ?_) (by rfl) rfl ?_ ?_
        rotate_left 1
        · go_simp; rfl
        refine hK.out _ _ ?_
        clear hK K
        refine done_ (by kernel_rfl) ?_

        have P5 := Lib.hid (P4.out.1.putB (i := 2) (v := .int .i64 (wrap64 (wrap64 (H - (c0 : Int)) - 1))) (H2 := wrap64 (wrap64 (H - (c0 : Int)) - 1)) rfl P4.out.1.ls P4.out.1.ws rfl rfl)
        have P6 := Lib.hid (And.intro (P5.out.1.on ((Ext.refl (fun _ => False) _).drew)) (P5.out.2.drew))
        obtain ⟨W21, hW21⟩ : ∃ W21, (W20.setCell ⟨b, 2, none⟩ (.int .i64 (wrap64 (wrap64 (H - (c0 : Int)) - 1)))).drew = W21 := ⟨_, rfl⟩
        rw [hW21] at P6 ⊢
        clear hW21 P5 e0 e1 e2 e3 e4 e2f hHeld
        obtain ⟨e0, e1, e2, e3⟩ := P6.out.1.cells
        have e0f := P6.out.1.free 0
        have e1f := P6.out.1.free 1
        have k1 : ¬ (cl : Int) = 1 := by omega
        have k2 : ¬ (cw : Int) = 1 := by omega
        have k3 : (t.length : Int) + 1 ≤ (cl : Int) := by omega
        have k4 : (t.length : Int) + 1 ≤ (cw : Int) := by omega
        have P7 := Lib.hid (P6.out.1.putB (i := 0) (v := .slice (some ⟨g, off + 1, none⟩) t.length (cl - 1)) rfl P6.out.1.ls.tail' P6.out.1.ws rfl rfl)
        have P8 := Lib.hid (P7.out.1.putB (i := 1) (v := .slice (some ⟨g2, off2 + 1, none⟩) t.length (cw - 1)) rfl P7.out.1.ls P7.out.1.ws.tail' rfl rfl)
        have X8 := Lib.hid (((X4.out.trans P6.out.2 (fun _ _ h => h)).trans P7.out.2 (fun _ _ h => h)).trans P8.out.2 (fun _ _ h => h))
        have K9 := Lib.hid (show KeepStI S S' N R' w _ b t.length from ⟨⟨t, _, _, _, _, _, Nat.le_refl _, P8.out.1, ET.out.ext X8.out (fun _ h => .inl h) (fun _ h => .inl h) (fun _ h => h)⟩, SS.out, XX.out.trans X8.out (fun i hi h => (SS.out i h).elim (fun h => h) (fun h => by omega))⟩)
        clear P4 X4 P6 P7 P8 X8 ET XX SS SM BB LT1 LT2
        have hlt : t.length < gk := by rw [hln] at hes1; omega
        go_wp2_with fail
        go_roundg t.length
        case measure => exact hlt
        case rel => exact ⟨K9.out, by omega⟩

      · go_wp2_with fail
        go_end0
        exact EN.out
    · go_wp2_with fail
      go_end0
      exact EN.out

def StaysEndI (S N R : Nat → Prop) (w : World) (b : Nat) (es : List (Ent Int)) (pl : Option Addr) (cl : Nat) (pw : Option Addr) (cw : Nat) (H : Int) (w' : World) : Prop :=
  Book eI 3 59 S N R w' b es pl cl pw cw H ∧ Ext S w w'
set_option maxRecDepth 100000 in
set_option maxHeartbeats 8000000 in
theorem staysI_any {S N R : Nat → Prop} {w : World} {b : Nat} {es : List (Ent Int)} {pl : Option Addr} {cl : Nat} {pw : Option Addr} {cw : Nat} {H : Int} (h : Book eI 3 59 S N R w b es pl cl pw cw H) (hn : es.length ≤ 1000) :
    Calls Tryz.prog 54 #[.pointer (some ⟨b, 0, none⟩)] w fun e w' => e = .returned (.bool true) ∧ StaysEndI S N R w b es pl cl pw cw H w' := by
  have B0 := Lib.hid (show StaysEndI S N R w b es pl cl pw cw H w from ⟨h, Ext.refl _ _⟩)
  clear h
  go_enter Tryz.func54, Tryz.ntmps54
  go_wp2_with fail
  go_loopw [3] (fun i wr => ∃ k : Nat, i = .int .i64 k ∧ k ≤ es.length ∧ StaysEndI S N R w b es pl cl pw cw H wr) (fun i _ => es.length - (intOf i).toNat)
  case atStart => exact ⟨0, rfl, Nat.zero_le _, B0.out⟩
  case round =>
    obtain ⟨k, rfl, hk, hst⟩ := hrel
    have BB := Lib.hid hst.1
    have XX := Lib.hid hst.2
    have EN := Lib.hid hst
    obtain ⟨e0, e1, e2, e3⟩ := hst.1.bx.cells
    clear hst
    by_cases hlt : k < es.length
    · have i1 : (k : Int) < (es.length : Int) := by omega
      obtain ⟨⟨p0, c0, q0, d0, x0⟩, he⟩ : ∃ e, es[k]? = some e := ⟨_, List.getElem?_eq_getElem hlt⟩
      have O1 := BB.out.es.one _ (List.mem_of_getElem? he)
      obtain ⟨g, off, hpl, e4, hg1, hg2⟩ := BB.out.bx.ls.get (i := k) (v := .slice p0 x0.length c0) (by rw [List.getElem?_map, he]; rfl)
      obtain ⟨g2, off2, hpw, e5, hg3, hg4⟩ := BB.out.bx.ws.get (i := k) (v := .slice q0 x0.length d0) (by rw [List.getElem?_map, he]; rfl)
      have SM := Lib.hid (show ∀ w', Ext (fun _ => False) wr w' → Calls Tryz.prog 35 #[.slice p0 x0.length c0, .slice q0 x0.length d0] w' fun e w'' => e = .returned (.bool true) ∧ Ext (fun _ => False) w' w'' from fun w' hx => by
        have := sameI_any w' p0 q0 c0 d0 x0 x0 ((Rd.of_arr O1.arr).on hx) (O1.cop.on hx) O1.bd
        rwa [decide_eq_true rfl] at this)
      rw [hpl] at e0
      rw [hpw] at e1
      have CE := Lib.hid (show ∀ w', Ext (fun _ => False) wr w' → (w'.cell? ⟨b, 3, none⟩ = some (.bool false) ∧ w'.cell? ⟨b, 0, none⟩ = some (.slice (some ⟨g, off, none⟩) es.length cl) ∧ w'.cell? ⟨b, 1, none⟩ = some (.slice (some ⟨g2, off2, none⟩) es.length cw) ∧ w'.cell? ⟨g, off + k, none⟩ = some (.slice p0 x0.length c0) ∧ w'.cell? ⟨g2, off2 + k, none⟩ = some (.slice q0 x0.length d0)) from fun w' hx => by
        have X2 := (BB.out.on hx).bx.cells
        exact ⟨X2.2.2.2, hpl ▸ X2.1, hpw ▸ X2.2.1, (hx.cell (p := ⟨g, off + k, none⟩) (World.block_lt_of_cell? _ _ e4) (fun h => h)).trans e4, (hx.cell (p := ⟨g2, off2 + k, none⟩) (World.block_lt_of_cell? _ _ e5) (fun h => h)).trans e5⟩)
      clear O1 EN B0 hpl hpw he e4 e5 e3 e2 e1
      go_wp2_with fail
      refine start_ (n := 26) (S := fun w' => (w'.cell? ⟨b, 3, none⟩ = some (.bool false) ∧ w'.cell? ⟨b, 0, none⟩ = some (.slice (some ⟨g, off, none⟩) es.length cl) ∧ w'.cell? ⟨b, 1, none⟩ = some (.slice (some ⟨g2, off2, none⟩) es.length cw) ∧ w'.cell? ⟨g, off + k, none⟩ = some (.slice p0 x0.length c0) ∧ w'.cell? ⟨g2, off2 + k, none⟩ = some (.slice q0 x0.length d0))) (ds := [25]) (ls 26 0) (by kernel_rfl) rfl rfl (CE.out _ ((Ext.refl _ wr).drew)) (fun hHeld => ?_)
      refine pure_ (i := 0) (N := some 13) (v := ?_) (a' := ?_) (ls 26 1) rfl rfl (by kernel_rfl) (fun _ _ _ h => h) (Or.inl ⟨by rfl, ?_⟩) ?_ ?_
      rotate_left
      · intro w'; go_simp; with_reducible rfl
      rotate_left
      · simp only [Act.put, List.setIfInBounds_toArray, List.set_cons_zero, List.set_cons_succ, i64_w, i32_w]; rfl
      refine pure_ (i := 1) (N := some 14) (v := ?_) (a' := ?_) (ls 26 3) rfl rfl (by kernel_rfl) (fun _ _ _ h => h) (Or.inl ⟨by rfl, ?_⟩) ?_ ?_
      rotate_left
      · intro w'; go_simp; with_reducible rfl
      rotate_left
      · simp only [Act.put, List.setIfInBounds_toArray, List.set_cons_zero, List.set_cons_succ, i64_w, i32_w]; rfl
      refine pure_ (i := 2) (N := some 15) (v := ?_) (a' := ?_) (ls 26 7) rfl rfl (by kernel_rfl) (fun _ _ _ h => h) (Or.inl ⟨by rfl, ?_⟩) ?_ ?_
      rotate_left
      · intro w'; go_simp; with_reducible rfl
      rotate_left
      · simp only [Act.put, List.setIfInBounds_toArray, List.set_cons_zero, List.set_cons_succ, i64_w, i32_w]; rfl
      refine pure_ (i := 3) (N := some 16) (v := ?_) (a' := ?_) (ls 26 15) rfl rfl (by kernel_rfl) (fun _ _ _ h => h) (Or.inl ⟨by rfl, ?_⟩) ?_ ?_
      rotate_left
      · intro w'; go_simp; with_reducible rfl
      rotate_left
      · simp only [Act.put, List.setIfInBounds_toArray, List.set_cons_zero, List.set_cons_succ, i64_w, i32_w]; rfl
      refine take_ (i := 4) (N := some 17) (v := ?_) (a' := ?_) (ls 26 31) rfl rfl (by kernel_rfl) (fun _ _ _ h => h) (Or.inl ⟨by rfl, ?_⟩) hHeld ?_ ?_
      rotate_left
      · rintro w' ⟨s0, s1, s2, s3, s4⟩; go_simp; with_reducible rfl
      rotate_left
      · simp only [Act.put, List.setIfInBounds_toArray, List.set_cons_zero, List.set_cons_succ, i64_w, i32_w]; rfl
      refine pure_ (i := 5) (N := some 18) (v := ?_) (a' := ?_) (ls 26 63) rfl rfl (by kernel_rfl) (fun _ _ _ h => h) (Or.inl ⟨by rfl, ?_⟩) ?_ ?_
      rotate_left
      · intro w'; go_simp; with_reducible rfl
      rotate_left
      · simp only [Act.put, List.setIfInBounds_toArray, List.set_cons_zero, List.set_cons_succ, i64_w, i32_w]; rfl
      refine pure_ (i := 6) (N := some 19) (v := ?_) (a' := ?_) (ls 26 127) rfl rfl (by kernel_rfl) (fun _ _ _ h => h) (Or.inl ⟨by rfl, ?_⟩) ?_ ?_
      rotate_left
      · intro w'; go_simp; with_reducible rfl
      rotate_left
      · simp only [Act.put, List.setIfInBounds_toArray, List.set_cons_zero, List.set_cons_succ, i64_w, i32_w]; rfl
      refine pure_ (i := 7) (N := some 20) (v := ?_) (a' := ?_) (ls 26 255) rfl rfl (by kernel_rfl) (fun _ _ _ h => h) (Or.inl ⟨by rfl, ?_⟩) ?_ ?_
      rotate_left
      · intro w'; go_simp; with_reducible rfl
      rotate_left
      · simp only [Act.put, List.setIfInBounds_toArray, List.set_cons_zero, List.set_cons_succ, i64_w, i32_w]; rfl
      refine pure_ (i := 8) (N := some 21) (v := ?_) (a' := ?_) (ls 26 511) rfl rfl (by kernel_rfl) (fun _ _ _ h => h) (Or.inl ⟨by rfl, ?_⟩) ?_ ?_
      rotate_left
      · intro w'; go_simp; with_reducible rfl
      rotate_left
      · simp only [Act.put, List.setIfInBounds_toArray, List.set_cons_zero, List.set_cons_succ, i64_w, i32_w]; rfl
      refine pure_ (i := 10) (N := some 23) (v := ?_) (a' := ?_) (ls 26 1535) rfl rfl (by kernel_rfl) (fun _ _ _ h => h) (Or.inl ⟨by rfl, ?_⟩) ?_ ?_
      rotate_left
      · intro w'; go_simp; with_reducible rfl
      rotate_left
      · simp only [Act.put, List.setIfInBounds_toArray, List.set_cons_zero, List.set_cons_succ, i64_w, i32_w]; rfl
      refine pure_ (i := 13) (N := some 26) (v := ?_) (a' := ?_) (ls 26 9727) rfl rfl (by kernel_rfl) (fun _ _ _ h => h) (Or.inl ⟨by rfl, ?_⟩) ?_ ?_
      rotate_left
      · intro w'; go_simp; with_reducible rfl
      rotate_left
      · simp only [Act.put, List.setIfInBounds_toArray, List.set_cons_zero, List.set_cons_succ, i64_w, i32_w]; rfl
      refine pure_ (i := 14) (N := some 27) (v := ?_) (a' := ?_) (ls 26 26111) rfl rfl (by kernel_rfl) (fun _ _ _ h => h) (Or.inl ⟨by rfl, ?_⟩) ?_ ?_
      rotate_left
      · intro w'; go_simp; with_reducible rfl
      rotate_left
      · simp only [Act.put, List.setIfInBounds_toArray, List.set_cons_zero, List.set_cons_succ, i64_w, i32_w]; rfl
      refine pure_ (i := 15) (N := some 28) (v := ?_) (a' := ?_) (ls 26 58879) rfl rfl (by kernel_rfl) (fun _ _ _ h => h) (Or.inl ⟨by rfl, ?_⟩) ?_ ?_
      rotate_left
      · intro w'; go_simp; with_reducible rfl
      rotate_left
      · simp only [Act.put, List.setIfInBounds_toArray, List.set_cons_zero, List.set_cons_succ, i64_w, i32_w]; rfl
      refine pure_ (i := 17) (N := some 30) (v := ?_) (a' := ?_) (ls 26 189951) rfl rfl (by kernel_rfl) (fun _ _ _ h => h) (Or.inl ⟨by rfl, ?_⟩) ?_ ?_
      rotate_left
      · intro w'; go_simp; with_reducible rfl
      rotate_left
      · simp only [Act.put, List.setIfInBounds_toArray, List.set_cons_zero, List.set_cons_succ, i64_w, i32_w]; rfl
      refine take_ (i := 9) (N := some 22) (v := ?_) (a' := ?_) (ls 26 190463) rfl rfl (by kernel_rfl) (fun _ _ _ h => h) (Or.inl ⟨by rfl, ?_⟩) hHeld ?_ ?_
      rotate_left
      · rintro w' ⟨s0, s1, s2, s3, s4⟩; go_simp; with_reducible rfl
      rotate_left
      · simp only [Act.put, List.setIfInBounds_toArray, List.set_cons_zero, List.set_cons_succ, i64_w, i32_w]; rfl
      refine pure_ (i := 11) (N := some 24) (v := ?_) (a' := ?_) (ls 26 192511) rfl rfl (by kernel_rfl) (fun _ _ _ h => h) (Or.inl ⟨by rfl, ?_⟩) ?_ ?_
      rotate_left
      · intro w'; go_simp; with_reducible rfl
      rotate_left
      · simp only [Act.put, List.setIfInBounds_toArray, List.set_cons_zero, List.set_cons_succ, i64_w, i32_w]; rfl
      refine take_ (i := 12) (N := some 25) (v := ?_) (a' := ?_) (ls 26 196607) rfl rfl (by kernel_rfl) (fun _ _ _ h => h) (Or.inl ⟨by rfl, ?_⟩) hHeld ?_ ?_
      rotate_left
      · rintro w' ⟨s0, s1, s2, s3, s4⟩; go_simp; with_reducible rfl
      rotate_left
      · simp only [Act.put, List.setIfInBounds_toArray, List.set_cons_zero, List.set_cons_succ, i64_w, i32_w]; rfl
      refine take_ (i := 16) (N := some 29) (v := ?_) (a' := ?_) (ls 26 262143) rfl rfl (by kernel_rfl) (fun _ _ _ h => h) (Or.inl ⟨by rfl, ?_⟩) hHeld ?_ ?_
      rotate_left
      · rintro w' ⟨s0, s1, s2, s3, s4⟩; go_simp; with_reducible rfl
      rotate_left
      · simp only [Act.put, List.setIfInBounds_toArray, List.set_cons_zero, List.set_cons_succ, i64_w, i32_w]; rfl
      refine pure_ (i := 18) (N := some 31) (v := ?_) (a' := ?_) (ls 26 524287) rfl rfl (by kernel_rfl) (fun _ _ _ h => h) (Or.inl ⟨by rfl, ?_⟩) ?_ ?_
      rotate_left
      · intro w'; go_simp; with_reducible rfl
      rotate_left
      · simp only [Act.put, List.setIfInBounds_toArray, List.set_cons_zero, List.set_cons_succ, i64_w, i32_w]; rfl
      refine take_ (i := 19) (N := some 32) (v := ?_) (a' := ?_) (ls 26 1048575) rfl rfl (by kernel_rfl) (fun _ _ _ h => h) (Or.inl ⟨by rfl, ?_⟩) hHeld ?_ ?_
      rotate_left
      · rintro w' ⟨s0, s1, s2, s3, s4⟩; go_simp; with_reducible rfl
      rotate_left
      · simp only [Act.put, List.setIfInBounds_toArray, List.set_cons_zero, List.set_cons_succ, i64_w, i32_w]; rfl
      refine one_ (i := 20) (N := some 33) (ls 26 2097151) rfl rfl (by kernel_rfl) (by decide) (fun K hK => ?_)
      refine goes_ Tryz.func35 (by kernel_rfl) rfl #[.slice p0 x0.length c0, .slice q0 x0.length d0] (by rfl) rfl rfl (by (try simp only [List.map_toArray, List.map_cons, List.map_nil]); first | done | rfl) ?_
      refine (SM.out _ ((Ext.refl _ wr).drew)).mono ?_
      rintro e W20 ⟨rfl, x20⟩
      refine ⟨_, rfl, ?_⟩
      refine hK.out _ _ (CE.out _ (((Ext.refl _ wr).drew).trans x20 (fun _ _ h => h))) (fun hHeld => ?_)
      clear hK K
      have BX18 := Lib.hid (BB.out.on (((Ext.refl _ wr).drew).trans x20 (fun _ _ h => h)))
      have v3 := BX18.out.bx.cells.2.2.2
      have v3f := BX18.out.bx.free 3
      refine norm_ (a' := ?_) ?_ ?_
      rotate_left
      · simp only [Act.put, List.setIfInBounds_toArray, List.set_cons_zero, List.set_cons_succ, i64_w, i32_w]; rfl
      refine pure_ (i := 21) (N := some 34) (v := ?_) (a' := ?_) (ls 26 4194303) rfl rfl (by kernel_rfl) (fun _ _ _ h => h) (Or.inl ⟨by rfl, ?_⟩) ?_ ?_
      rotate_left
      · intro w'; go_simp; with_reducible rfl
      rotate_left
      · simp only [Act.put, List.setIfInBounds_toArray, List.set_cons_zero, List.set_cons_succ, i64_w, i32_w]; rfl
      refine pure_ (i := 22) (N := some 35) (v := ?_) (a' := ?_) (ls 26 8388607) rfl rfl (by kernel_rfl) (fun _ _ _ h => h) (Or.inl ⟨by rfl, ?_⟩) ?_ ?_
      rotate_left
      · intro w'; go_simp; with_reducible rfl
      rotate_left
      · simp only [Act.put, List.setIfInBounds_toArray, List.set_cons_zero, List.set_cons_succ, i64_w, i32_w]; rfl
      refine pure_ (i := 23) (N := some 36) (v := ?_) (a' := ?_) (ls 26 16777215) rfl rfl (by kernel_rfl) (fun _ _ _ h => h) (Or.inl ⟨by rfl, ?_⟩) ?_ ?_
      rotate_left
      · intro w'; go_simp; with_reducible rfl
      rotate_left
      · simp only [Act.put, List.setIfInBounds_toArray, List.set_cons_zero, List.set_cons_succ, i64_w, i32_w]; rfl
      refine pure_ (i := 24) (N := some 37) (v := ?_) (a' := ?_) (ls 26 33554431) rfl rfl (by kernel_rfl) (fun _ _ _ h => h) (Or.inl ⟨by rfl, ?_⟩) ?_ ?_
      rotate_left
      · intro w'; go_simp; with_reducible rfl
      rotate_left
      · simp only [Act.put, List.setIfInBounds_toArray, List.set_cons_zero, List.set_cons_succ, i64_w, i32_w]; rfl
      refine last_ (i := 25) (N := none) (ls 26 67108863) rfl rfl (by kernel_rfl) (by decide) (fun K hK => ?_)
      refine skip_ (w1 := ?_) (by rfl) rfl ?_ ?_
      rotate_left 1
      · go_simp; rfl
      refine hK.out _ _ ?_
      clear hK K
      refine done_ (by kernel_rfl) ?_

      have P4 := Lib.hid (BX18.out.bx.putB (i := 3) (v := .bool false) rfl BX18.out.bx.ls BX18.out.bx.ws rfl rfl)
      have X4 := Lib.hid (show Ext S wr (W20.setCell ⟨b, 3, none⟩ (.bool false)) from ((((Ext.refl (fun _ => False) wr).drew).trans x20 (fun _ _ h => h)).mono (fun _ h => h.elim)).trans P4.out.2 (fun _ _ h => h))
      have K9 := Lib.hid (show StaysEndI S N R w b es pl cl pw cw H (W20.setCell ⟨b, 3, none⟩ (.bool false)) from ⟨⟨P4.out.1, BB.out.es.ext X4.out (fun _ h => .inl h) (fun _ h => .inl h) (fun _ h => h)⟩, XX.out.trans X4.out (fun _ _ h => h)⟩)
      clear P4 X4 BB XX v3 v3f BX18 hHeld x20 CE SM e0
      go_wp2_with fail
      go_roundw
      case rel => exact ⟨k + 1, by go_num, hlt, K9.out⟩
      case measure => simp [intOf]; omega
    · have i1 : ¬ (k : Int) < (es.length : Int) := by omega
      go_wp2_with fail
      go_ret
      exact ⟨rfl, EN.out⟩
end Go.Proofs.YtigpaaelggnffaaGreatDoor.Bq
