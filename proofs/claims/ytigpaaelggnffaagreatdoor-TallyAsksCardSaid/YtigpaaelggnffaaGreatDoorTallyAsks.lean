/- law23.TallyAsks. -/
import Derived.Test.YtigpaaelggnffaaGreatDoorTallyRs
namespace Go.Proofs.YtigpaaelggnffaaGreatDoor.Ty
open Go.RowKit Go.Proofs.YtigpaaelggnffaaGreatDoor.Lib Go.Proofs.YtigpaaelggnffaaGreatDoor.Sl Go.Proofs.YtigpaaelggnffaaGreatDoor.Bpe Go.Proofs.YtigpaaelggnffaaGreatDoor.Cut Go.Proofs.YtigpaaelggnffaaGreatDoorW.PrintLast
set_option linter.unusedVariables false
set_option linter.unusedSimpArgs false

theorem rd_takeR {w : World} {p : Option Addr} {l : List TRow} (h : Rd eTR w p l) (k : Nat) : Rd eTR w p (l.take k) := fun i x hi => h i x (by
  rw [List.getElem?_take] at hi
  split at hi
  · exact hi
  · cases hi)
set_option maxRecDepth 100000 in
set_option maxHeartbeats 16000000 in
theorem asks_any (w : World) (hT : Tabs w) (L0 : Pl) (d : Dat) (h : DR w L0 d) (pt : Option Addr) (ct : Nat) (l : List TRow) (hl : Rd eTR w pt l) (hlc : l.length ≤ ct) (hlb : l.length * 16 ≤ 140737488351232) (hli : ∀ z ∈ l, inI z.id ∧ inI z.n) :
    Calls Tryz.prog 7 #[.agg #[.slice L0.p0 d.ws.length L0.c0, .slice L0.p1 d.ms.length L0.c1, .slice L0.p2 d.ls.length L0.c2, .slice L0.p3 d.ns.length L0.c3, .slice L0.p4 d.ss.length L0.c4], .slice pt l.length ct] w fun e w' => e = .returned (.bool true) ∧ Ext (fun _ => False) w w' := by
  have HB := Lib.hid (show (w.alloc (.cells #[.slice L0.p0 d.ws.length L0.c0, .slice L0.p1 d.ms.length L0.c1, .slice L0.p2 d.ls.length L0.c2, .slice L0.p3 d.ns.length L0.c3, .slice L0.p4 d.ss.length L0.c4] 26)).heap[w.heap.size]? = some (.cells #[.slice L0.p0 d.ws.length L0.c0, .slice L0.p1 d.ms.length L0.c1, .slice L0.p2 d.ls.length L0.c2, .slice L0.p3 d.ns.length L0.c3, .slice L0.p4 d.ss.length L0.c4] 26 (0, 0)) from heap_alloc_new w _)
  have X0 := Lib.hid ((Ext.refl (fun _ => False) w).alloc (.cells (dataCells L0 d) 26))
  have C := Lib.hid (of5_any _ L0 d (h.on X0.out))
  have HR := Lib.hid (h.on X0.out)
  have HT := Lib.hid (hT.on X0.out)
  have HL := Lib.hid (hl.on X0.out)
  have HI := Lib.hid hli
  clear h hT hl hli
  go_enter Tryz.func7, Tryz.ntmps7
  go_wp2_with fail
  refine C.out.mono ?_
  rintro e W ⟨hx, h⟩
  have B5 := Lib.hid (hx.obj HB.out (fun h => h))
  have X := Lib.hid (X0.out.trans hx (fun _ _ h => h))
  have T := Lib.hid (HT.out.on hx)
  have LT := Lib.hid (HL.out.on hx)
  have R := Lib.hid (HR.out.on hx)
  clear hx C
  rcases h with ⟨hg, rfl⟩ | ⟨hg, a, rfl, hm, hwa⟩
  · have K := Lib.hid (known_any W T.out)
    clear hg
    go_wp2_with fail
    refine K.out.mono ?_
    rintro e W2 ⟨rfl, hx2⟩
    have X2 := Lib.hid (X.out.trans hx2 (fun _ _ h => h))
    clear hx2
    go_wp2_with fail
    go_ret
    exact ⟨rfl, X2.out⟩
  · have D := Lib.hid (RightD.of_good hg)
    have M := Lib.hid hm
    clear hg hm hwa
    go_upto_region 4 with (fail)
    go_cut [31] (fun v wc => W = wc ∧ ∃ q : Bool, v = .bool q ∧ (q = true → 100 < l.length ∧ l.length ≤ 65536))
    case first =>
      by_cases h1 : 100 < l.length
      · have i1 : (l.length : Int) > 100 := by omega
        by_cases h2 : l.length ≤ 65536
        · have i2 : (l.length : Int) ≤ 65536 := by omega
          have Q := Lib.hid (And.intro h1 h2)
          clear h1 h2
          go_wp2_with fail
          go_meet
          exact ⟨rfl, true, rfl, fun _ => Q.out⟩
        · have i2 : ¬ (l.length : Int) ≤ 65536 := by omega
          go_wp2_with fail
          go_meet
          exact ⟨rfl, false, rfl, fun h => by cases h⟩
      · have i1 : ¬ (l.length : Int) > 100 := by omega
        go_wp2_with fail
        go_meet
        exact ⟨rfl, false, rfl, fun h => by cases h⟩
    case rest =>
    obtain ⟨rfl, q, rfl, hq⟩ := hcut
    have HQ := Lib.hid hq
    clear hq
    go_upto_if 31 with fail
    go_cut [1] (fun v wc => W = wc ∧ ∃ (p1 : Option Addr) (c1 : Nat) (l1 : List TRow), v = .slice p1 l1.length c1 ∧ Rd eTR W p1 l1 ∧ l1.length * 16 ≤ 140737488351232 ∧ (∀ z ∈ l1, inI z.id ∧ inI z.n))
    case first =>
      cases q with
      | true =>
        obtain ⟨h1, h2⟩ := HQ.out rfl
        have hlen : (l.take 100).length = 100 := by rw [List.length_take]; omega
        have HLN := Lib.hid hlen
        have i3 : 100 ≤ ct := by omega
        have i4 : (100 : Int) ≤ (ct : Int) := by omega
        clear hlen
        go_wp2_with fail
        go_meet
        exact ⟨rfl, pt, ct, l.take 100, by rw [HLN.out], rd_takeR LT.out 100, by have := HLN.out; omega, fun z hz => HI.out z (List.mem_of_mem_take hz)⟩
      | false =>
        go_wp2_with fail
        go_meet
        exact ⟨rfl, pt, ct, l, rfl, LT.out, hlb, HI.out⟩
    case rest =>
      obtain ⟨rfl, p1, c1, l1, rfl, hl1, hb1, hi1⟩ := hcut
      have HL1 := Lib.hid hl1
      have HI1 := Lib.hid hi1
      have SV := Lib.hid (saved_any M.out D.out p1 c1 l1 hl1 (by omega))
      have hSR : ∀ W', Ext (fun _ => False) W W' → ∀ p c, Rd eTR W' p l1 → Calls Tryz.prog 34 #[.agg #[.slice L0.p0 d.ws.length L0.c0, .slice L0.p1 d.ms.length L0.c1, .slice L0.p2 d.ls.length L0.c2, .slice L0.p3 d.ns.length L0.c3, .slice L0.p4 d.ss.length L0.c4], .slice p l1.length c] W' fun e w' => e = .returned (.tuple #[.int .i64 (savedT d l1).1, .int .i64 (savedT d l1).2]) ∧ Ext (fun _ => False) W w' := fun W' hx p c hr =>
        (savedR_any W' L0 d (R.out.on hx) D.out p c l1 hr (by omega) HI1.out).mono fun e w' ⟨h1, h2⟩ => ⟨h1, hx.trans h2 (fun _ _ h => h)⟩
      have hPL : ∀ W', Ext (fun _ => False) W W' → Calls Tryz.prog 24 #[.slice p1 l1.length c1] W' fun e w' => ∃ p c, e = .returned (.slice p l1.length c) ∧ Rd eTR w' p l1 ∧ Ext (fun _ => False) W w' := fun W' hx =>
        (plain_any W' p1 c1 l1 (HL1.out.on hx) hb1).mono fun e w' ⟨⟨p, c, h1, h2, h3⟩⟩ => ⟨p, c, h1, Rd.of_arr h2, hx.trans h3 (fun _ _ h => h)⟩
      have hUN : ∀ W', Ext (fun _ => False) W W' → Calls Tryz.prog 28 #[.pointer (some ⟨a, 0, none⟩), .slice p1 l1.length c1] W' fun e w' => ∃ p c, e = .returned (.slice p (unusedT l1 (256 + d.ms.length)).length c) ∧ Rd eI w' p (unusedT l1 (256 + d.ms.length)) ∧ Ext (fun _ => False) W w' := fun W' hx =>
        (unused_any (M.out.on hx) D.out p1 c1 l1 (HL1.out.on hx) (by omega) HI1.out).mono fun e w' ⟨⟨p, c, h1, h2, h3, _⟩⟩ => ⟨p, c, h1, ints_rd h2, hx.trans h3 (fun _ _ h => h)⟩
      have hUR : ∀ W', Ext (fun _ => False) W W' → ∀ p c, Rd eTR W' p l1 → Calls Tryz.prog 36 #[.agg #[.slice L0.p0 d.ws.length L0.c0, .slice L0.p1 d.ms.length L0.c1, .slice L0.p2 d.ls.length L0.c2, .slice L0.p3 d.ns.length L0.c3, .slice L0.p4 d.ss.length L0.c4], .slice p l1.length c] W' fun e w' => ∃ p c, e = .returned (.slice p (unusedT l1 (256 + d.ms.length)).length c) ∧ Rd eI w' p (unusedT l1 (256 + d.ms.length)) ∧ Ext (fun _ => False) W' w' := fun W' hx p c hr =>
        (unusedR_any W' L0 d D.out p c l1 hr (by omega)).mono fun e w' ⟨⟨p, c, h1, h2, h3, _⟩⟩ => ⟨p, c, h1, ints_rd h2, h3⟩
      have ulen := unusedT_length l1 (256 + d.ms.length)
      have hfew := D.out.few
      obtain ⟨U, hU⟩ : ∃ U, unusedT l1 (256 + d.ms.length) = U := ⟨_, rfl⟩
      rw [hU] at hUN hUR ulen
      have hSM : ∀ W', Ext (fun _ => False) W W' → ∀ p q c c2, Rd eI W' p U → Rd eI W' q U → Calls Tryz.prog 35 #[.slice p U.length c, .slice q U.length c2] W' fun e w' => e = .returned (.bool true) ∧ Ext (fun _ => False) W w' := fun W' hx p q c c2 hp hq => by
        have := sameI_any W' p q c c2 U U hp hq (by omega)
        rw [decide_eq_true rfl] at this
        exact this.mono fun e w' ⟨h1, h2⟩ => ⟨h1, hx.trans h2 (fun _ _ h => h)⟩
      have KN := Lib.hid (fun W' (hx : Ext (fun _ => False) W W') => (known_any W' (T.out.on hx)).mono fun e w' h => (⟨h.1, hx.trans h.2 (fun _ _ h => h)⟩ : e = .returned (.bool true) ∧ Ext (fun _ => False) W w'))
      have CE := Lib.hid (show ∀ w', Ext (fun _ => False) W w' → (w'.cell? ⟨w.heap.size, 0, none⟩ = some (.slice L0.p0 d.ws.length L0.c0) ∧ w'.cell? ⟨w.heap.size, 1, none⟩ = some (.slice L0.p1 d.ms.length L0.c1) ∧ w'.cell? ⟨w.heap.size, 2, none⟩ = some (.slice L0.p2 d.ls.length L0.c2) ∧ w'.cell? ⟨w.heap.size, 3, none⟩ = some (.slice L0.p3 d.ns.length L0.c3) ∧ w'.cell? ⟨w.heap.size, 4, none⟩ = some (.slice L0.p4 d.ss.length L0.c4)) ∧ Ext (fun _ => False) W w' from fun w' e =>
        have bb := e.obj B5.out (fun h => h)
        ⟨⟨blk_cell bb 0, blk_cell bb 1, blk_cell bb 2, blk_cell bb 3, blk_cell bb 4⟩, e⟩)
      obtain ⟨⟨sn, se⟩, hsv⟩ : ∃ t, savedT d l1 = t := ⟨_, rfl⟩
      rw [hsv] at SV hSR
      have SR := Lib.hid hSR
      have PL := Lib.hid hPL
      have UN := Lib.hid hUN
      have UR := Lib.hid hUR
      have SM := Lib.hid hSM
      clear hSR hPL hUN hUR hSM hsv hU hl1 hi1 ulen hfew
      have q0 : (sn != sn) = false := by simp
      have q1 : (se != se) = false := by simp
      go_wp2_with fail
      refine SV.out.mono ?_
      rintro e W1 ⟨rfl, hx1⟩
      have X1 := Lib.hid hx1
      have D0 := Lib.hid (show Ext (fun _ => False) W W1.drew from Ext.drew hx1)
      clear hx1 SV
      go_wp2_with fail
      go_region_held3 (fun w' => (w'.cell? ⟨w.heap.size, 0, none⟩ = some (.slice L0.p0 d.ws.length L0.c0) ∧ w'.cell? ⟨w.heap.size, 1, none⟩ = some (.slice L0.p1 d.ms.length L0.c1) ∧ w'.cell? ⟨w.heap.size, 2, none⟩ = some (.slice L0.p2 d.ls.length L0.c2) ∧ w'.cell? ⟨w.heap.size, 3, none⟩ = some (.slice L0.p3 d.ns.length L0.c3) ∧ w'.cell? ⟨w.heap.size, 4, none⟩ = some (.slice L0.p4 d.ss.length L0.c4)) ∧ Ext (fun _ => False) W w')
        (first | exact CE.out _ D0.out | exact CE.out _ G2.out | exact CE.out _ G1.out)
        (first
          | (go_at_call 24; (with_reducible refine (PL.out _ ?_).mono ?_); (exact D0.out); rintro e V1 ⟨p2, c2, rfl, hR1, hx1⟩; have G1 := Lib.hid hx1; have R1 := Lib.hid hR1; clear hx1 hR1)
          | (go_at_call 34; (with_reducible refine (SR.out _ ?_ p2 c2 ?_).mono ?_); (exact G1.out); (exact R1.out); rintro e V2 ⟨rfl, hx2⟩; have G2 := Lib.hid hx2; clear hx2))
      have D1 := Lib.hid (show Ext (fun _ => False) W V2.drew from Ext.drew G2.out)
      by_cases hbig : 100 < l1.length
      · have i1 : (l1.length : Int) > 100 := by omega
        have d1 : decide ((l1.length : Int) > 100) = true := decide_eq_true i1
        go_upto_region 10 with (fail)
        refine start_ (n := 17) (S := fun w' => Ext (fun _ => False) W w') (ds := []) (ls 17 0) (by kernel_rfl) rfl rfl D1.out (fun hHeld => ?_)
        refine pure_ (i := 0) (N := some 55) (v := ?_) (a' := ?_) (ls 17 1) rfl rfl (by kernel_rfl) (fun _ _ _ h => h) (Or.inl ⟨by rfl, ?_⟩) ?_ ?_
        rotate_left
        · intro w'; go_simp; with_reducible rfl
        rotate_left
        · simp only [Act.put, List.setIfInBounds_toArray, List.set_cons_zero, List.set_cons_succ, i64_w, i32_w]; rfl
        refine pure_ (i := 1) (N := some 56) (v := ?_) (a' := ?_) (ls 17 3) rfl rfl (by kernel_rfl) (fun _ _ _ h => h) (Or.inl ⟨by rfl, ?_⟩) ?_ ?_
        rotate_left
        · intro w'; go_simp; with_reducible rfl
        rotate_left
        · simp only [Act.put, List.setIfInBounds_toArray, List.set_cons_zero, List.set_cons_succ, i64_w, i32_w]; rfl
        refine pure_ (i := 2) (N := some 57) (v := ?_) (a' := ?_) (ls 17 7) rfl rfl (by kernel_rfl) (fun _ _ _ h => h) (Or.inl ⟨by rfl, ?_⟩) ?_ ?_
        rotate_left
        · intro w'; go_simp; with_reducible rfl
        rotate_left
        · simp only [Act.put, List.setIfInBounds_toArray, List.set_cons_zero, List.set_cons_succ, i64_w, i32_w]; rfl
        refine pure_ (i := 3) (N := some 58) (v := ?_) (a' := ?_) (ls 17 15) rfl rfl (by kernel_rfl) (fun _ _ _ h => h) (Or.inl ⟨by rfl, ?_⟩) ?_ ?_
        rotate_left
        · intro w'; go_simp; with_reducible rfl
        rotate_left
        · simp only [Act.put, List.setIfInBounds_toArray, List.set_cons_zero, List.set_cons_succ, i64_w, i32_w]; rfl
        refine pure_ (i := 4) (N := some 59) (v := undef) (a' := ?_) (ls 17 31) rfl rfl (by kernel_rfl) (fun _ _ _ h => h) (Or.inr ⟨by rfl, rfl⟩) ?_ ?_
        rotate_left
        · simp only [Act.put, List.setIfInBounds_toArray, List.set_cons_zero, List.set_cons_succ, i64_w, i32_w]; rfl
        refine pure_ (i := 5) (N := some 60) (v := undef) (a' := ?_) (ls 17 63) rfl rfl (by kernel_rfl) (fun _ _ _ h => h) (Or.inr ⟨by rfl, rfl⟩) ?_ ?_
        rotate_left
        · simp only [Act.put, List.setIfInBounds_toArray, List.set_cons_zero, List.set_cons_succ, i64_w, i32_w]; rfl
        refine pure_ (i := 6) (N := some 61) (v := undef) (a' := ?_) (ls 17 127) rfl rfl (by kernel_rfl) (fun _ _ _ h => h) (Or.inr ⟨by rfl, rfl⟩) ?_ ?_
        rotate_left
        · simp only [Act.put, List.setIfInBounds_toArray, List.set_cons_zero, List.set_cons_succ, i64_w, i32_w]; rfl
        refine pure_ (i := 7) (N := some 62) (v := undef) (a' := ?_) (ls 17 255) rfl rfl (by kernel_rfl) (fun _ _ _ h => h) (Or.inr ⟨by rfl, rfl⟩) ?_ ?_
        rotate_left
        · simp only [Act.put, List.setIfInBounds_toArray, List.set_cons_zero, List.set_cons_succ, i64_w, i32_w]; rfl
        refine pure_ (i := 8) (N := some 63) (v := undef) (a' := ?_) (ls 17 511) rfl rfl (by kernel_rfl) (fun _ _ _ h => h) (Or.inr ⟨by rfl, rfl⟩) ?_ ?_
        rotate_left
        · simp only [Act.put, List.setIfInBounds_toArray, List.set_cons_zero, List.set_cons_succ, i64_w, i32_w]; rfl
        refine pure_ (i := 9) (N := some 64) (v := undef) (a' := ?_) (ls 17 1023) rfl rfl (by kernel_rfl) (fun _ _ _ h => h) (Or.inr ⟨by rfl, rfl⟩) ?_ ?_
        rotate_left
        · simp only [Act.put, List.setIfInBounds_toArray, List.set_cons_zero, List.set_cons_succ, i64_w, i32_w]; rfl
        refine pure_ (i := 10) (N := some 65) (v := undef) (a' := ?_) (ls 17 2047) rfl rfl (by kernel_rfl) (fun _ _ _ h => h) (Or.inr ⟨by rfl, rfl⟩) ?_ ?_
        rotate_left
        · simp only [Act.put, List.setIfInBounds_toArray, List.set_cons_zero, List.set_cons_succ, i64_w, i32_w]; rfl
        refine pure_ (i := 11) (N := some 66) (v := undef) (a' := ?_) (ls 17 4095) rfl rfl (by kernel_rfl) (fun _ _ _ h => h) (Or.inr ⟨by rfl, rfl⟩) ?_ ?_
        rotate_left
        · simp only [Act.put, List.setIfInBounds_toArray, List.set_cons_zero, List.set_cons_succ, i64_w, i32_w]; rfl
        refine pure_ (i := 12) (N := some 67) (v := ?_) (a' := ?_) (ls 17 8191) rfl rfl (by kernel_rfl) (fun _ _ _ h => h) (Or.inl ⟨by rfl, ?_⟩) ?_ ?_
        rotate_left
        · intro w'; go_simp; with_reducible rfl
        rotate_left
        · simp only [Act.put, List.setIfInBounds_toArray, List.set_cons_zero, List.set_cons_succ, i64_w, i32_w]; rfl
        refine pure_ (i := 13) (N := some 68) (v := ?_) (a' := ?_) (ls 17 16383) rfl rfl (by kernel_rfl) (fun _ _ _ h => h) (Or.inl ⟨by rfl, ?_⟩) ?_ ?_
        rotate_left
        · intro w'; go_simp; with_reducible rfl
        rotate_left
        · simp only [Act.put, List.setIfInBounds_toArray, List.set_cons_zero, List.set_cons_succ, i64_w, i32_w]; rfl
        refine one_ (i := 14) (N := some 69) (ls 17 32767) rfl rfl (by kernel_rfl) (by decide) (fun K hK => ?_)
        refine goes_ Tryz.func11 (by kernel_rfl) rfl #[] (by rfl) rfl rfl (by (try simp only [List.map_toArray, List.map_cons, List.map_nil]); first | done | rfl) ?_
        refine (KN.out _ D1.out).mono ?_
        rintro e V3 ⟨rfl, hx3⟩
        have G3 := Lib.hid hx3
        clear hx3
        refine ⟨_, rfl, ?_⟩
        refine hK.out _ _ G3.out (fun hHeld => ?_)
        clear hK K
        refine norm_ (a' := ?_) ?_ ?_
        rotate_left
        · simp only [Act.put, List.setIfInBounds_toArray, List.set_cons_zero, List.set_cons_succ, i64_w, i32_w]; rfl
        refine pure_ (i := 15) (N := some 70) (v := ?_) (a' := ?_) (ls 17 65535) rfl rfl (by kernel_rfl) (fun _ _ _ h => h) (Or.inl ⟨by rfl, ?_⟩) ?_ ?_
        rotate_left
        · intro w'; go_simp; with_reducible rfl
        rotate_left
        · simp only [Act.put, List.setIfInBounds_toArray, List.set_cons_zero, List.set_cons_succ, i64_w, i32_w]; rfl
        refine pure_ (i := 16) (N := some 4) (v := ?_) (a' := ?_) (ls 17 131071) rfl rfl (by kernel_rfl) (fun _ _ _ h => h) (Or.inl ⟨by rfl, ?_⟩) ?_ ?_
        rotate_left
        · intro w'; go_simp; with_reducible rfl
        rotate_left
        · simp only [Act.put, List.setIfInBounds_toArray, List.set_cons_zero, List.set_cons_succ, i64_w, i32_w]; rfl
        refine done_ (by kernel_rfl) ?_
        have X9 := Lib.hid (X.out.trans G3.out (fun _ _ h => h))
        go_wp2_with fail
        go_ret
        exact ⟨rfl, X9.out⟩
      · have d1 : decide ((l1.length : Int) > 100) = false := decide_eq_false (by omega)
        go_wp2_with fail
        go_region_held3 (fun w' => (w'.cell? ⟨w.heap.size, 0, none⟩ = some (.slice L0.p0 d.ws.length L0.c0) ∧ w'.cell? ⟨w.heap.size, 1, none⟩ = some (.slice L0.p1 d.ms.length L0.c1) ∧ w'.cell? ⟨w.heap.size, 2, none⟩ = some (.slice L0.p2 d.ls.length L0.c2) ∧ w'.cell? ⟨w.heap.size, 3, none⟩ = some (.slice L0.p3 d.ns.length L0.c3) ∧ w'.cell? ⟨w.heap.size, 4, none⟩ = some (.slice L0.p4 d.ss.length L0.c4)) ∧ Ext (fun _ => False) W w')
          (first | exact CE.out _ D1.out | exact CE.out _ G7.out | exact CE.out _ G6.out | exact CE.out _ G5.out | exact CE.out _ G4.out | exact CE.out _ G3.out)
          (first
            | (go_at_call 28; (with_reducible refine (UN.out _ ?_).mono ?_); (exact D1.out); rintro e V3 ⟨p3, c3, rfl, hR3, hx3⟩; have G3 := Lib.hid hx3; have R3 := Lib.hid hR3; have S3 := Lib.hid ((rfl : V3 = V3)); clear hx3 hR3)
            | (go_at_call 24; (with_reducible refine (plain_any _ p1 c1 l1 (HL1.out.on G3.out) hb1).mono ?_); rintro e V4 ⟨⟨p4, c4, rfl, hA4, hx4⟩⟩; have G4 := Lib.hid (G3.out.trans hx4 (fun _ _ h => h)); have R4 := Lib.hid (Rd.of_arr hA4); have R34 := Lib.hid (R3.out.on hx4); clear hx4 hA4)
            | (go_at_call 36; (with_reducible refine (UR.out _ ?_ p4 c4 ?_).mono ?_); (exact G4.out); (exact R4.out); rintro e V5 ⟨p5, c5, rfl, hR5, hx5⟩; have G5 := Lib.hid (G4.out.trans hx5 (fun _ _ h => h)); have R5 := Lib.hid hR5; have R35 := Lib.hid (R34.out.on hx5); clear hx5 hR5)
            | (go_at_call 35; (with_reducible refine (SM.out _ ?_ p3 p5 c3 c5 ?_ ?_).mono ?_); (exact G5.out); (exact R35.out); (exact R5.out); rintro e V6 ⟨rfl, hx6⟩; have G6 := Lib.hid hx6; clear hx6)
            | (go_at_call 11; (with_reducible refine (KN.out _ ?_).mono ?_); (exact G6.out); rintro e V7 ⟨rfl, hx7⟩; have G7 := Lib.hid hx7; clear hx7))
        have X9 := Lib.hid (X.out.trans G7.out (fun _ _ h => h))
        go_wp2_with fail
        go_ret
        exact ⟨rfl, X9.out⟩
end Go.Proofs.YtigpaaelggnffaaGreatDoor.Ty
