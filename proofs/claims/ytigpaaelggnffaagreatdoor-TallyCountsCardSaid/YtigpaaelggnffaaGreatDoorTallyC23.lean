/- tesseraref23.Count: the document's counting of ids, walked. -/
import Derived.Test.YtigpaaelggnffaaGreatDoorRef14
import Derived.Test.YtigpaaelggnffaaGreatDoorTallyRo
import Derived.Test.YtigpaaelggnffaaGreatDoorTallyPl
namespace Go.Proofs.YtigpaaelggnffaaGreatDoor.Ty
open Go.Sort Go.RowKit Go.Proofs.YtigpaaelggnffaaGreatDoor.Lib Go.Proofs.YtigpaaelggnffaaGreatDoor.Sl Go.Proofs.YtigpaaelggnffaaGreatDoor.Bpe Go.Proofs.YtigpaaelggnffaaGreatDoor.Cut Go.Proofs.YtigpaaelggnffaaGreatDoor.R2 Go.Proofs.YtigpaaelggnffaaGreatDoorW.PrintLast
set_option linter.unusedVariables false
set_option linter.unusedSimpArgs false

theorem flat_setN {R : List TRow} {k : Nat} {q : TRow} (h : R[k]? = some q) (v : Int) : flat eTR (R.set k ⟨q.id, v⟩) = (flat eTR R).set (k * 2 + 1) (.int .i64 v) := by
  rw [flat_setR]
  congr 1
  have h1 : (flat eTR R)[k * 2]? = some (.int .i64 q.id) := by
    have := flat_get (E := eTR) h 0 (by decide)
    exact this
  obtain ⟨hl, he⟩ := List.getElem?_eq_some_iff.1 h1
  simp only
  rw [← he]
  exact List.set_getElem_self hl
/-- Rows that are counted, beside the ids of a text (at pi). -/
structure C23 (W0 wr : World) (R : List TRow) (p pi : Option Addr) (c : Nat) : Prop where
  arr : Arr wr 94 2 p R.length c (flat eTR R)
  ext : Ext (fun _ => False) W0 wr
  fr : ∀ k, blkOf p = some k → W0.heap.size ≤ k ∧ blkOf pi ≠ some k
theorem C23.on {W0 wr w1 : World} {R : List TRow} {p pi : Option Addr} {c : Nat} (h : C23 W0 wr R p pi c) (hx : Ext (fun _ => False) wr w1) : C23 W0 w1 R p pi c :=
  ⟨arr_ext h.arr hx (fun _ _ h => h), h.ext.trans hx (fun _ _ h => h), h.fr⟩
/-- One more of a row that is there. -/
theorem C23.up {W0 wr : World} {R : List TRow} {pi : Option Addr} {c k a : Nat} {q : TRow} (h : C23 W0 wr R (some ⟨a, 0, none⟩) pi c) (hn : (R.map (·.id)).Nodup) (hq : R[k]? = some q) : C23 W0 (wr.setCell ⟨a, k * 2 + 1, none⟩ (.int .i64 (q.n + 1))) (bump R q.id) (some ⟨a, 0, none⟩) pi c ∧ (bump R q.id).length = R.length := by
  have hb := bump_set (x := q.id) hn hq rfl
  rw [hb]
  refine ⟨⟨?_, h.ext.setCell (p := ⟨a, _, none⟩) (fun hlt => by have := (h.fr a rfl).1; have hlt : a < W0.heap.size := hlt; omega) _, h.fr⟩, List.length_set⟩
  rw [flat_setN hq, List.length_set]
  exact arr_set h.arr _ _
/-- A new row. -/
theorem C23.new {W0 wr w1 : World} {R : List TRow} {p p1 pi : Option Addr} {c c1 : Nat} {y : Int} (h : C23 W0 wr R p pi c) (hy : y ∉ R.map (·.id)) (hpi : ∀ k, blkOf pi = some k → k < wr.heap.size) (hA : Arr w1 94 2 p1 (R.length + 1) c1 (flat eTR R ++ [.int .i64 y, .int .i64 0])) (hx : Ext (fun j => blkOf p = some j) wr w1) (hm : Moved wr p p1) : C23 W0 w1 (R ++ [⟨y, 0⟩]) p1 pi c1 := by
  refine ⟨?_, h.ext.trans hx (fun i hi e => by have := (h.fr i e).1; omega), fun k hk => ?_⟩
  · rw [flat_append, List.length_append]
    exact hA
  · rcases hm k hk with e | e
    · exact h.fr k e
    · have := h.ext.size
      exact ⟨by omega, fun e2 => by have := hpi k e2; omega⟩
set_option maxRecDepth 100000 in
set_option maxHeartbeats 16000000 in
theorem count23_any (w : World) (L : Pl) (d : Dat) (h : DR w L d) (hf : FewC d) (hm : d.ms.length ≤ 1099511627776) (hsp : kindOf d.ls d.ns d.ss 32 = 3) (hd : RightD d) (most : Int) (p0 : Option Addr) (c0 : Nat) (l : List ByteArray) (hl : Rd eS w p0 l) (hsum : sumSz l ≤ 1048576) (hn : l.length ≤ 281474976710656) :
    Calls Tryz.prog 17 #[.agg #[.slice L.p0 d.ws.length L.c0, .slice L.p1 d.ms.length L.c1, .slice L.p2 d.ls.length L.c2, .slice L.p3 d.ns.length L.c3, .slice L.p4 d.ss.length L.c4], .int .i64 most, .slice p0 l.length c0] w fun e w' => ∃ p c, e = .returned (.slice p (countR (idsAll d most l)).length c) ∧ Rd eTR w' p (countR (idsAll d most l)) ∧ Ext (fun _ => False) w w' := by
  have hb := heap_alloc_new w (.cells #[.slice L.p0 d.ws.length L.c0, .slice L.p1 d.ms.length L.c1, .slice L.p2 d.ls.length L.c2, .slice L.p3 d.ns.length L.c3, .slice L.p4 d.ss.length L.c4] 26)
  have X0 := (Ext.refl (fun _ => False) w).alloc (.cells #[.slice L.p0 d.ws.length L.c0, .slice L.p1 d.ms.length L.c1, .slice L.p2 d.ls.length L.c2, .slice L.p3 d.ns.length L.c3, .slice L.p4 d.ss.length L.c4] 26)
  have EC0 := Lib.hid (fun (W : World) (hx : Ext (fun _ => False) w W) (s : ByteArray) (hs : s.size ≤ 1048576) => encode14_any W L d (h.on hx) hf hm hsp most s hs)
  obtain ⟨W0, hW0⟩ : ∃ W0, w.alloc (.cells #[.slice L.p0 d.ws.length L.c0, .slice L.p1 d.ms.length L.c1, .slice L.p2 d.ls.length L.c2, .slice L.p3 d.ns.length L.c3, .slice L.p4 d.ss.length L.c4] 26) = W0 := ⟨_, rfl⟩
  rw [hW0] at X0 hb
  have CD := Lib.hid (show ∀ w', Ext (fun _ => False) W0 w' → w'.cell? ⟨w.heap.size, 0, none⟩ = some (.slice L.p0 d.ws.length L.c0) ∧ w'.cell? ⟨w.heap.size, 1, none⟩ = some (.slice L.p1 d.ms.length L.c1) ∧ w'.cell? ⟨w.heap.size, 2, none⟩ = some (.slice L.p2 d.ls.length L.c2) ∧ w'.cell? ⟨w.heap.size, 3, none⟩ = some (.slice L.p3 d.ns.length L.c3) ∧ w'.cell? ⟨w.heap.size, 4, none⟩ = some (.slice L.p4 d.ss.length L.c4) from fun w' hx => by
    have bb := hx.obj hb (fun h => h)
    exact ⟨blk_cell bb 0, blk_cell bb 1, blk_cell bb 2, blk_cell bb 3, blk_cell bb 4⟩)
  have XX := Lib.hid X0
  have HL := Lib.hid hl
  have IL := Lib.hid (idsAll_len hd most l hsum)
  have II := Lib.hid (fun x hx => okId_inI hd (idsAll_in hd most l x hx))
  have TL := Lib.hid (fun s hs => toks_le_ids hd most s hs)
  have SM := Lib.hid hsum
  clear h hb X0 hsp hf hm hl hd
  go_enter Tryz.func17, Tryz.ntmps17
  go_wp2_with fail
  try rw [hW0]
  clear hW0
  go_loopw [7, 8] (fun vl vi wr => ∃ (i : Nat) (p : Option Addr) (c : Nat), vl = .slice p (rowsOf (idsAll d most (l.take i))).length c ∧ vi = .int .i64 i ∧ i ≤ l.length ∧ C23 W0 wr (rowsOf (idsAll d most (l.take i))) p none c) (fun _ vi _ => l.length - (intOf vi).toNat)
  case atStart => exact ⟨0, none, 0, rfl, rfl, Nat.zero_le _, arr_nil _ _ _, Ext.refl _ _, (fun j hj => by cases hj)⟩
  case round =>
    obtain ⟨i, p, c, rfl, rfl, hi, hst⟩ := hrel
    have ST := Lib.hid hst
    have XW := Lib.hid (show Ext (fun _ => False) w wr from XX.out.trans hst.ext (fun _ _ h => h))
    clear hst
    by_cases hlt : i < l.length
    · have i1 : (i : Int) < (l.length : Int) := by omega
      obtain ⟨x, hx⟩ : ∃ x, l[i]? = some x := ⟨_, List.getElem?_eq_getElem hlt⟩
      obtain ⟨b, o, hp, hpb, x0⟩ := (HL.out.on XW.out).cellS hx
      subst hp
      have hxs : x.size ≤ 1048576 := by have := size_le_sum (List.mem_of_getElem? hx); omega
      have SN := Lib.hid (idsAll_snoc d most hx)
      have hall : idsAll d most l = idsAll d most (l.take (i + 1)) ++ idsAll d most (l.drop (i + 1)) := by
        unfold idsAll
        rw [← List.flatMap_append, List.take_append_drop]
      have SUB := Lib.hid (show ∀ y ∈ idsAll d most (l.take (i + 1)), inI y from fun y hy => II.out y (by rw [hall]; exact List.mem_append_left _ hy))
      have LEN := Lib.hid (show (idsAll d most (l.take (i + 1))).length ≤ 1048576 from by
        have h1 := IL.out
        rw [hall, List.length_append] at h1
        omega)
      have EC := fun (W : World) (hx : Ext (fun _ => False) wr W) => EC0.out W (XW.out.trans hx (fun _ _ h => h)) x hxs
      obtain ⟨pre, hpre⟩ : ∃ pre, idsAll d most (l.take i) = pre := ⟨_, rfl⟩
      obtain ⟨xs, hxs2⟩ : ∃ xs, (encT d most x).1 = xs := ⟨_, rfl⟩
      rw [hpre] at SN ST
      rw [hxs2] at SN EC
      rw [SN.out] at SUB LEN
      rw [hpre]
      have EC := Lib.hid EC
      have hxl : xs.length ≤ 1048576 := by have := LEN.out; rw [List.length_append] at this; omega
      have SS := Lib.hid (show ∀ w', Ext (fun _ => False) wr w' → (w'.cell? ⟨w.heap.size, 0, none⟩ = some (.slice L.p0 d.ws.length L.c0) ∧ w'.cell? ⟨w.heap.size, 1, none⟩ = some (.slice L.p1 d.ms.length L.c1) ∧ w'.cell? ⟨w.heap.size, 2, none⟩ = some (.slice L.p2 d.ls.length L.c2) ∧ w'.cell? ⟨w.heap.size, 3, none⟩ = some (.slice L.p3 d.ns.length L.c3) ∧ w'.cell? ⟨w.heap.size, 4, none⟩ = some (.slice L.p4 d.ss.length L.c4)) ∧ w'.cell? ⟨b, o + i, none⟩ = some (.string x) from fun w' hx => ⟨CD.out _ (ST.out.ext.trans hx (fun _ _ h => h)), (hx.cell (p := ⟨b, _, none⟩) hpb (fun h => h)).trans x0⟩)
      obtain ⟨nr, hnr⟩ : ∃ nr, (rowsOf pre).length = nr := ⟨_, rfl⟩
      have NR := Lib.hid hnr
      rw [hnr]
      clear hx hall hpre hxs2 hnr x0
      go_upto_region 5 with (fail)
      go_cut [9] (fun v wc => ∃ (pi : Option Addr) (ci : Nat), v = .slice pi xs.length ci ∧ Arr wc 3 1 pi xs.length ci (Chain.ints xs) ∧ Ext (fun _ => False) wr wc ∧ ∀ j, blkOf pi = some j → wr.heap.size ≤ j)
      case first =>
          refine start_ (n := 15) (S := fun w' => (w'.cell? ⟨w.heap.size, 0, none⟩ = some (.slice L.p0 d.ws.length L.c0) ∧ w'.cell? ⟨w.heap.size, 1, none⟩ = some (.slice L.p1 d.ms.length L.c1) ∧ w'.cell? ⟨w.heap.size, 2, none⟩ = some (.slice L.p2 d.ls.length L.c2) ∧ w'.cell? ⟨w.heap.size, 3, none⟩ = some (.slice L.p3 d.ns.length L.c3) ∧ w'.cell? ⟨w.heap.size, 4, none⟩ = some (.slice L.p4 d.ss.length L.c4)) ∧ w'.cell? ⟨b, o + i, none⟩ = some (.string x)) (ds := [13]) (ls 15 0) (by kernel_rfl) rfl rfl (SS.out _ (Ext.refl _ _).drew) (fun hHeld => ?_)
          refine pure_ (i := 1) (N := some 22) (v := ?_) (a' := ?_) (ls 15 2) rfl rfl (by kernel_rfl) (fun _ _ _ h => h) (Or.inl ⟨by rfl, ?_⟩) ?_ ?_
          rotate_left
          · intro w'; go_simp; with_reducible rfl
          rotate_left
          · simp only [Act.put, List.setIfInBounds_toArray, List.set_cons_zero, List.set_cons_succ, i64_w, i32_w]; rfl
          refine pure_ (i := 2) (N := some 23) (v := ?_) (a' := ?_) (ls 15 6) rfl rfl (by kernel_rfl) (fun _ _ _ h => h) (Or.inl ⟨by rfl, ?_⟩) ?_ ?_
          rotate_left
          · intro w'; go_simp; with_reducible rfl
          rotate_left
          · simp only [Act.put, List.setIfInBounds_toArray, List.set_cons_zero, List.set_cons_succ, i64_w, i32_w]; rfl
          refine pure_ (i := 3) (N := some 24) (v := ?_) (a' := ?_) (ls 15 14) rfl rfl (by kernel_rfl) (fun _ _ _ h => h) (Or.inl ⟨by rfl, ?_⟩) ?_ ?_
          rotate_left
          · intro w'; go_simp; with_reducible rfl
          rotate_left
          · simp only [Act.put, List.setIfInBounds_toArray, List.set_cons_zero, List.set_cons_succ, i64_w, i32_w]; rfl
          refine pure_ (i := 4) (N := some 25) (v := ?_) (a' := ?_) (ls 15 30) rfl rfl (by kernel_rfl) (fun _ _ _ h => h) (Or.inl ⟨by rfl, ?_⟩) ?_ ?_
          rotate_left
          · intro w'; go_simp; with_reducible rfl
          rotate_left
          · simp only [Act.put, List.setIfInBounds_toArray, List.set_cons_zero, List.set_cons_succ, i64_w, i32_w]; rfl
          refine take_ (i := 0) (N := some 21) (v := ?_) (a' := ?_) (ls 15 31) rfl rfl (by kernel_rfl) (fun _ _ _ h => h) (Or.inl ⟨by rfl, ?_⟩) hHeld ?_ ?_
          rotate_left
          · rintro w' ⟨⟨s0, s1, s2, s3, s4⟩, s5⟩; go_simp; with_reducible rfl
          rotate_left
          · simp only [Act.put, List.setIfInBounds_toArray, List.set_cons_zero, List.set_cons_succ, i64_w, i32_w]; rfl
          refine take_ (i := 5) (N := some 26) (v := ?_) (a' := ?_) (ls 15 63) rfl rfl (by kernel_rfl) (fun _ _ _ h => h) (Or.inl ⟨by rfl, ?_⟩) hHeld ?_ ?_
          rotate_left
          · rintro w' ⟨⟨s0, s1, s2, s3, s4⟩, s5⟩; go_simp; with_reducible rfl
          rotate_left
          · simp only [Act.put, List.setIfInBounds_toArray, List.set_cons_zero, List.set_cons_succ, i64_w, i32_w]; rfl
          refine two_ (i := 6) (j := 11) (Ni := some 27) (Nj := some 10) (ls 15 127) (ls 15 2111) rfl rfl rfl rfl (by kernel_rfl) (by decide) (by decide) (fun K hK => ?_) (fun K hK => ?_)
          · refine goes_ Tryz.func45 (by kernel_rfl) rfl #[.agg #[.slice L.p0 d.ws.length L.c0, .slice L.p1 d.ms.length L.c1, .slice L.p2 d.ls.length L.c2, .slice L.p3 d.ns.length L.c3, .slice L.p4 d.ss.length L.c4], .int .i64 most, .string x] (by rfl) rfl rfl (by (try simp only [List.map_toArray, List.map_cons, List.map_nil]); first | done | rfl) ?_
            refine (EC.out _ ((Ext.refl _ wr).drew)).mono ?_
            rintro e V1 ⟨pi, ci, ta, tb, ts, tq, rfl, hAi, hxi, hfi⟩
            have G1 := Lib.hid (((Ext.refl _ wr).drew).trans hxi (fun _ _ h => h))
            have AI := Lib.hid hAi
            have FI := Lib.hid (show ∀ j, blkOf pi = some j → wr.drew.heap.size ≤ j from fun j hj => hfi j hj)
            clear hAi hxi hfi
            refine ⟨_, rfl, ?_⟩
            refine hK.out _ _ (SS.out _ G1.out) (fun hHeld => ?_)
            clear hK K
            refine norm_ (a' := ?_) ?_ ?_
            rotate_left
            · simp only [Act.put, List.setIfInBounds_toArray, List.set_cons_zero, List.set_cons_succ, i64_w, i32_w]; rfl
            refine pure_ (i := 7) (N := some 20) (v := ?_) (a' := ?_) (ls 15 255) rfl rfl (by kernel_rfl) (fun _ _ _ h => h) (Or.inl ⟨by rfl, ?_⟩) ?_ ?_
            rotate_left
            · intro w'; go_simp; with_reducible rfl
            rotate_left
            · simp only [Act.put, List.setIfInBounds_toArray, List.set_cons_zero, List.set_cons_succ, i64_w, i32_w]; rfl
            refine pure_ (i := 8) (N := some 28) (v := ?_) (a' := ?_) (ls 15 511) rfl rfl (by kernel_rfl) (fun _ _ _ h => h) (Or.inl ⟨by rfl, ?_⟩) ?_ ?_
            rotate_left
            · intro w'; go_simp; with_reducible rfl
            rotate_left
            · simp only [Act.put, List.setIfInBounds_toArray, List.set_cons_zero, List.set_cons_succ, i64_w, i32_w]; rfl
            refine pure_ (i := 9) (N := some 29) (v := ?_) (a' := ?_) (ls 15 1023) rfl rfl (by kernel_rfl) (fun _ _ _ h => h) (Or.inl ⟨by rfl, ?_⟩) ?_ ?_
            rotate_left
            · intro w'; go_simp; with_reducible rfl
            rotate_left
            · simp only [Act.put, List.setIfInBounds_toArray, List.set_cons_zero, List.set_cons_succ, i64_w, i32_w]; rfl
            refine pure_ (i := 10) (N := some 30) (v := ?_) (a' := ?_) (ls 15 2047) rfl rfl (by kernel_rfl) (fun _ _ _ h => h) (Or.inl ⟨by rfl, ?_⟩) ?_ ?_
            rotate_left
            · intro w'; go_simp; with_reducible rfl
            rotate_left
            · simp only [Act.put, List.setIfInBounds_toArray, List.set_cons_zero, List.set_cons_succ, i64_w, i32_w]; rfl
            refine one_ (i := 11) (N := some 10) (ls 15 4095) rfl rfl (by kernel_rfl) (by decide) (fun K hK => ?_)
            refine value_ (w1 := ?_) (v := ?_) (by rfl) rfl ?_ ?_
            rotate_left 2
            · go_simp
              constructor
              · rfl
              · rfl
            refine hK.out _ _ (SS.out _ (G1.out.alloc _)) (fun hHeld => ?_)
            clear hK K
            refine norm_ (a' := ?_) ?_ ?_
            rotate_left
            · simp only [Act.put, List.setIfInBounds_toArray, List.set_cons_zero, List.set_cons_succ, i64_w, i32_w]; rfl
            refine pure_ (i := 12) (N := some 9) (v := ?_) (a' := ?_) (ls 15 8191) rfl rfl (by kernel_rfl) (fun _ _ _ h => h) (Or.inl ⟨by rfl, ?_⟩) ?_ ?_
            rotate_left
            · intro w'; go_simp; with_reducible rfl
            rotate_left
            · simp only [Act.put, List.setIfInBounds_toArray, List.set_cons_zero, List.set_cons_succ, i64_w, i32_w]; rfl
            refine last_ (i := 13) (N := none) (ls 15 16383) rfl rfl (by kernel_rfl) (by decide) (fun K hK => ?_)
            refine skip_ (w1 := ?_) (by rfl) rfl ?_ ?_
            rotate_left 1
            · go_simp; rfl
            refine hK.out _ _ ?_
            clear hK K
            refine pure_ (i := 14) (N := some 11) (v := ?_) (a' := ?_) (ls 15 32767) rfl rfl (by kernel_rfl) (fun _ _ _ h => h) (Or.inl ⟨by rfl, ?_⟩) ?_ ?_
            rotate_left
            · intro w'; go_simp; with_reducible rfl
            rotate_left
            · simp only [Act.put, List.setIfInBounds_toArray, List.set_cons_zero, List.set_cons_succ, i64_w, i32_w]; rfl
            refine done_ (by kernel_rfl) ?_
            have X9 := Lib.hid (show Ext (fun _ => False) wr (V1.alloc (.cells #[.int .i64 ta, .int .i64 tb, .int .i64 ts] 96)) from G1.out.alloc _)
            have A9 := Lib.hid (arr_ext AI.out ((Ext.refl (fun _ => False) V1).alloc (.cells #[.int .i64 ta, .int .i64 tb, .int .i64 ts] 96)) (fun _ _ h => h))
            go_wp2_with fail
            go_meet
            exact ⟨pi, ci, rfl, A9.out, X9.out, fun j hj => by have := FI.out j hj; simpa using this⟩
          · refine value_ (w1 := ?_) (v := ?_) (by rfl) rfl ?_ ?_
            rotate_left 2
            · go_simp
              constructor
              · rfl
              · rfl
            refine hK.out _ _ (SS.out _ ((Ext.refl _ wr).drew.alloc _)) (fun hHeld => ?_)
            clear hK K
            refine norm_ (a' := ?_) ?_ ?_
            rotate_left
            · simp only [Act.put, List.setIfInBounds_toArray, List.set_cons_zero, List.set_cons_succ, i64_w, i32_w]; rfl
            refine one_ (i := 6) (N := some 27) (ls 15 2175) rfl rfl (by kernel_rfl) (by decide) (fun K hK => ?_)
            refine goes_ Tryz.func45 (by kernel_rfl) rfl #[.agg #[.slice L.p0 d.ws.length L.c0, .slice L.p1 d.ms.length L.c1, .slice L.p2 d.ls.length L.c2, .slice L.p3 d.ns.length L.c3, .slice L.p4 d.ss.length L.c4], .int .i64 most, .string x] (by rfl) rfl rfl (by (try simp only [List.map_toArray, List.map_cons, List.map_nil]); first | done | rfl) ?_
            refine (EC.out _ (((Ext.refl _ wr).drew.alloc (.cells #[.int .i64 0, .int .i64 0, .int .i64 0] 96)))).mono ?_
            rintro e V1 ⟨pi, ci, ta, tb, ts, tq, rfl, hAi, hxi, hfi⟩
            have G1 := Lib.hid ((((Ext.refl _ wr).drew.alloc (.cells #[.int .i64 0, .int .i64 0, .int .i64 0] 96))).trans hxi (fun _ _ h => h))
            have AI := Lib.hid hAi
            have FI := Lib.hid (show ∀ j, blkOf pi = some j → (wr.drew.alloc (.cells #[.int .i64 0, .int .i64 0, .int .i64 0] 96)).heap.size ≤ j from fun j hj => hfi j hj)
            have ob := hxi.obj (heap_alloc_new wr.drew (.cells #[.int .i64 0, .int .i64 0, .int .i64 0] 96)) (fun h => h)
            have hob := blk_lt ob
            have t0 := blk_cell ob 0
            have t1 := blk_cell ob 1
            have t2 := blk_cell ob 2
            have u0 := blk_frozen ob 0
            have u1 := blk_frozen ob 1
            have u2 := blk_frozen ob 2
            simp at t0 t1 t2 u0 u1 u2 hob
            clear hAi hxi hfi ob
            refine ⟨_, rfl, ?_⟩
            refine hK.out _ _ (SS.out _ G1.out) (fun hHeld => ?_)
            clear hK K
            refine norm_ (a' := ?_) ?_ ?_
            rotate_left
            · simp only [Act.put, List.setIfInBounds_toArray, List.set_cons_zero, List.set_cons_succ, i64_w, i32_w]; rfl
            refine pure_ (i := 7) (N := some 20) (v := ?_) (a' := ?_) (ls 15 2303) rfl rfl (by kernel_rfl) (fun _ _ _ h => h) (Or.inl ⟨by rfl, ?_⟩) ?_ ?_
            rotate_left
            · intro w'; go_simp; with_reducible rfl
            rotate_left
            · simp only [Act.put, List.setIfInBounds_toArray, List.set_cons_zero, List.set_cons_succ, i64_w, i32_w]; rfl
            refine pure_ (i := 8) (N := some 28) (v := ?_) (a' := ?_) (ls 15 2559) rfl rfl (by kernel_rfl) (fun _ _ _ h => h) (Or.inl ⟨by rfl, ?_⟩) ?_ ?_
            rotate_left
            · intro w'; go_simp; with_reducible rfl
            rotate_left
            · simp only [Act.put, List.setIfInBounds_toArray, List.set_cons_zero, List.set_cons_succ, i64_w, i32_w]; rfl
            refine pure_ (i := 9) (N := some 29) (v := ?_) (a' := ?_) (ls 15 3071) rfl rfl (by kernel_rfl) (fun _ _ _ h => h) (Or.inl ⟨by rfl, ?_⟩) ?_ ?_
            rotate_left
            · intro w'; go_simp; with_reducible rfl
            rotate_left
            · simp only [Act.put, List.setIfInBounds_toArray, List.set_cons_zero, List.set_cons_succ, i64_w, i32_w]; rfl
            refine pure_ (i := 10) (N := some 30) (v := ?_) (a' := ?_) (ls 15 4095) rfl rfl (by kernel_rfl) (fun _ _ _ h => h) (Or.inl ⟨by rfl, ?_⟩) ?_ ?_
            rotate_left
            · intro w'; go_simp; with_reducible rfl
            rotate_left
            · simp only [Act.put, List.setIfInBounds_toArray, List.set_cons_zero, List.set_cons_succ, i64_w, i32_w]; rfl
            refine pure_ (i := 12) (N := some 9) (v := ?_) (a' := ?_) (ls 15 8191) rfl rfl (by kernel_rfl) (fun _ _ _ h => h) (Or.inl ⟨by rfl, ?_⟩) ?_ ?_
            rotate_left
            · intro w'; go_simp; with_reducible rfl
            rotate_left
            · simp only [Act.put, List.setIfInBounds_toArray, List.set_cons_zero, List.set_cons_succ, i64_w, i32_w]; rfl
            refine last_ (i := 13) (N := none) (ls 15 16383) rfl rfl (by kernel_rfl) (by decide) (fun K hK => ?_)
            refine skip_ (w1 := ?_) (by rfl) rfl ?_ ?_
            rotate_left 1
            · go_simp; rfl
            refine hK.out _ _ ?_
            clear hK K
            refine pure_ (i := 14) (N := some 11) (v := ?_) (a' := ?_) (ls 15 32767) rfl rfl (by kernel_rfl) (fun _ _ _ h => h) (Or.inl ⟨by rfl, ?_⟩) ?_ ?_
            rotate_left
            · intro w'; go_simp; with_reducible rfl
            rotate_left
            · simp only [Act.put, List.setIfInBounds_toArray, List.set_cons_zero, List.set_cons_succ, i64_w, i32_w]; rfl
            refine done_ (by kernel_rfl) ?_
            have X9 := Lib.hid (show Ext (fun _ => False) wr _ from ((G1.out.setCell (p := ⟨wr.heap.size, 0, none⟩) (fun h => absurd h (Nat.lt_irrefl _)) (.int .i64 ta)).setCell (p := ⟨wr.heap.size, 1, none⟩) (fun h => absurd h (Nat.lt_irrefl _)) (.int .i64 tb)).setCell (p := ⟨wr.heap.size, 2, none⟩) (fun h => absurd h (Nat.lt_irrefl _)) (.int .i64 ts))
            have A9 := Lib.hid (arr_ext AI.out (((Ext.refl (fun j => j = wr.heap.size) V1).setCell (p := ⟨wr.heap.size, 0, none⟩) (fun _ => rfl) (.int .i64 ta)).setCell (p := ⟨wr.heap.size, 1, none⟩) (fun _ => rfl) (.int .i64 tb) |>.setCell (p := ⟨wr.heap.size, 2, none⟩) (fun _ => rfl) (.int .i64 ts)) (fun j hj e => by have := FI.out j hj; rw [World.size_alloc] at this; simp at this; omega))
            go_wp2_with fail
            go_meet
            exact ⟨pi, ci, rfl, A9.out, X9.out, fun j hj => by have := FI.out j hj; rw [World.size_alloc] at this; simp at this; omega⟩
      case rest =>
        obtain ⟨pi, ci, rfl, hAi, hxi, hfi⟩ := hcut
        have AI := Lib.hid hAi
        have S1 := Lib.hid (show C23 W0 wc (rowsOf pre) p pi c from ⟨arr_ext ST.out.arr hxi (fun _ _ h => h), ST.out.ext.trans hxi (fun _ _ h => h), fun k hk => ⟨(ST.out.fr k hk).1, fun e => by have := hfi k e; have := arr_lt ST.out.arr hk; omega⟩⟩)
        have PI := Lib.hid (show ∀ k, blkOf pi = some k → k < wc.heap.size from fun k hk => arr_lt hAi hk)
        clear hAi hxi hfi EC SS
        go_wp2_with fail
        go_loopw [7, 12] (fun vl vj wr2 => ∃ (j : Nat) (p : Option Addr) (c : Nat), vl = .slice p (rowsOf (pre ++ xs.take j)).length c ∧ vj = .int .i64 j ∧ j ≤ xs.length ∧ C23 W0 wr2 (rowsOf (pre ++ xs.take j)) p pi c ∧ Arr wr2 3 1 pi xs.length ci (Chain.ints xs)) (fun _ vj _ => xs.length - (intOf vj).toNat)
        case atStart => exact ⟨0, p, c, by rw [List.take_zero, List.append_nil, NR.out], rfl, Nat.zero_le _, by rw [List.take_zero, List.append_nil]; exact S1.out, AI.out⟩
        case round =>
          obtain ⟨j, p2, c2, rfl, rfl, hj, hst2, haj⟩ := hrel
          have ST2 := Lib.hid hst2
          have AJ := Lib.hid haj
          by_cases hlt2 : j < xs.length
          · have i2 : (j : Int) < (xs.length : Int) := by omega
            obtain ⟨y, hgy⟩ : ∃ y, xs[j]? = some y := ⟨_, List.getElem?_eq_getElem hlt2⟩
            obtain ⟨bi, oi, hpi, hbi, y0⟩ := (ints_rd haj).cellI hgy
            subst hpi
            have hCN := rowsOf_counts (pre ++ xs.take j)
            have hsnoc : pre ++ xs.take (j + 1) = (pre ++ xs.take j) ++ [y] := by rw [List.take_add_one, hgy]; simp
            have HB := Lib.hid (show rowsOf (pre ++ xs.take (j + 1)) = bump (rowsOf (pre ++ xs.take j)) y from by rw [hsnoc, rowsOf_snoc])
            have hlen : (pre ++ xs.take j).length ≤ 1048576 := by
              have := LEN.out
              rw [List.length_append] at this ⊢
              rw [List.length_take]
              omega
            have hrl := rows_len hCN
            have hrp := rows_pos hCN
            obtain ⟨R, hR⟩ : ∃ R, rowsOf (pre ++ xs.take j) = R := ⟨_, rfl⟩
            rw [hR] at ST2 HB hrl hrp
            rw [hR]
            have ND := Lib.hid (show (R.map (·.id)).Nodup from by rw [← hR]; exact hCN.nodup)
            have RP := Lib.hid (show ∀ r ∈ R, 1 ≤ r.n ∧ r.n ≤ 1048576 from fun r hr => by have := hrp r hr; omega)
            have hRl : R.length ≤ 1048576 := by omega
            have PJ := Lib.hid (show ∀ k, blkOf (some (⟨bi, oi, none⟩ : Addr)) = some k → k < wr.heap.size from fun k hk => arr_lt haj hk)
            clear hst2 haj hgy hsnoc hCN hlen hrl hrp hR
            go_wp2_with fail
            go_loopw [13] (fun vk wr3 => ∃ k : Nat, vk = .int .i64 k ∧ k ≤ R.length ∧ (∀ m q, m < k → R[m]? = some q → q.id ≠ y) ∧ Ext (fun _ => False) wr wr3) (fun vk _ => R.length - (intOf vk).toNat)
            case atStart => exact ⟨0, rfl, Nat.zero_le _, (fun m q hm => by omega), Ext.refl _ _⟩
            case round =>
              obtain ⟨k, rfl, hk, hno, hx3⟩ := hrel
              have NO := Lib.hid hno
              have X3 := Lib.hid hx3
              have S3 := Lib.hid (ST2.out.on hx3)
              have A3 := Lib.hid (arr_ext AJ.out hx3 (fun _ _ h => h))
              have y3 := (hx3.cell (p := ⟨bi, oi + j, none⟩) hbi (fun h => h)).trans y0
              have hbi3 : bi < wr.heap.size := Nat.lt_of_lt_of_le hbi hx3.size
              clear hno
              by_cases hlk : k < R.length
              · obtain ⟨q, hq⟩ : ∃ q, R[k]? = some q := ⟨_, List.getElem?_eq_getElem hlk⟩
                obtain ⟨br, or_, hpr, hbr, r0, r1⟩ := cellRR (Rd.of_arr S3.out.arr) hq
                obtain ⟨a, ha⟩ := arr_some S3.out.arr (by omega)
                rw [ha] at hpr
                injection hpr with hpr
                injection hpr with e1 e2
                subst e1 e2
                subst ha
                rw [Nat.zero_add] at r0 r1
                have i3 : (k : Int) < (R.length : Int) := by omega
                have d1 : decide (k < R.length) = true := decide_eq_true hlk
                have d1' : decide ((k : Int) < (R.length : Int)) = true := decide_eq_true i3
                have HQ := Lib.hid hq
                have hqn := RP.out q (List.mem_of_getElem? hq)
                by_cases hqy : q.id = y
                · have q1 : (q.id != y) = false := by simp [hqy]
                  have q2 : ((k : Int) == (R.length : Int)) = false := by rw [beq_eq_false_iff_ne]; omega
                  have UP := fun (W : World) (hx : Ext (fun _ => False) wr W) => (S3.out.on hx).up ND.out HQ.out
                  rw [hqy, ← HB.out] at UP
                  have UP := Lib.hid UP
                  have fr := S3.out.fr a rfl
                  have hne : bi ≠ a := fun e => fr.2 (by rw [e]; rfl)
                  have HNE := Lib.hid hne
                  obtain ⟨qi, qn⟩ := q
                  simp only at r0 r1 hqn hqy q1 UP
                  have hz := arr_frozen S3.out.arr (k * 2 + 1)
                  have hqb : qn + 1 ≤ 1048577 := by omega
                  have hq1 : 1 ≤ qn := hqn.1
                  have hql : qn ≤ 1048576 := by omega
                  clear hq hqy fr hx3 y0 hbi
                  go_wp2_with fail
                  go_quiet (fail)
                  have EQ := Lib.hid ((Ext.refl (fun _ => False) wr).drewN nq)
                  have U9 := Lib.hid (UP.out _ EQ.out)
                  have A9 := Lib.hid (arr_ext (arr_ext A3.out EQ.out (fun _ _ h => h)) ((Ext.refl (fun j => j = a) (wr.drewN nq)).setCell (p := ⟨a, k * 2 + 1, none⟩) (fun _ => rfl) (.int .i64 (qn + 1))) (fun j hj e => HNE.out ((Option.some.inj hj : bi = j).trans e)))
                  go_wp2_with fail
                  go_roundw
                  case rel => exact ⟨j + 1, some ⟨a, 0, none⟩, c2, by rw [U9.out.2], by go_num, hlt2, U9.out.1, A9.out⟩
                  case measure => simp [intOf]; omega
                · have q1 : (q.id != y) = true := by simpa using hqy
                  have NX := Lib.hid (show ∀ m q, m < k + 1 → R[m]? = some q → q.id ≠ y from fun m q' hm hq' => by
                    by_cases h : m < k
                    · exact NO.out m q' h hq'
                    · obtain rfl : m = k := by omega
                      rw [HQ.out] at hq'
                      injection hq' with hq'
                      rw [← hq']
                      exact hqy)
                  clear hq hqy hx3 y0 hbi
                  go_wp2_with fail
                  go_quiet (fail)
                  go_wp2_with fail
                  go_roundw
                  case rel => exact ⟨k + 1, by go_num, hlk, NX.out, X3.out.drewN _⟩
                  case measure => simp [intOf]; omega
              · obtain rfl : k = R.length := by omega
                have i3 : ¬ (R.length : Int) < (R.length : Int) := by omega
                have d1 : decide (R.length < R.length) = false := decide_eq_false hlk
                have q2 : ((R.length : Int) == (R.length : Int)) = true := by simp
                have HY := Lib.hid (show y ∉ R.map (·.id) from fun hm => by
                  obtain ⟨q, hq, e⟩ := List.mem_map.1 hm
                  obtain ⟨m, hm⟩ := List.mem_iff_getElem?.1 hq
                  exact NO.out m q (List.getElem?_eq_some_iff.1 hm).1 hm e)
                clear hx3 y0 hbi
                go_wp2_with fail
                go_quiet (fail)
                have EQ := Lib.hid ((Ext.refl (fun _ => False) wr).drewN nq)
                obtain ⟨W4, hW4⟩ : ∃ W4, wr.drewN nq = W4 := ⟨_, rfl⟩
                rw [hW4] at EQ
                rw [hW4]
                have S4 := Lib.hid (S3.out.on EQ.out)
                have A4 := Lib.hid (arr_ext A3.out EQ.out (fun _ _ h => h))
                have y4 := (EQ.out.cell (p := ⟨bi, oi + j, none⟩) hbi3 (fun h => h)).trans y3
                clear hW4 y3
                go_upto_region 14 with (at_builtin; refine arr_append1 rfl (.tmp 59) (.tmp 65) 39 94 2 16 (.agg #[.int .i64 0, .int .i64 0]) rfl Tryz.underlying39 infoF rfl (by decide) (by decide) p2 R.length c2 (flat eTR R) [.int .i64 y, .int .i64 0] rfl _ rfl (by simp) rfl (by simp [Value.oneCell']) S4.out.arr (by omega) ?_; intro p5 c5 w5 hA5 hx5 hm5)
                have S5 := Lib.hid (S4.out.new HY.out (fun k hk => by have := PJ.out k hk; have := EQ.out.size; have := X3.out.size; omega) hA5 hx5 hm5)
                have A5 := Lib.hid (arr_ext A4.out hx5 (fun j hj e => (S4.out.fr j e).2 hj))
                have hlast : (R ++ [(⟨y, 0⟩ : TRow)])[R.length]? = some ⟨y, 0⟩ := by simp
                obtain ⟨br, or_, hpr, hbr, r0, r1⟩ := cellRR (Rd.of_arr S5.out.arr) hlast
                obtain ⟨a, ha⟩ := arr_some S5.out.arr (by simp)
                rw [ha] at hpr
                injection hpr with hpr
                injection hpr with e1 e2
                subst e1 e2
                subst ha
                rw [Nat.zero_add] at r0 r1
                have hz := arr_frozen S5.out.arr (R.length * 2 + 1)
                simp only at r0 r1
                have NDR := Lib.hid (show ((R ++ [(⟨y, 0⟩ : TRow)]).map (·.id)).Nodup from by
                  rw [List.map_append, List.nodup_append]
                  exact ⟨ND.out, by simp, fun u hu v hv e => by
                    have : v = y := by simpa using hv
                    exact HY.out (by rw [← this, ← e]; exact hu)⟩)
                have UP := S5.out.up NDR.out hlast
                have hbb : bump (R ++ [(⟨y, 0⟩ : TRow)]) y = bump R y := by
                  rw [bump_new HY.out, bump_set NDR.out hlast rfl]
                  simp
                simp only at UP
                rw [hbb, ← HB.out] at UP
                have UP := Lib.hid UP
                have A9 := Lib.hid (arr_ext A5.out ((Ext.refl (fun j => j = a) w5).setCell (p := ⟨a, R.length * 2 + 1, none⟩) (fun _ => rfl) (.int .i64 (0 + 1))) (fun j hj e => by have := (S5.out.fr a rfl).2; rw [hj, e] at this; exact this rfl))
                clear hA5 hx5 hm5 hlast hbb y4
                go_wp2_with fail
                go_roundw
                case rel => exact ⟨j + 1, some ⟨a, 0, none⟩, c5, by rw [UP.out.2, List.length_append]; rfl, by go_num, hlt2, UP.out.1, A9.out⟩
                case measure => simp [intOf]; omega
          · obtain rfl : j = xs.length := by omega
            have i2 : ¬ ((xs.length : Int) < (xs.length : Int)) := by omega
            rw [List.take_length] at ST2
            have hs := SN.out
            clear hst2 haj
            rw [List.take_length]
            go_wp2_with fail
            go_roundw
            case rel => exact ⟨i + 1, p2, c2, by rw [SN.out], by go_num, hlt, by rw [SN.out]; exact ⟨ST2.out.arr, ST2.out.ext, fun k hk => ⟨(ST2.out.fr k hk).1, fun h => by cases h⟩⟩⟩
            case measure => simp [intOf]; omega
    · obtain rfl : i = l.length := by omega
      have i1 : ¬ ((l.length : Int) < (l.length : Int)) := by omega
      rw [List.take_length] at ST ⊢
      have hCN := rowsOf_counts (idsAll d most l)
      have hrl := rows_len hCN
      have hil := IL.out
      have OC := orderR_any wr p c (rowsOf (idsAll d most l)) (Rd.of_arr ST.out.arr) (by omega)
      have OL := Lib.hid (show (countR (idsAll d most l)).length = (rowsOf (idsAll d most l)).length from ordR_length _)
      have OC := Lib.hid OC
      clear hCN hrl hil
      go_wp2_with fail
      refine OC.out.mono ?_
      rintro e w6 ⟨⟨p6, c6, rfl, hA6, hx6⟩⟩
      have A6 := Lib.hid (Rd.of_arr hA6)
      have X6 := Lib.hid (XW.out.trans hx6 (fun _ _ h => h))
      clear hA6 hx6 OC
      go_wp2_with fail
      go_ret
      exact ⟨p6, c6, by rw [OL.out]; rfl, A6.out, X6.out⟩
end Go.Proofs.YtigpaaelggnffaaGreatDoor.Ty
