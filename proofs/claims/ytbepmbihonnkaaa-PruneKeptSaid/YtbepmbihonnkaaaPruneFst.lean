/- prune.First. -/
import Derived.Test.YtbepmbihonnkaaaCutPure
namespace Go.Proofs.Ytbepmbihonnkaaa.Sl
open Go.Proofs.Ytbepmbihonnkaaa.Lib
open Go.RowKit Go.Proofs.YtbepmbihonnkaaaW.PrintLast
set_option linter.unusedVariables false
set_option linter.unusedSimpArgs false

/-- Merges are put out one by one: the state of prune.First's loop. -/
structure FpSt (w wr : World) (L : Pl) (d : Dat) (I : List Int) (Wd : List ByteArray) (M : List Mrg) (N ib ob : Nat) (pw : Option Addr) (cw : Nat) (pm : Option Addr) (cm : Nat) : Prop where
  ids : Arr wr 3 1 (some ⟨ib, 0, none⟩) N N (ints I)
  wds : Arr wr 9 1 pw Wd.length cw (flat eS Wd)
  mgs : Arr wr 35 3 pm M.length cm (flat eM M)
  ext : Ext (fun _ => False) w wr
  obj : wr.heap[ob]? = some (.cells #[.slice pw Wd.length cw, .slice pm M.length cm, .slice L.p2 d.ls.length L.c2, .slice L.p3 d.ns.length L.c3, .slice L.p4 d.ss.length L.c4] 26 (0, 0))
  f0 : w.heap.size ≤ ob ∧ w.heap.size ≤ ib ∧ ob ≠ ib ∧ blkOf pw ≠ some ob
  f1 : ∀ j, blkOf pm = some j → w.heap.size ≤ j ∧ j ≠ ob ∧ j ≠ ib ∧ blkOf pw ≠ some j
section
variable {w wr W w1 : World} {L : Pl} {d : Dat} {I : List Int} {Wd : List ByteArray} {M : List Mrg} {N ib ob : Nat} {pw : Option Addr} {cw : Nat} {pm : Option Addr} {cm : Nat} {p1 : Option Addr} {c1 : Nat}
theorem FpSt.on (h : FpSt w wr L d I Wd M N ib ob pw cw pm cm) (hx : Ext (fun _ => False) wr W) : FpSt w W L d I Wd M N ib ob pw cw pm cm :=
  { h with ids := arr_ext h.ids hx (fun _ _ h => h), wds := arr_ext h.wds hx (fun _ _ h => h), mgs := arr_ext h.mgs hx (fun _ _ h => h), ext := h.ext.trans hx (fun _ _ h => h), obj := hx.obj h.obj (fun h => h) }
theorem FpSt.addMerge {x : Mrg} (h : FpSt w wr L d I Wd M N ib ob pw cw pm cm) (hA : Arr w1 35 3 p1 (M.length + 1) c1 (flat eM M ++ [.int .i64 x.l, .int .i64 x.r, .int .i64 x.i])) (hx1 : Ext (fun j => blkOf pm = some j) wr w1) (hm : Moved wr pm p1) :
    FpSt w (w1.setCell ⟨ob, 1, none⟩ (.slice p1 (M.length + 1) c1)) L d I Wd (M ++ [x]) N ib ob pw cw p1 c1 := by
  have hs := blk_lt h.obj
  have hil := arr_lt h.ids (k := ib) rfl
  have hx2 : Ext (fun j => j = ob) w1 (w1.setCell ⟨ob, 1, none⟩ (.slice p1 (M.length + 1) c1)) := (Ext.refl (fun j => j = ob) w1).setCell (p := ⟨ob, 1, none⟩) (fun _ => rfl) _
  have s0 := h.ext.size
  have s1 := hx1.size
  have hf := h.f0
  have hp1 : ∀ j, blkOf p1 = some j → w.heap.size ≤ j ∧ j ≠ ob ∧ j ≠ ib ∧ blkOf pw ≠ some j := fun j hj => by
    rcases hm j hj with h1 | h1
    · exact h.f1 j h1
    · exact ⟨by omega, by omega, by omega, fun e => by have := arr_lt h.wds e; omega⟩
  refine ⟨?_, ?_, ?_, ?_, ?_, h.f0, hp1⟩
  · exact arr_ext (arr_ext h.ids hx1 (fun j hj e => by have := h.f1 j e; simp [blkOf] at hj; omega)) hx2 (fun j hj e => by simp [blkOf] at hj; omega)
  · exact arr_ext (arr_ext h.wds hx1 (fun j hj e => (h.f1 j e).2.2.2 hj)) hx2 (fun j hj e => hf.2.2.2 (by rw [hj, e]))
  · have := arr_ext hA hx2 (fun j hj e => (hp1 j hj).2.1 e)
    simpa [flat, eM] using this
  · exact (h.ext.trans hx1 (fun i hi e => by have := h.f1 i e; omega)).trans hx2 (fun i hi e => by omega)
  · have := blk_set (hx1.obj h.obj (fun e => (h.f1 _ e).2.1 rfl)) 1 (.slice p1 (M.length + 1) c1)
    simpa using this
/-- What the state says of the data. -/
theorem FpSt.data {n : Nat} (h : FpSt w wr L d I Wd M N ib ob pw cw pm cm) (hR : DR w L d) (hD : RightD d) (hn : n ≤ d.ms.length) (hI : (renGo d n (256 + d.ms.length)).1 = I) (hW : (renGo d n (256 + d.ms.length)).2 = Wd) (hM : (d.ms.take n).map (cutM I) = M) :
    DR wr ⟨pw, cw, pm, cm, L.p2, L.c2, L.p3, L.c3, L.p4, L.c4⟩ (cutD d n) := by
  have hl := (renGo_len d n (256 + d.ms.length))
  have hf := hD.few
  subst hI hW hM
  have hml : (cutD d n).ms.length = n := by unfold cutD; rw [List.length_map, List.length_take]; omega
  have R := hR.on h.ext
  have a1 := h.wds
  have a2 := h.mgs
  refine ⟨Rd.of_arr a1, Rd.of_arr a2, R.r2, R.r3, R.r4, (arr_cap a1).1, (arr_cap a2).1, R.k2, R.k3, R.k4, ?_, ?_, R.b2, R.b3, R.b4, fun s hs => ?_, fun x hx => ?_⟩
  · rw [cutD_ws]; omega
  · rw [hml]; omega
  · have := renGo_ws hD n _ s hs; omega
  · unfold cutD at hx
    rw [List.mem_map] at hx
    obtain ⟨y, _, rfl⟩ := hx
    have h1 := renAt_bd d n (256 + d.ms.length) y.l
    have h2 := renAt_bd d n (256 + d.ms.length) y.r
    have h3 := renAt_bd d n (256 + d.ms.length) y.i
    unfold cutM inI
    exact ⟨⟨by simp only; omega, by simp only; omega⟩, ⟨by simp only; omega, by simp only; omega⟩, ⟨by simp only; omega, by simp only; omega⟩⟩
end
def PFirstEnd (w : World) (d : Dat) (n : Nat) (e : Ending) (w' : World) : Prop := ∃ (a ib : Nat),
  e = .returned (.tuple #[.pointer (some ⟨a, 0, none⟩), .slice (some ⟨ib, 0, none⟩) (256 + d.ms.length) (256 + d.ms.length), .int .i64 0]) ∧
  IsModel w' a (cutD d n) ∧ Arr w' 3 1 (some ⟨ib, 0, none⟩) (256 + d.ms.length) (256 + d.ms.length) (ints (renGo d n (256 + d.ms.length)).1) ∧ Ext (fun _ => False) w w' ∧ w.heap.size ≤ ib ∧ w.heap.size ≤ a

set_option maxRecDepth 100000 in
set_option maxHeartbeats 8000000 in
theorem pfirst_any (w : World) (a : Nat) (d : Dat) (k : Int) (h : IsModel w a d) (hg : good d = true) :
    Calls Try.prog 25 #[.pointer (some ⟨a, 0, none⟩), .int .i64 k] w fun e w' => PFirstEnd w d (kc d k) e w' := by
  have hd := RightD.of_good hg
  have hf := hd.few
  have C := Lib.hid (pof_any w a d h hd)
  have D := Lib.hid hd
  have CK := Lib.hid (cut_check hg (kc_le d k))
  have KC := Lib.hid (show mn (mx k 0) d.ms.length = ((kc d k : Nat) : Int) from by
    unfold mn mx kc
    by_cases h0 : k < 0
    · rw [if_pos h0, if_pos h0, if_neg (by omega)]; rfl
    · rw [if_neg h0, if_neg h0]
      by_cases h1 : (d.ms.length : Int) < k
      · rw [if_pos h1, if_pos h1]
      · rw [if_neg h1, if_neg h1]; omega)
  clear h hd hg
  go_enter Try.func25, Try.ntmps25
  go_wp2_with fail
  refine C.out.mono ?_
  rintro e W ⟨L, pr, cr, R, rfl, hT, hx⟩
  have T := Lib.hid hT
  have X := Lib.hid hx
  have KR := Lib.hid (show mn (mx k 0) (R.length : Int) = ((kc d k : Nat) : Int) from by rw [hT.rl]; exact KC.out)
  have hrl2 : R.length ≤ 4096 := by have := hT.rl; omega
  clear hT hx C
  have xa : Ext (fun _ => False) W (W.alloc (.cells (tbCells L d pr cr R) 79)) := (Ext.refl _ _).alloc _
  have HB := Lib.hid (show (W.alloc (.cells (tbCells L d pr cr R) 79)).heap[W.heap.size]? = _ from heap_alloc_new W _)
  have TA := Lib.hid (T.out.on xa)
  have XA := Lib.hid xa
  clear xa
  go_wp2_with fail
  rw [KR.out]
  refine (renamed_any _ L d pr cr R ((kc d k : Nat) : Int) TA.out D.out).mono ?_
  rintro e W2 ⟨ib, pw, cw, rfl, hI, hWd, hx2, hib, hpw⟩
  obtain ⟨n, hn⟩ : ∃ n, kc d k = n := ⟨_, rfl⟩
  have hn2 : n ≤ d.ms.length := by rw [← hn]; exact kc_le d k
  rw [hn] at hI hWd CK KR ⊢
  have htb := blk_lt (hx2.obj HB.out (fun h => h))
  have TB2 := Lib.hid (hx2.obj HB.out (fun h => h))
  have XW2 := Lib.hid (XA.out.trans hx2 (fun _ _ h => h))
  have hibW : W.heap.size ≤ ib := by have := XA.out.size; omega
  obtain ⟨Wd, hWd2⟩ : ∃ Wd, (renGo d n (256 + d.ms.length)).2 = Wd := ⟨_, rfl⟩
  obtain ⟨I, hI2⟩ : ∃ I, (renGo d n (256 + d.ms.length)).1 = I := ⟨_, rfl⟩
  obtain ⟨N, hN⟩ : ∃ N : Nat, 256 + d.ms.length = N := ⟨_, rfl⟩
  have HWd := Lib.hid hWd2
  have HI := Lib.hid hI2
  have HN := Lib.hid hN
  have HL1 := Lib.hid (show I.length = N from by rw [← hI2, ← hN]; exact (renGo_len d n _).1)
  rw [hWd2] at hWd ⊢
  rw [hI2] at hI
  rw [hN] at hI ⊢
  have xo : Ext (fun _ => False) W2 (W2.alloc (.cells #[.slice pw Wd.length cw, .slice none 0 0, .slice L.p2 d.ls.length L.c2, .slice L.p3 d.ns.length L.c3, .slice L.p4 d.ss.length L.c4] 26)) := (Ext.refl _ _).alloc _
  have S0 := Lib.hid (show FpSt W (W2.alloc (.cells #[.slice pw Wd.length cw, .slice none 0 0, .slice L.p2 d.ls.length L.c2, .slice L.p3 d.ns.length L.c3, .slice L.p4 d.ss.length L.c4] 26)) L d I Wd [] N ib W2.heap.size pw cw none 0 from
    { ids := arr_ext hI xo (fun _ _ h => h), wds := arr_ext hWd xo (fun _ _ h => h), mgs := arr_nil _ _ _, ext := XW2.out.trans xo (fun _ _ h => h), obj := heap_alloc_new W2 _,
      f0 := ⟨XW2.out.size, hibW, by have := arr_lt hI (k := ib) rfl; omega, fun h => by have := arr_lt hWd h; omega⟩
      f1 := fun j hj => by cases hj })
  have TB3 := Lib.hid (xo.obj TB2.out (fun h => h))
  have hib2 : w.heap.size ≤ ib := by have := X.out.size; omega
  clear hI hWd hx2 hib hpw hWd2 hI2 hN xo
  have b0 := blk_cell TB2.out 0
  have b1 := blk_cell TB2.out 1
  have b2 := blk_cell TB2.out 2
  have b3 := blk_cell TB2.out 3
  have b4 := blk_cell TB2.out 4
  simp [tbCells] at b0 b1 b2 b3 b4
  have hk1 := T.out.rd.k1
  have hnc : (n : Int) ≤ (L.c1 : Int) := by omega
  have HKN := Lib.hid hn
  clear hn
  go_wp2_with fail
  obtain ⟨ob, hob⟩ : ∃ ob, W2.heap.size = ob := ⟨_, rfl⟩
  rw [hob] at S0 ⊢
  clear b0 b1 b2 b3 b4 htb
  generalize W2.alloc (.cells #[.slice pw Wd.length cw, .slice none 0 0, .slice L.p2 d.ls.length L.c2, .slice L.p3 d.ns.length L.c3, .slice L.p4 d.ss.length L.c4] 26) = W3 at S0 TB3 ⊢
  clear hob
  go_loopw [48] (fun i w2 => ∃ j : Nat, i = .int .i64 j ∧ j ≤ n ∧ ∃ (pm : Option Addr) (cm : Nat), FpSt W w2 L d I Wd ((d.ms.take j).map (cutM I)) N ib ob pw cw pm cm) (fun i _ => n - (intOf i).toNat)
  case atStart => exact ⟨0, rfl, Nat.zero_le _, none, 0, S0.out⟩
  case round =>
    obtain ⟨j, rfl, hj, pm, cm, hst⟩ := hrel
    have ob0 := hst.obj
    have S3 := Lib.hid hst
    clear hst S0
    have o1 := blk_cell ob0 1
    have o1f := blk_frozen ob0 1
    simp at o1
    by_cases hlt : j < n
    · have i1 : (j : Int) < (n : Int) := by omega
      obtain ⟨x, hx⟩ : ∃ x, d.ms[j]? = some x := ⟨_, List.getElem?_eq_getElem (by omega)⟩
      obtain ⟨b, o, hp, hb, c0, c1, c2⟩ := (T.out.rd.on S3.out.ext).r1.cellM hx
      obtain ⟨hi0, hi1⟩ := D.out.idr j x hx
      obtain ⟨hl0, hl1⟩ := D.out.part_range (D.out.pl j x hx)
      obtain ⟨hr0, hr1⟩ := D.out.part_range (D.out.pr j x hx)
      have hI0 := S3.out.ids
      have cid : ∀ z : Int, 0 ≤ z → z < 256 + (d.ms.length : Int) → wr.cell? ⟨ib, z.toNat, none⟩ = some (.int .i64 (renAt I z)) := fun z h0 h1 => by
        have := HL1.out
        have := HN.out
        refine (arr_cell hI0 z.toNat (by omega)).trans ?_
        unfold ints renAt
        rw [List.getElem?_map, List.getElem?_eq_getElem (by omega)]
        rfl
      have HLM := Lib.hid (show ((d.ms.take j).map (cutM I)).length = j from by rw [List.length_map, List.length_take]; omega)
      have HX := Lib.hid hx
      have HP := Lib.hid hp
      rw [hp]
      have j1 : (j : Int) < (d.ms.length : Int) := by omega
      have cl := cid x.l hl0 hl1
      have cr := cid x.r hr0 hr1
      have ci := cid x.i (by omega) hi1
      have hL0 : x.l < (N : Int) := by have := HN.out; omega
      have hR0 : x.r < (N : Int) := by have := HN.out; omega
      have hI00 : x.i < (N : Int) := by have := HN.out; omega
      have hI01 : 0 ≤ x.i := by omega
      have hXX : Ext (fun _ => False) wr (wr.alloc (.cells #[.int .i64 x.l, .int .i64 x.r, .int .i64 x.i] 35)) := (Ext.refl _ _).alloc _
      have hbl : ib < wr.heap.size := arr_lt hI0 rfl
      have hol := blk_lt ob0
      have S5 := Lib.hid (S3.out.on hXX)
      rw [← hXX.cell (p := ⟨ib, x.l.toNat, none⟩) hbl (fun h => h)] at cl
      rw [← hXX.cell (p := ⟨ib, x.r.toNat, none⟩) hbl (fun h => h)] at cr
      rw [← hXX.cell (p := ⟨ib, x.i.toNat, none⟩) hbl (fun h => h)] at ci
      clear hx hp cid hI0 hbl ob0 hXX
      go_wp2_with fail
      obtain ⟨n0, n1, n2⟩ := box3 wr 35 (.int .i64 x.l) (.int .i64 x.r) (.int .i64 x.i)
      have o5 := blk_cell S5.out.obj 1
      have o5f := blk_frozen S5.out.obj 1
      simp only [HLM.out] at o5
      simp at o5
      obtain ⟨W5, hW5⟩ : ∃ W5, wr.alloc (.cells #[.int .i64 x.l, .int .i64 x.r, .int .i64 x.i] 35) = W5 := ⟨_, rfl⟩
      have hol2 : ob < W5.heap.size := by rw [← hW5]; simp; omega
      rw [hW5] at S5 n0 n1 n2 cl cr ci o5 o5f ⊢
      obtain ⟨xb, hxb⟩ : ∃ xb, wr.heap.size = xb := ⟨_, rfl⟩
      rw [hxb] at n0 n1 n2 hol ⊢
      obtain ⟨rl, hrl⟩ : ∃ rl, renAt I x.l = rl := ⟨_, rfl⟩
      obtain ⟨rr, hrr⟩ : ∃ rr, renAt I x.r = rr := ⟨_, rfl⟩
      obtain ⟨ri, hri⟩ : ∃ ri, renAt I x.i = ri := ⟨_, rfl⟩
      rw [hrl] at cl
      rw [hrr] at cr
      rw [hri] at ci
      obtain ⟨M, hM⟩ : ∃ M, (d.ms.take j).map (cutM I) = M := ⟨_, rfl⟩
      rw [hM] at S5 S3 HLM
      have HM1 := Lib.hid (show (d.ms.take (j + 1)).map (cutM I) = M ++ [⟨rl, rr, ri⟩] from by
        rw [List.take_add_one, HX.out, List.map_append, hM]
        simp [cutM, hrl, hrr, hri])
      clear hM hrl hrr hri hxb hW5
      refine start_ (n := 22) (S := fun w' => w'.cell? ⟨xb, 0, none⟩ = some (.int .i64 x.l) ∧ w'.cell? ⟨xb, 1, none⟩ = some (.int .i64 x.r) ∧ w'.cell? ⟨xb, 2, none⟩ = some (.int .i64 x.i) ∧ w'.cell? ⟨ib, x.l.toNat, none⟩ = some (.int .i64 rl) ∧ w'.cell? ⟨ib, x.r.toNat, none⟩ = some (.int .i64 rr) ∧ w'.cell? ⟨ib, x.i.toNat, none⟩ = some (.int .i64 ri) ∧ w'.cell? ⟨ob, 1, none⟩ = some (.slice pm j cm)) (ds := [19, 20, 21]) (ls 22 0) (by kernel_rfl) rfl rfl ⟨n0, n1, n2, cl, cr, ci, o5⟩ (fun hHeld => ?_)
      have S6 := Lib.hid (S5.out.on ((Ext.refl (fun _ => False) W5).drew))
      clear n0 n1 n2 cl cr ci o5 o5f
      generalize W5.drew = W6 at S6 hHeld ⊢
      refine pure_ (i := 0) (N := some 52) (v := ?_) (a' := ?_) (ls 22 1) rfl rfl (by kernel_rfl) (fun _ _ _ h => h) (Or.inl ⟨by rfl, ?_⟩) ?_ ?_
      rotate_left
      · intro w'; go_simp; with_reducible rfl
      rotate_left
      · simp only [Act.put, List.setIfInBounds_toArray, List.set_cons_zero, List.set_cons_succ, i64_w, i32_w]; rfl
      refine pure_ (i := 2) (N := some 54) (v := ?_) (a' := ?_) (ls 22 5) rfl rfl (by kernel_rfl) (fun _ _ _ h => h) (Or.inl ⟨by rfl, ?_⟩) ?_ ?_
      rotate_left
      · intro w'; go_simp; with_reducible rfl
      rotate_left
      · simp only [Act.put, List.setIfInBounds_toArray, List.set_cons_zero, List.set_cons_succ, i64_w, i32_w]; rfl
      refine pure_ (i := 3) (N := some 55) (v := ?_) (a' := ?_) (ls 22 13) rfl rfl (by kernel_rfl) (fun _ _ _ h => h) (Or.inl ⟨by rfl, ?_⟩) ?_ ?_
      rotate_left
      · intro w'; go_simp; with_reducible rfl
      rotate_left
      · simp only [Act.put, List.setIfInBounds_toArray, List.set_cons_zero, List.set_cons_succ, i64_w, i32_w]; rfl
      refine pure_ (i := 7) (N := some 59) (v := ?_) (a' := ?_) (ls 22 141) rfl rfl (by kernel_rfl) (fun _ _ _ h => h) (Or.inl ⟨by rfl, ?_⟩) ?_ ?_
      rotate_left
      · intro w'; go_simp; with_reducible rfl
      rotate_left
      · simp only [Act.put, List.setIfInBounds_toArray, List.set_cons_zero, List.set_cons_succ, i64_w, i32_w]; rfl
      refine pure_ (i := 8) (N := some 60) (v := ?_) (a' := ?_) (ls 22 397) rfl rfl (by kernel_rfl) (fun _ _ _ h => h) (Or.inl ⟨by rfl, ?_⟩) ?_ ?_
      rotate_left
      · intro w'; go_simp; with_reducible rfl
      rotate_left
      · simp only [Act.put, List.setIfInBounds_toArray, List.set_cons_zero, List.set_cons_succ, i64_w, i32_w]; rfl
      refine pure_ (i := 12) (N := some 64) (v := ?_) (a' := ?_) (ls 22 4493) rfl rfl (by kernel_rfl) (fun _ _ _ h => h) (Or.inl ⟨by rfl, ?_⟩) ?_ ?_
      rotate_left
      · intro w'; go_simp; with_reducible rfl
      rotate_left
      · simp only [Act.put, List.setIfInBounds_toArray, List.set_cons_zero, List.set_cons_succ, i64_w, i32_w]; rfl
      refine pure_ (i := 13) (N := some 65) (v := ?_) (a' := ?_) (ls 22 12685) rfl rfl (by kernel_rfl) (fun _ _ _ h => h) (Or.inl ⟨by rfl, ?_⟩) ?_ ?_
      rotate_left
      · intro w'; go_simp; with_reducible rfl
      rotate_left
      · simp only [Act.put, List.setIfInBounds_toArray, List.set_cons_zero, List.set_cons_succ, i64_w, i32_w]; rfl
      refine take_ (i := 1) (N := some 53) (v := ?_) (a' := ?_) (ls 22 12687) rfl rfl (by kernel_rfl) (fun _ _ _ h => h) (Or.inl ⟨by rfl, ?_⟩) hHeld ?_ ?_
      rotate_left
      · rintro w' ⟨s0, s1, s2, s3, s4, s5, s6⟩; go_simp; with_reducible rfl
      rotate_left
      · simp only [Act.put, List.setIfInBounds_toArray, List.set_cons_zero, List.set_cons_succ, i64_w, i32_w]; rfl
      refine take_ (i := 4) (N := some 56) (v := ?_) (a' := ?_) (ls 22 12703) rfl rfl (by kernel_rfl) (fun _ _ _ h => h) (Or.inl ⟨by rfl, ?_⟩) hHeld ?_ ?_
      rotate_left
      · rintro w' ⟨s0, s1, s2, s3, s4, s5, s6⟩; go_simp; with_reducible rfl
      rotate_left
      · simp only [Act.put, List.setIfInBounds_toArray, List.set_cons_zero, List.set_cons_succ, i64_w, i32_w]; rfl
      refine pure_ (i := 5) (N := some 57) (v := ?_) (a' := ?_) (ls 22 12735) rfl rfl (by kernel_rfl) (fun _ _ _ h => h) (Or.inl ⟨by rfl, ?_⟩) ?_ ?_
      rotate_left
      · intro w'; go_simp; with_reducible rfl
      rotate_left
      · simp only [Act.put, List.setIfInBounds_toArray, List.set_cons_zero, List.set_cons_succ, i64_w, i32_w]; rfl
      refine take_ (i := 6) (N := some 58) (v := ?_) (a' := ?_) (ls 22 12799) rfl rfl (by kernel_rfl) (fun _ _ _ h => h) (Or.inl ⟨by rfl, ?_⟩) hHeld ?_ ?_
      rotate_left
      · rintro w' ⟨s0, s1, s2, s3, s4, s5, s6⟩; go_simp; with_reducible rfl
      rotate_left
      · simp only [Act.put, List.setIfInBounds_toArray, List.set_cons_zero, List.set_cons_succ, i64_w, i32_w]; rfl
      refine take_ (i := 9) (N := some 61) (v := ?_) (a' := ?_) (ls 22 13311) rfl rfl (by kernel_rfl) (fun _ _ _ h => h) (Or.inl ⟨by rfl, ?_⟩) hHeld ?_ ?_
      rotate_left
      · rintro w' ⟨s0, s1, s2, s3, s4, s5, s6⟩; go_simp; with_reducible rfl
      rotate_left
      · simp only [Act.put, List.setIfInBounds_toArray, List.set_cons_zero, List.set_cons_succ, i64_w, i32_w]; rfl
      refine pure_ (i := 10) (N := some 62) (v := ?_) (a' := ?_) (ls 22 14335) rfl rfl (by kernel_rfl) (fun _ _ _ h => h) (Or.inl ⟨by rfl, ?_⟩) ?_ ?_
      rotate_left
      · intro w'; go_simp; with_reducible rfl
      rotate_left
      · simp only [Act.put, List.setIfInBounds_toArray, List.set_cons_zero, List.set_cons_succ, i64_w, i32_w]; rfl
      refine take_ (i := 11) (N := some 63) (v := ?_) (a' := ?_) (ls 22 16383) rfl rfl (by kernel_rfl) (fun _ _ _ h => h) (Or.inl ⟨by rfl, ?_⟩) hHeld ?_ ?_
      rotate_left
      · rintro w' ⟨s0, s1, s2, s3, s4, s5, s6⟩; go_simp; with_reducible rfl
      rotate_left
      · simp only [Act.put, List.setIfInBounds_toArray, List.set_cons_zero, List.set_cons_succ, i64_w, i32_w]; rfl
      refine take_ (i := 14) (N := some 66) (v := ?_) (a' := ?_) (ls 22 32767) rfl rfl (by kernel_rfl) (fun _ _ _ h => h) (Or.inl ⟨by rfl, ?_⟩) hHeld ?_ ?_
      rotate_left
      · rintro w' ⟨s0, s1, s2, s3, s4, s5, s6⟩; go_simp; with_reducible rfl
      rotate_left
      · simp only [Act.put, List.setIfInBounds_toArray, List.set_cons_zero, List.set_cons_succ, i64_w, i32_w]; rfl
      refine pure_ (i := 15) (N := some 67) (v := ?_) (a' := ?_) (ls 22 65535) rfl rfl (by kernel_rfl) (fun _ _ _ h => h) (Or.inl ⟨by rfl, ?_⟩) ?_ ?_
      rotate_left
      · intro w'; go_simp; with_reducible rfl
      rotate_left
      · simp only [Act.put, List.setIfInBounds_toArray, List.set_cons_zero, List.set_cons_succ, i64_w, i32_w]; rfl
      refine take_ (i := 16) (N := some 68) (v := ?_) (a' := ?_) (ls 22 131071) rfl rfl (by kernel_rfl) (fun _ _ _ h => h) (Or.inl ⟨by rfl, ?_⟩) hHeld ?_ ?_
      rotate_left
      · rintro w' ⟨s0, s1, s2, s3, s4, s5, s6⟩; go_simp; with_reducible rfl
      rotate_left
      · simp only [Act.put, List.setIfInBounds_toArray, List.set_cons_zero, List.set_cons_succ, i64_w, i32_w]; rfl
      refine pure_ (i := 17) (N := some 69) (v := ?_) (a' := ?_) (ls 22 262143) rfl rfl (by kernel_rfl) (fun _ _ _ h => h) (Or.inl ⟨by rfl, ?_⟩) ?_ ?_
      rotate_left
      · intro w'; go_simp; with_reducible rfl
      rotate_left
      · simp only [Act.put, List.setIfInBounds_toArray, List.set_cons_zero, List.set_cons_succ, i64_w, i32_w]; rfl
      refine one_ (i := 18) (N := some 70) (ls 22 524287) rfl rfl (by kernel_rfl) (by decide) (fun K hK => ?_)
      refine value_ (w1 := ?_) (v := ?_) (by rfl) rfl ?_ ?_
      rotate_left 2
      · go_simp
        constructor
        · rfl
        · rfl
      refine hK.out _ _ (by obtain ⟨s0, s1, s2, s3, s4, s5, s6⟩ := hHeld; exact ⟨cell_alloc s0, cell_alloc s1, cell_alloc s2, cell_alloc s3, cell_alloc s4, cell_alloc s5, cell_alloc s6⟩) (fun hHeld => ?_)
      clear hK K
      refine norm_ (a' := ?_) ?_ ?_
      rotate_left
      · simp only [Act.put, List.setIfInBounds_toArray, List.set_cons_zero, List.set_cons_succ, i64_w, i32_w]; rfl
      refine last_ (i := 19) (N := some 71) (ls 22 1048575) rfl rfl (by kernel_rfl) (by decide) (fun K hK => ?_)
      have S7 := Lib.hid (S6.out.on ((Ext.refl (fun _ => False) W6).alloc (.cells #[.int .i64 rl, .int .i64 rr, .int .i64 ri] 35)))
      refine arr_append_step (by rfl) (.tmp 53) (.tmp 70) 23 35 3 24 (.agg #[.int .i64 0, .int .i64 0, .int .i64 0]) rfl Try.underlying23 infoM rfl (by decide) (by decide) pm j cm (flat eM M) rfl (some ⟨W6.heap.size, 0, none⟩) 1 1 rfl [.int .i64 rl, .int .i64 rr, .int .i64 ri] rfl (fun ad h => by injection h with h; subst h; exact World.news_of_block (heap_alloc_new W6 _)) (fun h => by cases h) (by simp [Value.oneCell']) (HLM.out ▸ S7.out.mgs) (by omega) ?_
      intro p1 c1 w7 hA1 hx1 hm1
      have NY := Lib.hid (S7.out.addMerge (x := ⟨rl, rr, ri⟩) (by rw [HLM.out]; exact hA1) hx1 hm1)
      have ob7 := hx1.obj S7.out.obj (fun e => by have := S7.out.f1 _ e; omega)
      have r1 := blk_cell ob7 1
      have r1f := blk_frozen ob7 1
      simp at r1
      clear hA1 hx1 hm1 ob7
      refine hK.out _ _ ?_
      clear hK K
      refine norm_ (a' := ?_) ?_ ?_
      rotate_left
      · simp only [Act.put, List.setIfInBounds_toArray, List.set_cons_zero, List.set_cons_succ, i64_w, i32_w]; rfl
      refine pure_ (i := 20) (N := some 72) (v := ?_) (a' := ?_) (ls 22 2097151) rfl rfl (by kernel_rfl) (fun _ _ _ h => h) (Or.inl ⟨by rfl, ?_⟩) ?_ ?_
      rotate_left
      · intro w'; go_simp; with_reducible rfl
      rotate_left
      · simp only [Act.put, List.setIfInBounds_toArray, List.set_cons_zero, List.set_cons_succ, i64_w, i32_w]; rfl
      refine last_ (i := 21) (N := none) (ls 22 4194303) rfl rfl (by kernel_rfl) (by decide) (fun K hK => ?_)
      refine skip_ (w1 := ?_) (by rfl) rfl ?_ ?_
      rotate_left 1
      · go_simp; rfl
      refine hK.out _ _ ?_
      clear hK K
      refine done_ (by kernel_rfl) ?_
      go_wp2_with fail
      go_roundw
      case rel => exact ⟨j + 1, by go_num, by omega, p1, c1, by rw [HM1.out]; have := NY.out; rwa [HLM.out] at this⟩
      case measure => simp [intOf]; omega
    · obtain rfl : j = n := by omega
      have i1 : ¬ (j : Int) < (j : Int) := by omega
      have HLM := Lib.hid (show ((d.ms.take j).map (cutM I)).length = j from by rw [List.length_map, List.length_take]; omega)
      have DD := Lib.hid (S3.out.data T.out.rd D.out hn2 HI.out HWd.out rfl)
      have HC1 := Lib.hid (show (cutD d j).ws.length = Wd.length from by rw [cutD_ws, HWd.out])
      have HC2 := Lib.hid (show (cutD d j).ms.length = j from by rw [cutD_ms, List.length_map, List.length_take]; omega)
      have NW := new5_any wr _ (cutD d j) DD.out
      rw [HC1.out, HC2.out] at NW
      have NW := Lib.hid NW
      rw [HLM.out] at ob0
      have o0 := blk_cell ob0 0
      have o1 := blk_cell ob0 1
      have o2 := blk_cell ob0 2
      have o3 := blk_cell ob0 3
      have o4 := blk_cell ob0 4
      simp at o0 o1 o2 o3 o4
      clear ob0 o1f
      go_wp2_with fail
      refine NW.out.mono ?_
      rintro e W9 ⟨hx9, hres⟩
      rcases hres with ⟨hbad, _⟩ | ⟨_, a9, rfl, hm9, ha9⟩
      · exact absurd CK.out hbad
      have M9 := Lib.hid hm9
      have X9 := Lib.hid hx9
      have A9 := Lib.hid (arr_ext S3.out.ids hx9 (fun _ _ h => h))
      clear hm9 hx9 o0 o1 o2 o3 o4
      have hsz := X.out.size
      have hsz2 := S3.out.ext.size
      have FE := Lib.hid (show ∀ W', Ext (fun _ => False) W9 W' → PFirstEnd w d j (.returned (.tuple #[.pointer (some ⟨a9, 0, none⟩), .slice (some ⟨ib, 0, none⟩) N N, .int .i64 0])) W' from fun W' hx' => by
        refine ⟨a9, ib, by rw [HN.out], M9.out.on hx', ?_, X.out.trans (S3.out.ext.trans (X9.out.trans hx' (fun _ _ h => h)) (fun _ _ h => h)) (fun _ _ h => h), hib2, by omega⟩
        have := arr_ext A9.out hx' (fun _ _ h => h)
        rw [HI.out, HN.out]
        exact this)
      go_wp2_with fail
      go_ret3
      rw [HKN.out]
      exact FE.out _ ((Ext.refl _ _).alloc _)
end Go.Proofs.Ytbepmbihonnkaaa.Sl
