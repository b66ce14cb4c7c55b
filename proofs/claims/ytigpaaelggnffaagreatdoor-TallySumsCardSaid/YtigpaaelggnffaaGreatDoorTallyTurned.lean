/- law23.TallyTurned. -/
import Derived.Test.YtigpaaelggnffaaGreatDoorTallyFew
namespace Go.Proofs.YtigpaaelggnffaaGreatDoor.Ty
open Go.Sort Go.RowKit Go.Proofs.YtigpaaelggnffaaGreatDoor.Lib Go.Proofs.YtigpaaelggnffaaGreatDoor.Sl Go.Proofs.YtigpaaelggnffaaGreatDoor.Bpe Go.Proofs.YtigpaaelggnffaaGreatDoor.Cut Go.Proofs.YtigpaaelggnffaaGreatDoorW.PrintLast
set_option linter.unusedVariables false
set_option linter.unusedSimpArgs false

theorem idsAll_append (d : Dat) (most : Int) (l m : List ByteArray) : idsAll d most (l ++ m) = idsAll d most l ++ idsAll d most m := by unfold idsAll; rw [List.flatMap_append]
theorem count_turn (d : Dat) (most : Int) (l : List ByteArray) (k : Nat) : countR (idsAll d most (l.drop k ++ l.take k)) = countR (idsAll d most l) := by
  refine countR_eq fun x => ?_
  have e := congrArg (idsAll d most) (List.take_append_drop k l)
  rw [idsAll_append] at e
  rw [idsAll_append, List.count_append, ← e, List.count_append, Nat.add_comm]
theorem rd_dropS {w : World} {b o : Nat} {l : List ByteArray} (h : Rd eS w (some ⟨b, o, none⟩) l) (k : Nat) : Rd eS w (some ⟨b, o + k, none⟩) (l.drop k) := fun i x hi => by
  rw [List.getElem?_drop] at hi
  obtain ⟨b', o', hp, hb, hc⟩ := h (k + i) x hi
  injection hp with hp
  injection hp with h1 h2
  subst h1 h2
  refine ⟨b, o + k, rfl, hb, fun j hj => ?_⟩
  have := hc j hj
  simp only [eS, Nat.mul_one] at this ⊢
  rw [show o + k + i + j = o + (k + i) + j by omega]
  exact this
def dbl (r : TRow) : TRow := ⟨r.id, 2 * r.n⟩
theorem count_dbl (ids : List Int) : countR (ids ++ ids) = (countR ids).map dbl := by
  unfold countR
  refine (ordR_is ?_ ?_).symm
  · have h : Counts (ids ++ ids) ((rowsOf ids).map dbl) := by
      have c := rowsOf_counts ids
      refine ⟨?_, fun r hr => ?_, fun x => ?_⟩
      · rw [List.map_map]; exact c.nodup
      · obtain ⟨q, hq, rfl⟩ := List.mem_map.1 hr
        have := c.count q hq
        rw [List.count_append]
        simp only [dbl]
        omega
      · rw [List.map_map]
        have := c.mem x
        simp only [List.mem_append, or_self]
        exact this
    exact ((ordR_perm (rowsOf ids)).map dbl).trans (h.perm (rowsOf_counts _) fun _ => rfl)
  · rw [List.pairwise_map]
    refine (ordR_sorted (rowsOf ids)).imp fun {a b} h => ?_
    rw [ltR_false] at h ⊢
    simp only [dbl]
    omega
set_option maxRecDepth 100000 in
set_option maxHeartbeats 16000000 in
theorem turned_any (w : World) (hT : Tabs w) (L0 : Pl) (d : Dat) (h : DR w L0 d) (mo : Int) (hmo : (Lit.int .i64 mo).wf = true) (tu : Int) (htu : (Lit.int .i64 tu).wf = true) (pt : Option Addr) (ct : Nat) (l : List ByteArray) (hl : Rd eS w pt l) (hlc : l.length ≤ ct) (hlb : l.length * 16 ≤ 140737488351232) (hls : ∀ z ∈ l, z.size ≤ 140737488351232) :
    Calls Tryz.prog 4 #[.agg #[.slice L0.p0 d.ws.length L0.c0, .slice L0.p1 d.ms.length L0.c1, .slice L0.p2 d.ls.length L0.c2, .slice L0.p3 d.ns.length L0.c3, .slice L0.p4 d.ss.length L0.c4], .int .i64 mo, .int .i64 tu, .slice pt l.length ct] w fun e w' => e = .returned (.bool true) ∧ Ext (fun _ => False) w w' := by
  have hb : (w.alloc (.cells (dataCells L0 d) 26)).heap[w.heap.size]? = _ := heap_alloc_new w _
  have X0 := Lib.hid ((Ext.refl (fun _ => False) w).alloc (.cells (dataCells L0 d) 26))
  have C := Lib.hid (of5_any _ L0 d (h.on X0.out))
  have HT := Lib.hid (hT.on X0.out)
  have HL := Lib.hid (hl.on X0.out)
  have HTU := Lib.hid (Wi.inI_wf htu)
  have HMO := Lib.hid (Wi.inI_wf hmo)
  clear hb h hT hmo htu hl hls
  go_enter Tryz.func4, Tryz.ntmps4
  go_wp2_with fail
  refine C.out.mono ?_
  rintro e W ⟨hx, h⟩
  have X := Lib.hid (X0.out.trans hx (fun _ _ h => h))
  have T := Lib.hid (HT.out.on hx)
  have LT := Lib.hid (HL.out.on hx)
  clear hx C
  rcases h with ⟨hg, rfl⟩ | ⟨hg, a, rfl, hm, hwa⟩
  · have K := Lib.hid (known_any W T.out)
    clear hg
    go_wp2_with fail
    refine K.out.mono ?_
    rintro e W2 ⟨rfl, hx2⟩
    have X2 := Lib.hid (X.out.trans hx2 (fun _ _ h => h))
    clear hx2
    go_wp2_with fail
    go_ret
    exact ⟨rfl, X2.out⟩
  · have D := Lib.hid (RightD.of_good hg)
    have M := Lib.hid (IsCut.of_good hm hg)
    clear hg hm
    go_wp2_with fail
    refine (Wi.within_any W mo 1 50 HMO.out (by omega) (by omega) (by omega)).mono ?_
    rintro e W' ⟨r, rfl, hr0, hr1, rfl⟩
    go_wp2_with fail
    refine (few_any W pt ct l LT.out (by omega) 200 (by decide)).mono ?_
    rintro e W1 ⟨p, c, rfl, hA1, hx1, hf1, hz1⟩
    have hL8 := fewL_length l 200
    have hLS := fewL_sum l 200
    obtain ⟨L, hL⟩ : ∃ L, fewL l 200 = L := ⟨_, rfl⟩
    rw [hL] at hA1 hL8 hLS hz1
    have HZ1 := Lib.hid hz1
    rw [hL]
    have X1 := Lib.hid (X.out.trans hx1 (fun _ _ h => h))
    have T1 := Lib.hid (T.out.on hx1)
    have M1 := Lib.hid (M.out.on hx1)
    have A1 := Lib.hid hA1
    clear hA1 hx1 hf1 hL hz1
    go_upto_if 39 with fail
    go_cut [12] (fun v wc => W1 = wc ∧ ∃ k : Nat, v = .int .i64 k ∧ (k < L.length ∨ k = 0 ∧ L.length = 0))
    case first =>
      by_cases hz : L.length = 0
      · have i1 : ¬ (L.length : Int) > 0 := by omega
        have HZ := Lib.hid hz
        clear hz
        go_wp2_with fail
        go_meet
        exact ⟨rfl, 0, rfl, .inr ⟨rfl, HZ.out⟩⟩
      · have i1 : (L.length : Int) > 0 := by omega
        obtain ⟨n1, hn1⟩ : ∃ n1, L.length = n1 + 1 := ⟨L.length - 1, by omega⟩
        have e1 : (L.length : Int) - 1 = (n1 : Int) := by omega
        have HN1 := Lib.hid hn1
        clear hn1 hz
        have WC := Lib.hid (Wi.within0_any W1 tu (n1 : Int) HTU.out (by omega) (by omega))
        go_wp2_with fail
        refine WC.out.mono ?_
        rintro e W' ⟨v, rfl, hv0, hv1, rfl⟩
        go_wp2_with fail
        go_meet
        exact ⟨rfl, v.toNat, by rw [Int.toNat_of_nonneg hv0], .inl (by have := HN1.out; omega)⟩
    case rest =>
      obtain ⟨rfl, k, rfl, hk⟩ := hcut
      go_upto_region 9 with (fail)
      go_cut [13] (fun v wc => ∃ (p2 : Option Addr) (c2 : Nat), v = .slice p2 L.length c2 ∧ Arr wc 9 1 p2 L.length c2 (flat eS (L.drop k ++ L.take k)) ∧ Ext (fun _ => False) W1 wc)
      case first =>
        by_cases hz : L.length = 0
        · have hk0 : k = 0 := by omega
          subst hk0
          have HZ := Lib.hid hz
          have hLn : L = [] := List.length_eq_zero_iff.1 hz
          obtain ⟨rfl, rfl⟩ := HZ1.out hz
          subst hLn
          clear hz HZ hk
          refine start_ (n := 10) (S := fun w' => True) (ds := [4, 8]) (ls 10 0) (by kernel_rfl) rfl rfl trivial (fun hHeld => ?_)
          refine pure_ (i := 1) (N := some 46) (v := ?_) (a' := ?_) (ls 10 2) rfl rfl (by kernel_rfl) (fun _ _ _ h => h) (Or.inl ⟨by rfl, ?_⟩) ?_ ?_
          rotate_left
          · intro w'; go_simp; with_reducible rfl
          rotate_left
          · simp only [Act.put, List.setIfInBounds_toArray, List.set_cons_zero, List.set_cons_succ, i64_w, i32_w]; rfl
          refine pure_ (i := 2) (N := some 47) (v := ?_) (a' := ?_) (ls 10 6) rfl rfl (by kernel_rfl) (fun _ _ _ h => h) (Or.inl ⟨by rfl, ?_⟩) ?_ ?_
          rotate_left
          · intro w'; go_simp; with_reducible rfl
          rotate_left
          · simp only [Act.put, List.setIfInBounds_toArray, List.set_cons_zero, List.set_cons_succ, i64_w, i32_w]; rfl
          refine pure_ (i := 3) (N := some 48) (v := ?_) (a' := ?_) (ls 10 14) rfl rfl (by kernel_rfl) (fun _ _ _ h => h) (Or.inl ⟨by rfl, ?_⟩) ?_ ?_
          rotate_left
          · intro w'; go_simp; with_reducible rfl
          rotate_left
          · simp only [Act.put, List.setIfInBounds_toArray, List.set_cons_zero, List.set_cons_succ, i64_w, i32_w]; rfl
          refine pure_ (i := 5) (N := some 50) (v := ?_) (a' := ?_) (ls 10 46) rfl rfl (by kernel_rfl) (fun _ _ _ h => h) (Or.inl ⟨by rfl, ?_⟩) ?_ ?_
          rotate_left
          · intro w'; go_simp; with_reducible rfl
          rotate_left
          · simp only [Act.put, List.setIfInBounds_toArray, List.set_cons_zero, List.set_cons_succ, i64_w, i32_w]; rfl
          refine pure_ (i := 6) (N := some 51) (v := ?_) (a' := ?_) (ls 10 110) rfl rfl (by kernel_rfl) (fun _ _ _ h => h) (Or.inl ⟨by rfl, ?_⟩) ?_ ?_
          rotate_left
          · intro w'; go_simp; with_reducible rfl
          rotate_left
          · simp only [Act.put, List.setIfInBounds_toArray, List.set_cons_zero, List.set_cons_succ, i64_w, i32_w]; rfl
          refine pure_ (i := 7) (N := some 52) (v := ?_) (a' := ?_) (ls 10 238) rfl rfl (by kernel_rfl) (fun _ _ _ h => h) (Or.inl ⟨by rfl, ?_⟩) ?_ ?_
          rotate_left
          · intro w'; go_simp; with_reducible rfl
          rotate_left
          · simp only [Act.put, List.setIfInBounds_toArray, List.set_cons_zero, List.set_cons_succ, i64_w, i32_w]; rfl
          refine one_ (i := 0) (N := some 45) (ls 10 239) rfl rfl (by kernel_rfl) (by decide) (fun K hK => ?_)
          refine value_ (w1 := ?_) (v := ?_) (by rfl) rfl ?_ ?_
          rotate_left 2
          · go_simp
            constructor
            · rfl
            · rfl
          refine hK.out _ _ trivial (fun hHeld => ?_)
          clear hK K
          refine norm_ (a' := ?_) ?_ ?_
          rotate_left
          · simp only [Act.put, List.setIfInBounds_toArray, List.set_cons_zero, List.set_cons_succ, i64_w, i32_w]; rfl
          refine last_ (i := 4) (N := some 49) (ls 10 255) rfl rfl (by kernel_rfl) (by decide) (fun K hK => ?_)
          refine arr_append_stepN (N := some 49) rfl (by rfl) (.tmp 45) (.tmp 48) 22 9 1 16 (.string ⟨#[]⟩) rfl Tryz.underlying22 infoS rfl (by decide) (by decide) (some ⟨W1.heap.size, 0, none⟩) 0 0 [] rfl none 0 0 rfl [] rfl (fun ad h => by cases h) (fun _ => rfl) (fun _ h => by cases h) (by have := arr_empty W1 9 1; exact this) (by omega) ?_
          intro p1 c1 w1 hA1 hx1 hm1
          rw [List.nil_append] at hA1
          have B1 := Lib.hid (show ∀ j, blkOf p1 = some j → W1.heap.size ≤ j from fun j hj => by
            rcases hm1 j hj with h | h
            · simp [blkOf] at h; omega
            · simp at h; omega)
          have X1 := Lib.hid (((Ext.refl (fun _ => False) W1).alloc (.cells #[] 9)).drew.trans hx1 (fun j hj h => by simp [blkOf] at h; omega))
          have A1 := Lib.hid hA1
          clear hA1 hx1 hm1
          refine hK.out _ _ ?_
          clear hK K
          refine norm_ (a' := ?_) ?_ ?_
          rotate_left
          · simp only [Act.put, List.setIfInBounds_toArray, List.set_cons_zero, List.set_cons_succ, i64_w, i32_w]; rfl
          refine last_ (i := 8) (N := some 53) (ls 10 511) rfl rfl (by kernel_rfl) (by decide) (fun K hK => ?_)
          refine arr_append_stepN (N := some 53) rfl (by rfl) (.tmp 49) (.tmp 52) 22 9 1 16 (.string ⟨#[]⟩) rfl Tryz.underlying22 infoS rfl (by decide) (by decide) p1 0 c1 [] rfl none 0 0 rfl [] rfl (fun ad h => by cases h) (fun _ => rfl) (fun _ h => by cases h) A1.out (by omega) ?_
          intro p2 c2 w2 hA2 hx2 hm2
          have NX := Lib.hid (show Arr w2 9 1 p2 ([] : List ByteArray).length c2 (flat eS (([] : List ByteArray).drop 0 ++ ([] : List ByteArray).take 0)) ∧ Ext (fun _ => False) W1 w2 from ⟨by simpa [flat_nil] using hA2, X1.out.trans hx2 (fun j hj h => by have := B1.out j h; omega)⟩)
          clear hA2 hx2 hm2
          refine hK.out _ _ ?_
          clear hK K
          refine norm_ (a' := ?_) ?_ ?_
          rotate_left
          · simp only [Act.put, List.setIfInBounds_toArray, List.set_cons_zero, List.set_cons_succ, i64_w, i32_w]; rfl
          refine pure_ (i := 9) (N := some 13) (v := ?_) (a' := ?_) (ls 10 1023) rfl rfl (by kernel_rfl) (fun _ _ _ h => h) (Or.inl ⟨by rfl, ?_⟩) ?_ ?_
          rotate_left
          · intro w'; go_simp; with_reducible rfl
          rotate_left
          · simp only [Act.put, List.setIfInBounds_toArray, List.set_cons_zero, List.set_cons_succ, i64_w, i32_w]; rfl
          refine done_ (by kernel_rfl) ?_
          go_wp2_with fail
          go_meet
          exact ⟨p2, c2, rfl, NX.out.1, NX.out.2⟩
        · obtain ⟨g, rfl⟩ := arr_some A1.out (by omega)
          have hkl : k < L.length := by omega
          have hlc := (arr_cap A1.out).1
          have i1 : (k : Int) ≤ (c : Int) := by omega
          have hck : ¬ c = k := by omega
          have i2 : (0 : Int) ≤ (k : Int) := by omega
          have i3 : (k : Int) ≤ (L.length : Int) := by omega
          have SD := Lib.hid (show ∀ w', Ext (fun _ => False) W1 w' → ∀ ad, (some ⟨g, k, none⟩ : Option Addr) = some ad → ∀ j u, (flat eS (L.drop k))[j]? = some u → w'.cell? (ad.add j) = some u from fun w' hx ad had j u hu => (by have := rd_dropS (Rd.of_arr (arr_ext A1.out hx (fun _ _ h => h))) k; rw [Nat.zero_add] at this; exact this.src ad had j u hu))
          have ST := Lib.hid (show ∀ w', Ext (fun _ => False) W1 w' → ∀ ad, (some ⟨g, 0, none⟩ : Option Addr) = some ad → ∀ j u, (flat eS (L.take k))[j]? = some u → w'.cell? (ad.add j) = some u from fun w' hx ad had j u hu => ((Rd.of_arr (arr_ext A1.out hx (fun _ _ h => h))).take k).src ad had j u hu)
          refine start_ (n := 10) (S := fun w' => True) (ds := [4, 8]) (ls 10 0) (by kernel_rfl) rfl rfl trivial (fun hHeld => ?_)
          refine pure_ (i := 1) (N := some 46) (v := ?_) (a' := ?_) (ls 10 2) rfl rfl (by kernel_rfl) (fun _ _ _ h => h) (Or.inl ⟨by rfl, ?_⟩) ?_ ?_
          rotate_left
          · intro w'; go_simp; with_reducible rfl
          rotate_left
          · simp only [Act.put, List.setIfInBounds_toArray, List.set_cons_zero, List.set_cons_succ, i64_w, i32_w]; rfl
          refine pure_ (i := 2) (N := some 47) (v := ?_) (a' := ?_) (ls 10 6) rfl rfl (by kernel_rfl) (fun _ _ _ h => h) (Or.inl ⟨by rfl, ?_⟩) ?_ ?_
          rotate_left
          · intro w'; go_simp; with_reducible rfl
          rotate_left
          · simp only [Act.put, List.setIfInBounds_toArray, List.set_cons_zero, List.set_cons_succ, i64_w, i32_w]; rfl
          refine pure_ (i := 3) (N := some 48) (v := ?_) (a' := ?_) (ls 10 14) rfl rfl (by kernel_rfl) (fun _ _ _ h => h) (Or.inl ⟨by rfl, ?_⟩) ?_ ?_
          rotate_left
          · intro w'; go_simp; with_reducible rfl
          rotate_left
          · simp only [Act.put, List.setIfInBounds_toArray, List.set_cons_zero, List.set_cons_succ, i64_w, i32_w]; rfl
          refine pure_ (i := 5) (N := some 50) (v := ?_) (a' := ?_) (ls 10 46) rfl rfl (by kernel_rfl) (fun _ _ _ h => h) (Or.inl ⟨by rfl, ?_⟩) ?_ ?_
          rotate_left
          · intro w'; go_simp; with_reducible rfl
          rotate_left
          · simp only [Act.put, List.setIfInBounds_toArray, List.set_cons_zero, List.set_cons_succ, i64_w, i32_w]; rfl
          refine pure_ (i := 6) (N := some 51) (v := ?_) (a' := ?_) (ls 10 110) rfl rfl (by kernel_rfl) (fun _ _ _ h => h) (Or.inl ⟨by rfl, ?_⟩) ?_ ?_
          rotate_left
          · intro w'; go_simp; with_reducible rfl
          rotate_left
          · simp only [Act.put, List.setIfInBounds_toArray, List.set_cons_zero, List.set_cons_succ, i64_w, i32_w]; rfl
          refine pure_ (i := 7) (N := some 52) (v := ?_) (a' := ?_) (ls 10 238) rfl rfl (by kernel_rfl) (fun _ _ _ h => h) (Or.inl ⟨by rfl, ?_⟩) ?_ ?_
          rotate_left
          · intro w'; go_simp; with_reducible rfl
          rotate_left
          · simp only [Act.put, List.setIfInBounds_toArray, List.set_cons_zero, List.set_cons_succ, i64_w, i32_w]; rfl
          refine one_ (i := 0) (N := some 45) (ls 10 239) rfl rfl (by kernel_rfl) (by decide) (fun K hK => ?_)
          refine value_ (w1 := ?_) (v := ?_) (by rfl) rfl ?_ ?_
          rotate_left 2
          · go_simp
            constructor
            · rfl
            · rfl
          refine hK.out _ _ trivial (fun hHeld => ?_)
          clear hK K
          refine norm_ (a' := ?_) ?_ ?_
          rotate_left
          · simp only [Act.put, List.setIfInBounds_toArray, List.set_cons_zero, List.set_cons_succ, i64_w, i32_w]; rfl
          refine last_ (i := 4) (N := some 49) (ls 10 255) rfl rfl (by kernel_rfl) (by decide) (fun K hK => ?_)
          refine arr_append_stepN (N := some 49) rfl (by rfl) (.tmp 45) (.tmp 48) 22 9 1 16 (.string ⟨#[]⟩) rfl Tryz.underlying22 infoS rfl (by decide) (by decide) (some ⟨W1.heap.size, 0, none⟩) 0 0 [] rfl (some ⟨g, k, none⟩) (L.length - k) (c - k) rfl (flat eS (L.drop k)) (by rw [flat_length, List.length_drop]; rfl) (SD.out _ ((Ext.refl (fun _ => False) W1).alloc _).drew) (fun h => by cases h) (flat_cells eS _) (by have := arr_empty W1 9 1; exact this) (by omega) ?_
          intro p1 c1 w1 hA1 hx1 hm1
          rw [List.nil_append] at hA1
          rw [Nat.zero_add] at hA1 ⊢
          have B1 := Lib.hid (show ∀ j, blkOf p1 = some j → W1.heap.size ≤ j from fun j hj => by
            rcases hm1 j hj with h | h
            · simp [blkOf] at h; omega
            · simp at h; omega)
          have X1 := Lib.hid (((Ext.refl (fun _ => False) W1).alloc (.cells #[] 9)).drew.trans hx1 (fun j hj h => by simp [blkOf] at h; omega))
          have A1 := Lib.hid hA1
          clear hA1 hx1 hm1
          refine hK.out _ _ ?_
          clear hK K
          refine norm_ (a' := ?_) ?_ ?_
          rotate_left
          · simp only [Act.put, List.setIfInBounds_toArray, List.set_cons_zero, List.set_cons_succ, i64_w, i32_w]; rfl
          refine last_ (i := 8) (N := some 53) (ls 10 511) rfl rfl (by kernel_rfl) (by decide) (fun K hK => ?_)
          refine arr_append_stepN (N := some 53) rfl (by rfl) (.tmp 49) (.tmp 52) 22 9 1 16 (.string ⟨#[]⟩) rfl Tryz.underlying22 infoS rfl (by decide) (by decide) p1 (L.length - k) c1 (flat eS (L.drop k)) rfl (some ⟨g, 0, none⟩) k c rfl (flat eS (L.take k)) (by rw [flat_length, List.length_take, Nat.min_eq_left (by omega)]; rfl) (ST.out _ X1.out) (fun h => by cases h) (flat_cells eS _) A1.out (by omega) ?_
          intro p2 c2 w2 hA2 hx2 hm2
          rw [← flat_append, show L.length - k + k = L.length from by omega] at hA2
          have NX := Lib.hid (show Arr w2 9 1 p2 L.length c2 (flat eS (L.drop k ++ L.take k)) ∧ Ext (fun _ => False) W1 w2 from ⟨hA2, X1.out.trans hx2 (fun j hj h => by have := B1.out j h; omega)⟩)
          clear hA2 hx2 hm2
          rw [show L.length - k + k = L.length from by omega]
          refine hK.out _ _ ?_
          clear hK K
          refine norm_ (a' := ?_) ?_ ?_
          rotate_left
          · simp only [Act.put, List.setIfInBounds_toArray, List.set_cons_zero, List.set_cons_succ, i64_w, i32_w]; rfl
          refine pure_ (i := 9) (N := some 13) (v := ?_) (a' := ?_) (ls 10 1023) rfl rfl (by kernel_rfl) (fun _ _ _ h => h) (Or.inl ⟨by rfl, ?_⟩) ?_ ?_
          rotate_left
          · intro w'; go_simp; with_reducible rfl
          rotate_left
          · simp only [Act.put, List.setIfInBounds_toArray, List.set_cons_zero, List.set_cons_succ, i64_w, i32_w]; rfl
          refine done_ (by kernel_rfl) ?_
          go_wp2_with fail
          go_meet
          exact ⟨p2, c2, rfl, NX.out.1, NX.out.2⟩
      case rest =>
        obtain ⟨p2, c2, rfl, hA2, hx2⟩ := hcut
        have RL := Lib.hid (show ∀ w', Ext (fun _ => False) W1 w' → Rd eS w' p L from fun w' hx => Rd.of_arr (arr_ext A1.out hx (fun _ _ h => h)))
        have NP := Lib.hid (show p = none → L.length = 0 from fun h => by
          have := A1.out
          rw [h] at this
          exact (arr_none this).1)
        have A2 := Lib.hid hA2
        have X2 := Lib.hid hx2
        have hsz : ∀ x ∈ L, x.size ≤ 140737488351232 := fun x hx => by have := size_le_sum hx; omega
        have CA := Lib.hid (count_any (M1.out.on hx2) D.out (T1.out.on hx2) r hr0 (by omega) p c L (RL.out wc hx2) (by omega) (by omega))
        have hlen2 : (L.drop k ++ L.take k).length = L.length := by rw [List.length_append, List.length_drop, List.length_take]; omega
        have hsum2 : sumSz (L.drop k ++ L.take k) ≤ 1048576 := by
          have e := congrArg sumSz (List.take_append_drop k L)
          unfold sumSz at *
          rw [List.map_append, List.sum_append] at *
          omega
        have CB := Lib.hid (fun (W : World) (hx : Ext (fun _ => False) wc W) => by
          have := count_any ((M1.out.on hx2).on hx) D.out ((T1.out.on hx2).on hx) r hr0 (by omega) p2 c2 (L.drop k ++ L.take k) ((Rd.of_arr hA2).on hx) hsum2 (by rw [hlen2]; omega)
          rw [hlen2, count_turn] at this
          exact this)
        have hsum3 : sumSz (L ++ L) ≤ 1048576 := by
          unfold sumSz at *
          rw [List.map_append, List.sum_append]
          omega
        have CC := Lib.hid (fun (W : World) (hx : Ext (fun _ => False) wc W) (p3 : Option Addr) (c3 : Nat) (hr : Rd eS W p3 (L ++ L)) => by
          have := count_any ((M1.out.on hx2).on hx) D.out ((T1.out.on hx2).on hx) r hr0 (by omega) p3 c3 (L ++ L) hr hsum3 (by rw [List.length_append]; omega)
          rw [idsAll_append, count_dbl, List.length_append] at this
          exact this)
        have hRl : (countR (idsAll d r L)).length ≤ 1600 := by
          have h1 := rows_len (rowsOf_counts (idsAll d r L))
          have h2 := idsAll_len D.out r L (by omega)
          have h3 := ordR_length (rowsOf (idsAll d r L))
          unfold countR
          omega
        have hRb : ∀ x ∈ countR (idsAll d r L), 1 ≤ x.n ∧ x.n ≤ 1600 := fun x hx => by
          have h1 := rows_pos (rowsOf_counts (idsAll d r L)) x ((ordR_perm _).mem_iff.1 hx)
          have h2 := idsAll_len D.out r L (by omega)
          omega
        obtain ⟨R, hR⟩ : ∃ R, countR (idsAll d r L) = R := ⟨_, rfl⟩
        rw [hR] at hRl hRb
        rw [hR] at CA
        simp only [hR] at CB CC
        have RB := Lib.hid hRb
        clear hR hRb hA2 hx2 hsz hlen2 hsum2 hsum3
        go_wp2_with fail
        refine CA.out.mono ?_
        rintro e w3 ⟨pa, ca, rfl, hAa, hx3, _⟩
        have XA := Lib.hid hx3
        have RA := Lib.hid (Rd.of_arr hAa)
        clear hAa hx3 CA
        go_wp2_with fail
        refine (CB.out _ XA.out).mono ?_
        rintro e w4 ⟨pb, cb, rfl, hAb, hx4, _⟩
        have XB := Lib.hid (XA.out.trans hx4 (fun _ _ h => h))
        have RB2 := Lib.hid (Rd.of_arr hAb)
        have RA2 := Lib.hid (RA.out.on hx4)
        clear hAb hx4 CB
        go_upto_region 12 with (fail)
        go_wp2_with (at_builtin; (first
          | (refine arr_append rfl (.tmp 71) (.tmp 72) 22 9 1 16 (.string ⟨#[]⟩) rfl Tryz.underlying22 infoS rfl (by decide) (by decide) (some ⟨w4.heap.size, 0, none⟩) 0 0 [] rfl p L.length c rfl (flat eS L) (flat_length eS L) (RL.out _ ((X2.out.trans XB.out (fun _ _ h => h)).alloc _)).src NP.out (flat_cells eS L) (arr_empty w4 9 1) (by omega) ?_; intro p5 c5 w5 hA5 hx5 hm5;
              rw [List.nil_append] at hA5; rw [Nat.zero_add] at hA5 ⊢;
              have B5 := Lib.hid (show ∀ j, blkOf p5 = some j → w4.heap.size ≤ j from fun j hj => by rcases hm5 j hj with h | h <;> simp [blkOf] at h <;> omega);
              have X5 := Lib.hid (((Ext.refl (fun _ => False) w4).alloc (.cells #[] 9)).trans hx5 (fun j hj h => by simp [blkOf] at h; omega));
              have A5 := Lib.hid hA5; clear hA5 hx5 hm5)
          | (refine arr_append rfl (.tmp 73) (.tmp 74) 22 9 1 16 (.string ⟨#[]⟩) rfl Tryz.underlying22 infoS rfl (by decide) (by decide) p5 L.length c5 (flat eS L) rfl p L.length c rfl (flat eS L) (flat_length eS L) (RL.out _ ((X2.out.trans XB.out (fun _ _ h => h)).trans X5.out (fun _ _ h => h))).src NP.out (flat_cells eS L) A5.out (by omega) ?_; intro p6 c6 w6 hA6 hx6 hm6)))
        have X46 := Lib.hid (X5.out.trans hx6 (fun j hj h => by have := B5.out j h; omega))
        have X6 := Lib.hid (XB.out.trans X46.out (fun _ _ h => h))
        have CD := Lib.hid (CC.out w6 X6.out p6 c6 (Rd.of_arr (e := 9) (n := L.length + L.length) (c := c6) (by rw [flat_append]; exact hA6)))
        have RA6 := Lib.hid (RA2.out.on X46.out)
        have RB6 := Lib.hid (RB2.out.on X46.out)
        clear hA6 hx6 hm6 CC
        refine CD.out.mono ?_
        rintro e w7 ⟨pc, cc, rfl, hAc, hx7, _⟩
        have X7 := Lib.hid (X6.out.trans hx7 (fun _ _ h => h))
        have RA7 := Lib.hid (RA6.out.on hx7)
        have RC7 := Lib.hid (Rd.of_arr hAc)
        have SM := sameR_any w7 pa pb ca cb R R RA7.out (RB6.out.on hx7) (by omega)
        rw [decide_eq_true rfl] at SM
        have SM := Lib.hid SM
        have T7 := Lib.hid ((T1.out.on X2.out).on X7.out)
        have XX := Lib.hid (X1.out.trans (X2.out.trans X7.out (fun _ _ h => h)) (fun _ _ h => h))
        rw [List.length_map]
        have q0 : ((R.length : Int) != (R.length : Int)) = false := by simp
        clear hAc hx7 CD
        go_wp2_with fail
        refine SM.out.mono ?_
        rintro e w8 ⟨rfl, hx8⟩
        have RA8 := Lib.hid (RA7.out.on hx8)
        have RC8 := Lib.hid (RC7.out.on hx8)
        have T8 := Lib.hid (T7.out.on hx8)
        have X8 := Lib.hid (XX.out.trans hx8 (fun _ _ h => h))
        clear hx8 SM
        go_wp2_with fail
        go_loopw [20] (fun v wr => ∃ i : Nat, v = .int .i64 i ∧ i ≤ R.length ∧ Ext (fun _ => False) w8 wr) (fun v _ => R.length - (intOf v).toNat)
        case atStart => exact ⟨0, rfl, Nat.zero_le _, Ext.refl _ _⟩
        case round =>
          obtain ⟨i, rfl, hi, hx⟩ := hrel
          have EX := Lib.hid hx
          by_cases hlt : i < R.length
          · have i1 : (i : Int) < (R.length : Int) := by omega
            obtain ⟨x, hget⟩ : ∃ x, R[i]? = some x := ⟨_, List.getElem?_eq_getElem hlt⟩
            have hget2 : (R.map dbl)[i]? = some (dbl x) := by rw [List.getElem?_map, hget]; rfl
            obtain ⟨b1, o1, rfl, hb1, a0, a1⟩ := (RA8.out.on hx).cellR hget
            obtain ⟨b2, o2, rfl, hb2, d0, d1⟩ := (RC8.out.on hx).cellR hget2
            have hxn := RB.out x (List.mem_of_getElem? hget)
            obtain ⟨xi, xn⟩ := x
            simp only [dbl] at a0 a1 d0 d1 hxn
            obtain ⟨h1, h2⟩ := hxn
            have q1 : (xi != xi) = false := by simp
            have q2 : ((2 * xn) != (2 * xn)) = false := by simp
            clear hget hget2 hx
            go_wp2_with fail
            go_quiet (fail)
            go_wp2_with fail
            go_roundw
            case rel => exact ⟨i + 1, by go_num, hlt, EX.out.drewN _⟩
            case measure => simp [intOf]; omega
          · obtain rfl : i = R.length := by omega
            have i1 : ¬ ((R.length : Int) < (R.length : Int)) := by omega
            have K := Lib.hid (known_any wr (T8.out.on hx))
            clear hx
            go_wp2_with fail
            refine K.out.mono ?_
            rintro e w9 ⟨rfl, hx9⟩
            have X9 := Lib.hid (X8.out.trans (EX.out.trans hx9 (fun _ _ h => h)) (fun _ _ h => h))
            clear hx9
            go_wp2_with fail
            go_ret
            exact ⟨rfl, X9.out⟩
end Go.Proofs.YtigpaaelggnffaaGreatDoor.Ty
