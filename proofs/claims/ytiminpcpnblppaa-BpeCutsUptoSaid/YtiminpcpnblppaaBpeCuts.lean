/- law10.BpeCuts. -/
import Derived.Test.YtiminpcpnblppaaBpeEnds
import Derived.Test.YtiminpcpnblppaaWithin
import Derived.Test.YtiminpcpnblppaaLibG
namespace Go.Proofs.Ytiminpcpnblppaa.Bpe
open Go.RowKit Go.Proofs.Ytiminpcpnblppaa.Lib Go.Proofs.Ytiminpcpnblppaa.Sl Go.Proofs.Ytiminpcpnblppaa.Chain
set_option linter.unusedVariables false
set_option linter.unusedSimpArgs false

theorem bytesL_take (s : ByteArray) (n : Nat) : bytesL (s.extract 0 n) = (bytesL s).take n := by
  unfold bytesL
  rw [← List.map_take]
  congr 1
  simp
theorem bytesL_drop (s : ByteArray) (n : Nat) : bytesL (s.extract n s.size) = (bytesL s).drop n := by
  unfold bytesL
  rw [← List.map_drop]
  congr 1
  simp
  apply List.take_of_length_le
  rw [List.length_drop, ba_size]
  exact Nat.le_refl _
theorem cat_bytesL_take (d : Dat) (s : ByteArray) (n : Nat) (hn : n ≤ s.size) : (cat d ((bytesL s).take n)).length = n := by
  rw [← bytesL_take, cat_bytes, ba_size, ByteArray.size_extract]
  omega
theorem cuts_pure {d : Dat} (hd : RightD d) (t : ByteArray) {l : List Int} (hl : (joinT d.ms (bytesL t)).1 = l) (k : Nat) (hk : k ≤ l.length) :
    (cat d (l.take k)).length ≤ t.size ∧ (joinT d.ms (bytesL (t.extract 0 (cat d (l.take k)).length))).1 ++ (joinT d.ms (bytesL (t.extract (cat d (l.take k)).length t.size))).1 = l := by
  have h1 : cat d l = t.data.toList := by rw [← hl, join_cat hd, cat_bytes]
  have h2 : (cat d (l.take k)).length ≤ t.size := by
    rw [← ba_size, ← h1]
    have := cat_append d (l.take k) (l.drop k)
    rw [List.take_append_drop] at this
    rw [this, List.length_append]
    omega
  refine ⟨h2, ?_⟩
  rw [bytesL_take, bytesL_drop, ← cut_join hd (bytesL t) _ _ (List.take_append_drop _ _).symm (bytes_ok d) ?_, hl]
  rw [cat_bytesL_take d t _ h2, hl]
  exact ⟨l.take k, l.drop k, (List.take_append_drop _ _).symm, rfl⟩
theorem mergeB_ok {w : World} {m : Nat} {d : Dat} (hm : IsModel w m d) (hd : RightD d) (s : ByteArray) (hs : s.size ≤ 1048576) :
    Calls Try.prog 19 #[.pointer (some ⟨m, 0, none⟩), .string s] w fun e w' => JoinedEnd w (joinT d.ms (bytesL s)).1 0 e w' := by
  have := mergeB_any hm hd s
  have e : mergeT d s = ((joinT d.ms (bytesL s)).1, 0) := if_neg (by omega)
  rwa [e] at this
/-- A sum that grows by a word's bytes. -/
structure SumSt (d : Dat) (l : List Int) (k n : Nat) : Prop where
  kl : k ≤ l.length
  eq : (cat d (l.take k)).length = n
theorem SumSt.step {d : Dat} {l : List Int} {k n : Nat} (h : SumSt d l k n) {x : Int} (hx : l[k]? = some x) : SumSt d l (k + 1) (n + (wordOf d.ws x).1.size) := by
  refine ⟨(List.getElem?_eq_some_iff.1 hx).1, ?_⟩
  rw [List.take_add_one, hx, cat_append, List.length_append, h.eq, ← ba_size]
  show _ + (wb d x ++ []).length = _
  rw [List.append_nil]
  rfl
theorem SumSt.le {d : Dat} {l : List Int} {k n : Nat} (h : SumSt d l k n) : n ≤ (cat d l).length := by
  rw [← h.eq]
  have := cat_append d (l.take k) (l.drop k)
  rw [List.take_append_drop] at this
  rw [this, List.length_append]
  omega
set_option maxRecDepth 100000 in
set_option maxHeartbeats 16000000 in
theorem bpecuts_any (w : World) (L : Pl) (d : Dat) (h : DR w L d) (s : ByteArray) (hs0 : s.size ≤ 140737488351232) (at_ : Int) (hat : (Lit.int .i64 at_).wf = true) :
    Calls Try.prog 5 #[.agg #[.slice L.p0 d.ws.length L.c0, .slice L.p1 d.ms.length L.c1, .slice L.p2 d.ls.length L.c2, .slice L.p3 d.ns.length L.c3, .slice L.p4 d.ss.length L.c4], .string s, .int .i64 at_] w fun e w' => e = .returned (.bool true) ∧ Ext (fun _ => False) w w' := by
  have hb : (w.alloc (.cells (dataCells L d) 26)).heap[w.heap.size]? = _ := heap_alloc_new w _
  have X0 := Lib.hid ((Ext.refl (fun _ => False) w).alloc (.cells (dataCells L d) 26))
  have C := Lib.hid (of5_any _ L d (h.on X0.out))
  have R := Lib.hid h
  have AT := Lib.hid (Wi.inI_wf hat)
  clear hb h hat
  go_enter Try.func5, Try.ntmps5
  go_wp2_with fail
  refine C.out.mono ?_
  rintro e W ⟨hx, h⟩
  have X := Lib.hid (X0.out.trans hx (fun _ _ h => h))
  clear hx C
  rcases h with ⟨hg, rfl⟩ | ⟨hg, a, rfl, hm, hwa⟩
  · have K := Lib.hid (known10_any W)
    clear hg
    go_wp2_with fail
    refine K.out.mono ?_
    rintro e W2 ⟨rfl, hx2⟩
    have X2 := Lib.hid (X.out.trans hx2 (fun _ _ h => h))
    clear hx2
    go_wp2_with fail
    go_ret
    exact ⟨rfl, X2.out⟩
  · have D := Lib.hid (RightD.of_good hg)
    have M := Lib.hid hm
    clear hg hm
    go_wp2_with fail
    refine (few_any W s 200 (by decide)).mono ?_
    rintro e W' ⟨rfl, rfl⟩
    have MF := Lib.hid (merge_few M.out D.out s 200 (by decide))
    have FZ0 := fewB_size s 200
    obtain ⟨t, ht⟩ : ∃ t, fewB s 200 = t := ⟨_, rfl⟩
    rw [ht] at MF FZ0 ⊢
    clear ht hs0
    have CT := Lib.hid (show cat d (joinT d.ms (bytesL t)).1 = t.data.toList from by rw [join_cat D.out, cat_bytes])
    have OK := Lib.hid (join_ok D.out (bytesL t) (bytes_ok d))
    have LE0 : (joinT d.ms (bytesL t)).1.length ≤ 200 := by have := join_le d.ms (bytesL t); rw [bytesL_length] at this; omega
    obtain ⟨l, hl⟩ : ∃ l, (joinT d.ms (bytesL t)).1 = l := ⟨_, rfl⟩
    have CP := Lib.hid (fun k hk => cuts_pure D.out t hl k hk)
    rw [hl] at MF CT OK LE0
    clear hl
    go_wp2_with fail
    refine MF.out.mono ?_
    rintro e W1 ⟨p, c, rfl, hA, hx1, _⟩
    have X1 := Lib.hid (X.out.trans hx1 (fun _ _ h => h))
    have M1 := Lib.hid (M.out.on hx1)
    have Q := Lib.hid (ints_rd hA)
    clear hA hx1 MF M
    by_cases hz : l.length = 0
    · have d0 : ((l.length : Int) == 0) = true := beq_iff_eq.2 (by omega)
      have K := Lib.hid (known10_any W1)
      clear hz
      go_wp2_with fail
      refine K.out.mono ?_
      rintro e W2 ⟨rfl, hx2⟩
      have X2 := Lib.hid (X1.out.trans hx2 (fun _ _ h => h))
      clear hx2
      go_wp2_with fail
      go_ret
      exact ⟨rfl, X2.out⟩
    · have d0 : ((l.length : Int) == 0) = false := beq_eq_false_iff_ne.2 (by omega)
      have hw : IntKind.i64.wrap ((l.length : Int) - 1) = (l.length : Int) - 1 := IntWalk.i64_in _ (by omega)
      go_wp2_with fail
      refine (Wi.within0_any W1 at_ ((l.length : Int) - 1) AT.out (by omega) (by omega)).mono ?_
      rintro e W' ⟨r, rfl, hr0, hr1, rfl⟩
      obtain ⟨k0, rfl⟩ : ∃ k0 : Nat, r = k0 := ⟨r.toNat, by omega⟩
      have hk0 : k0 ≤ l.length := by omega
      clear hr0 hr1 hw AT
      go_wp2_with fail
      go_loopw [12, 13] (fun v i wr => ∃ (k n : Nat), i = .int .i64 k ∧ v = .int .i64 (n : Int) ∧ k ≤ k0 ∧ SumSt d l k n ∧ Ext (fun _ => False) W1 wr) (fun _ i _ => l.length - (intOf i).toNat)
      case atStart => exact ⟨0, 0, rfl, rfl, Nat.zero_le _, ⟨Nat.zero_le _, rfl⟩, Ext.refl _ _⟩
      case round =>
        obtain ⟨k, n, rfl, rfl, hkk, hst, hx⟩ := hrel
        have ST := Lib.hid hst
        have EX := Lib.hid hx
        have hn : n ≤ 200 := by have := hst.le; rw [CT.out, ba_size] at this; omega
        clear hst hx
        by_cases hlt : k < k0
        · have i1 : (k : Int) < (k0 : Int) := by omega
          have i2 : (k : Int) < (l.length : Int) := by omega
          obtain ⟨x, hx⟩ : ∃ x, l[k]? = some x := ⟨_, List.getElem?_eq_getElem (by omega)⟩
          obtain ⟨b, o, hp, hb, cx⟩ := (Q.out.on EX.out).cellI hx
          have OX := Lib.hid (OK.out x (List.mem_of_getElem? hx))
          have WI := Lib.hid (show Calls Try.prog 20 #[.pointer (some ⟨a, 0, none⟩), .int .i64 x] wr fun e w' => e = .returned (.tuple #[.string (wordOf d.ws x).1, .bool true]) ∧ Ext (fun _ => False) wr w' from by
            have := wordI_any (M1.out.on EX.out) D.out x
            rwa [OX.out] at this)
          have S1 := Lib.hid (ST.out.step hx)
          have hwl : (wordOf d.ws x).1.size ≤ 256 := by have := wb_le D.out x; unfold wb at this; rwa [ba_size] at this
          obtain ⟨wd, hwd⟩ : ∃ wd, (wordOf d.ws x).1 = wd := ⟨_, rfl⟩
          rw [hwd] at WI S1 hwl
          clear hx hwd
          rw [hp]
          go_wp2_with fail
          refine WI.out.mono ?_
          rintro e W2 ⟨rfl, hx2⟩
          have E2 := Lib.hid (EX.out.trans hx2 (fun _ _ h => h))
          clear hx2 cx hb
          go_wp2_with fail
          go_roundw
          case rel => exact ⟨k + 1, n + wd.size, by go_num, by go_num, hlt, S1.out, E2.out⟩
          case measure => simp [intOf]; omega
        · have i1 : ¬ ((k : Int) < (k0 : Int)) := by omega
          have hkk0 : k = k0 := by omega
          subst hkk0
          have CU := Lib.hid (show n ≤ t.size ∧ (joinT d.ms (bytesL (t.extract 0 n))).1 ++ (joinT d.ms (bytesL (t.extract n t.size))).1 = l from by
            have := CP.out k hk0
            rwa [ST.out.eq] at this)
          have hnt := CU.out.1
          have d1 : decide ((n : Int) > (t.size : Int)) = false := decide_eq_false (by omega)
          have n0 : (0 : Int) ≤ (n : Int) := by omega
          have n1 : (n : Int) ≤ (t.size : Int) := by omega
          have sza : (t.extract 0 n).size ≤ 200 := by rw [ByteArray.size_extract]; omega
          have szb : (t.extract n t.size).size ≤ 200 := by rw [ByteArray.size_extract]; omega
          obtain ⟨ta, hta⟩ : ∃ ta, t.extract 0 n = ta := ⟨_, rfl⟩
          obtain ⟨tb, htb⟩ : ∃ tb, t.extract n t.size = tb := ⟨_, rfl⟩
          rw [hta, htb] at CU
          have CU2 := Lib.hid CU.out.2
          rw [hta] at sza
          rw [htb] at szb
          clear CU
          have MA := Lib.hid (mergeB_ok (M1.out.on EX.out) D.out ta (by omega))
          have la : (joinT d.ms (bytesL ta)).1.length ≤ 200 := by have := join_le d.ms (bytesL ta); rw [bytesL_length] at this; omega
          have lb : (joinT d.ms (bytesL tb)).1.length ≤ 200 := by have := join_le d.ms (bytesL tb); rw [bytesL_length] at this; omega
          go_wp2_with fail
          try simp only [Int.toNat_natCast]
          try rw [hta]
          refine MA.out.mono ?_
          rintro e W3 ⟨pa, ca, rfl, hAa, hxa, _⟩
          have E3 := Lib.hid (EX.out.trans hxa (fun _ _ h => h))
          have MB := Lib.hid (mergeB_ok (M1.out.on E3.out) D.out tb (by omega))
          have RA := Lib.hid (ints_rd hAa)
          clear hAa hxa MA
          go_wp2_with fail
          try simp only [Int.toNat_natCast]
          try rw [htb]
          refine MB.out.mono ?_
          rintro e W4 ⟨pb, cb, rfl, hAb, hxb, _⟩
          have E4 := Lib.hid (E3.out.trans hxb (fun _ _ h => h))
          have RB := Lib.hid (ints_rd hAb)
          have RA4 := Lib.hid (RA.out.on hxb)
          clear hAb hxb MB RA
          obtain ⟨xa, hxa⟩ : ∃ xa, (joinT d.ms (bytesL ta)).1 = xa := ⟨_, rfl⟩
          obtain ⟨xb, hxb⟩ : ∃ xb, (joinT d.ms (bytesL tb)).1 = xb := ⟨_, rfl⟩
          rw [hxa, hxb] at CU2
          rw [hxa] at RA4 la
          rw [hxb] at RB lb
          rw [hxa, hxb]
          have HPA := Lib.hid (show pa = none → xa.length = 0 from fun h => by have := RA4.out; rw [h] at this; rw [this.none_]; rfl)
          have HPB := Lib.hid (show pb = none → xb.length = 0 from fun h => by have := RB.out; rw [h] at this; rw [this.none_]; rfl)
          clear hta htb hxa hxb
          go_wp2_with (first
            | (at_builtin; (refine arr_append_on (by rfl) (.tmp 102) (.tmp 103) 27 3 1 8 (.int .i64 0) rfl Try.underlying27 infoI rfl (by decide) (by decide) (some ⟨W4.heap.size, 0, none⟩) 0 0 [] rfl pa xa.length ca rfl (flat eI xa) (flat_length eI xa) ((RA4.out.on ((Ext.refl _ W4).alloc _)).src) HPA.out (flat_cells eI xa) (arr_empty W4 3 1) (by omega) ?_); intro p5 c5 w5 hA5 hx5 hm5; have Y5 := Lib.hid (show Ext (fun _ => False) W4 w5 from ((Ext.refl (fun _ => False) W4).alloc (.cells #[] 3)).trans hx5 (fun i hi e => by injection e with e; have : W4.heap.size = i := e; omega)); have A5 := Lib.hid (show Arr w5 3 1 p5 xa.length c5 (flat eI xa) from by rw [Nat.zero_add, List.nil_append] at hA5; exact hA5); have F5 := Lib.hid (show ∀ k, blkOf p5 = some k → W4.heap.size ≤ k from fun k hk => by { rcases hm5 k hk with hh | hh; { injection hh with hh; have : W4.heap.size = k := hh; omega }; { simp at hh; omega } }); clear hA5 hx5 hm5)
            | (at_builtin; (refine arr_append_on (by rfl) (.tmp 104) (.tmp 105) 27 3 1 8 (.int .i64 0) rfl Try.underlying27 infoI rfl (by decide) (by decide) p5 xa.length c5 (flat eI xa) rfl pb xb.length cb rfl (flat eI xb) (flat_length eI xb) ((RB.out.on Y5.out).src) HPB.out (flat_cells eI xb) A5.out (by omega) ?_); intro p6 c6 w6 hA6 hx6 hm6; have A6 := Lib.hid hA6; have X6 := Lib.hid hx6; have M6 := Lib.hid hm6; clear hA6 hx6 hm6))
          have E6 := Lib.hid (E4.out.trans (Y5.out.trans X6.out (fun i hi e => by have := F5.out i e; omega)) (fun _ _ h => h))
          have SA := sameI_any w6 p6 p c6 c (xa ++ xb) l (Rd.of_arr (E := eI) (e := 3) (c := c6) (n := xa.length + xb.length) (by rw [flat_append]; exact A6.out)) (Q.out.on E6.out) (by rw [List.length_append]; omega)
          rw [List.length_append, decide_eq_true CU2.out] at SA
          have SA := Lib.hid SA
          clear A6 X6 M6 A5 Y5
          refine SA.out.mono ?_
          rintro e w7 ⟨rfl, hx7⟩
          have E7 := Lib.hid (X1.out.trans (E6.out.trans hx7 (fun _ _ h => h)) (fun _ _ h => h))
          clear hx7
          go_wp2_with fail
          refine (known10_any w7).mono ?_
          rintro e W7 ⟨rfl, hx8⟩
          have E9 := Lib.hid (E7.out.trans hx8 (fun _ _ h => h))
          clear hx8
          go_wp2_with fail
          go_ret
          exact ⟨rfl, E9.out⟩
end Go.Proofs.Ytiminpcpnblppaa.Bpe
