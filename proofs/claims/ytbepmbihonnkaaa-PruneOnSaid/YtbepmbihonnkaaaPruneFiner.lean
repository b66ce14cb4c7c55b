/- law24.PruneFiner. -/
import Derived.Test.YtbepmbihonnkaaaFinerP
import Derived.Test.YtbepmbihonnkaaaBpeMerge
import Derived.Test.YtbepmbihonnkaaaWithin
import Derived.Test.YtbepmbihonnkaaaPruneK
import Derived.Test.YtbepmbihonnkaaaPruneFst
import Derived.Test.YtbepmbihonnkaaaCutTwice
namespace Go.Proofs.Ytbepmbihonnkaaa.Bpe
open Go.RowKit Go.Proofs.Ytbepmbihonnkaaa.Lib Go.Proofs.Ytbepmbihonnkaaa.Sl
set_option linter.unusedVariables false
set_option linter.unusedSimpArgs false

def fewB (s : ByteArray) (n : Nat) : ByteArray := if n < s.size then s.extract 0 n else s
theorem fewB_size (s : ByteArray) (n : Nat) : (fewB s n).size ≤ n := by
  unfold fewB
  split
  · rw [ByteArray.size_extract]; omega
  · omega
set_option maxRecDepth 100000 in
set_option maxHeartbeats 1000000 in
theorem few24_any (w : World) (s : ByteArray) (n : Nat) (hn : n ≤ 1048576) :
    Calls Try.prog 30 #[.string s, .int .i64 n] w fun e w' => e = .returned (.string (fewB s n)) ∧ w = w' := by
  by_cases h : n < s.size
  · have E := Lib.hid (show fewB s n = s.extract 0 n from if_pos h)
    have i1 : (n : Int) < (s.size : Int) := by omega
    have d1 : decide ((s.size : Int) > (n : Int)) = true := decide_eq_true (by omega)
    have i0 : (0 : Int) ≤ (n : Int) := by omega
    have i2 : (n : Int) ≤ (s.size : Int) := by omega
    go_enter Try.func30, Try.ntmps30
    go_wp2_with fail
    go_ret
    exact ⟨by rw [E.out]; simp, rfl⟩
  · have E := Lib.hid (show fewB s n = s from if_neg h)
    have d1 : decide ((s.size : Int) > (n : Int)) = false := decide_eq_false (by omega)
    go_enter Try.func30, Try.ntmps30
    go_wp2_with fail
    go_ret
    exact ⟨by rw [E.out]; rfl, rfl⟩
theorem mergeB_ok {w : World} {m : Nat} {d : Dat} (hm : IsModel w m d) (hd : RightD d) (s : ByteArray) (hs : s.size ≤ 1048576) :
    Calls Try.prog 31 #[.pointer (some ⟨m, 0, none⟩), .string s] w fun e w' => JoinedEnd w (joinT d.ms (bytesL s)).1 0 e w' := by
  have := mergeB_any hm hd s
  have e : mergeT d s = ((joinT d.ms (bytesL s)).1, 0) := if_neg (by omega)
  rwa [e] at this
theorem kc_nat {d : Dat} {n : Nat} (h : n ≤ d.ms.length) : kc d (n : Int) = n := by
  unfold kc
  rw [if_neg (by omega), if_neg (by omega), Int.toNat_natCast]
set_option maxRecDepth 100000 in
set_option maxHeartbeats 16000000 in
theorem pfiner_any (w : World) (L : Pl) (d : Dat) (h : DR w L d) (k : Int) (hk : (Lit.int .i64 k).wf = true) (s : ByteArray) (hs0 : s.size ≤ 140737488351232) :
    Calls Try.prog 8 #[.agg #[.slice L.p0 d.ws.length L.c0, .slice L.p1 d.ms.length L.c1, .slice L.p2 d.ls.length L.c2, .slice L.p3 d.ns.length L.c3, .slice L.p4 d.ss.length L.c4], .int .i64 k, .string s] w fun e w' => e = .returned (.bool true) ∧ Ext (fun _ => False) w w' := by
  have hb : (w.alloc (.cells (dataCells L d) 26)).heap[w.heap.size]? = _ := heap_alloc_new w _
  have X0 := Lib.hid ((Ext.refl (fun _ => False) w).alloc (.cells (dataCells L d) 26))
  have C := Lib.hid (of5_any _ L d (h.on X0.out))
  have HB := Lib.hid hb
  have HK := Lib.hid (Wi.inI_wf hk)
  clear hb h hk
  go_enter Try.func8, Try.ntmps8
  go_wp2_with fail
  refine C.out.mono ?_
  rintro e W ⟨hx, h⟩
  have X := Lib.hid (X0.out.trans hx (fun _ _ h => h))
  have B := Lib.hid (hx.obj HB.out (fun h => h))
  clear hx C
  rcases h with ⟨hg, rfl⟩ | ⟨hg, a, rfl, hm, hwa⟩
  · have K := Lib.hid (known24_any W)
    clear hg
    go_wp2_with fail
    refine K.out.mono ?_
    rintro e W2 ⟨rfl, hx2⟩
    have X2 := Lib.hid (X.out.trans hx2 (fun _ _ h => h))
    clear hx2
    go_wp2_with fail
    go_ret
    exact ⟨rfl, X2.out⟩
  · have D := Lib.hid (RightD.of_good hg)
    have HG := Lib.hid hg
    have M := Lib.hid hm
    have few := good_few hg
    have b1 := blk_cell B.out 1
    simp [dataCells] at b1
    clear hg hm
    go_wp2_with fail
    refine (few24_any W s 500 (by decide)).mono ?_
    rintro e W' ⟨rfl, rfl⟩
    have FZ0 := fewB_size s 500
    obtain ⟨t, ht⟩ : ∃ t, fewB s 500 = t := ⟨_, rfl⟩
    rw [ht] at FZ0 ⊢
    clear ht hs0
    go_wp2_with fail
    refine (Wi.within0_any W k (d.ms.length : Int) HK.out (by omega) (by omega)).mono ?_
    rintro e W' ⟨r, rfl, hr0, hr1, rfl⟩
    obtain ⟨n, rfl⟩ : ∃ n : Nat, r = n := ⟨r.toNat, by omega⟩
    have hnm : n ≤ d.ms.length := by omega
    have PF := pfirst_any W a d (n : Int) M.out HG.out
    rw [kc_nat hnm] at PF
    have PF := Lib.hid PF
    have GC := Lib.hid (good_cut HG.out hnm)
    have FP := Lib.hid (finer_pure D.out hnm t)
    have LE0 : (joinT d.ms (bytesL t)).1.length ≤ 500 := by have := join_le d.ms (bytesL t); rw [bytesL_length] at this; omega
    have LE1 : (joinT (cutD d n).ms (bytesL t)).1.length ≤ 500 := by have := join_le (cutD d n).ms (bytesL t); rw [bytesL_length] at this; omega
    obtain ⟨q, hq⟩ : ∃ q, cutD d n = q := ⟨_, rfl⟩
    rw [hq] at GC FP LE1
    have HQ := Lib.hid hq
    obtain ⟨l, hl⟩ : ∃ l, (joinT d.ms (bytesL t)).1 = l := ⟨_, rfl⟩
    obtain ⟨l2, hl2⟩ : ∃ l2, (joinT q.ms (bytesL t)).1 = l2 := ⟨_, rfl⟩
    rw [hl, hl2] at FP
    rw [hl] at LE0
    rw [hl2] at LE1
    have HL := Lib.hid hl
    have HL2 := Lib.hid hl2
    clear hq hl hl2 b1 hr0 hr1 hnm
    go_wp2_with fail
    refine PF.out.mono ?_
    rintro e W1 ⟨a1, ib, rfl, hm1, hA1, hx1, _, _⟩
    rw [HQ.out] at hm1
    have X1 := Lib.hid (X.out.trans hx1 (fun _ _ h => h))
    have M1 := Lib.hid (M.out.on hx1)
    have N1 := Lib.hid hm1
    clear hm1 hA1 hx1 PF B M
    have DA := data_any W1 a1 q N1.out
    have DA2 : Calls Try.prog 28 #[.pointer (some ⟨a1, 0, none⟩)] W1 fun e w' => ∃ L2 : Pl, e = .returned (.agg #[.slice L2.p0 q.ws.length L2.c0, .slice L2.p1 q.ms.length L2.c1, .slice L2.p2 q.ls.length L2.c2, .slice L2.p3 q.ns.length L2.c3, .slice L2.p4 q.ss.length L2.c4]) ∧ DR w' L2 q ∧ Ext (fun _ => False) W1 w' := DA.mono fun _ _ h => by
      obtain ⟨L2, h1, h2, h3⟩ := h
      obtain ⟨L0, _, _, _, _, _, _, _, _, hM⟩ := N1.out
      exact ⟨L2, h1, h2.reads hM.rd, h3⟩
    have DA := Lib.hid DA2
    clear DA2
    go_wp2_with fail
    refine DA.out.mono ?_
    rintro e W2 ⟨L2, rfl, hR2, hx2⟩
    have R2 := Lib.hid hR2
    have X2 := Lib.hid hx2
    clear hR2 hx2 DA
    go_wp2_with fail
    refine (of5_any W2 L2 q R2.out).mono ?_
    rintro e W3 ⟨hx3, h⟩
    rcases h with ⟨hg, _⟩ | ⟨hg, a3, rfl, _, _⟩
    · rw [GC.out] at hg; cases hg
    have X3 := Lib.hid (X2.out.trans hx3 (fun _ _ h => h))
    have MA := Lib.hid (mergeB_ok (M1.out.on X3.out) D.out t (by omega))
    rw [HL.out] at MA
    clear hx3 hg X2 R2
    go_wp2_with fail
    refine MA.out.mono ?_
    rintro e W4 ⟨pa, ca, rfl, hAa, hxa, _⟩
    have X4 := Lib.hid (X3.out.trans hxa (fun _ _ h => h))
    have RA := Lib.hid (ints_rd hAa)
    have DN := down_any W4 a d (n : Int) pa ca l (M1.out.on X4.out) D.out RA.out (by omega)
    have DN := Lib.hid DN
    clear hAa hxa MA
    go_wp2_with fail
    refine DN.out.mono ?_
    rintro e W5 ⟨po, co, he, hAo, hxo, _⟩
    rw [FP.out] at he hAo
    subst he
    have X5 := Lib.hid (X4.out.trans hxo (fun _ _ h => h))
    have RO := Lib.hid (ints_rd hAo)
    have MC := mergeB_ok (N1.out.on X5.out) (RightD.of_good GC.out) t (by omega)
    rw [HL2.out] at MC
    have MC := Lib.hid MC
    clear hAo hxo DN
    go_wp2_with fail
    refine MC.out.mono ?_
    rintro e W6 ⟨pc, cc, rfl, hAc, hxc, _⟩
    have X6 := Lib.hid (X5.out.trans hxc (fun _ _ h => h))
    have RC := Lib.hid (ints_rd hAc)
    have RO6 := Lib.hid (RO.out.on hxc)
    clear hAc hxc MC
    go_wp2_with fail
    refine (sameI_any W6 po pc co cc l2 l2 RO6.out RC.out (by omega)).mono ?_
    rintro e W7 ⟨rfl, hx7⟩
    have X7 := Lib.hid (X1.out.trans (X6.out.trans hx7 (fun _ _ h => h)) (fun _ _ h => h))
    rw [decide_eq_true (rfl : l2 = l2)]
    clear hx7
    go_wp2_with fail
    refine (known24_any W7).mono ?_
    rintro e W8 ⟨rfl, hx8⟩
    have X8 := Lib.hid (X7.out.trans hx8 (fun _ _ h => h))
    clear hx8
    go_wp2_with fail
    go_ret
    exact ⟨rfl, X8.out⟩
end Go.Proofs.Ytbepmbihonnkaaa.Bpe
