/- law24.PruneKept. -/
import Derived.Test.YtbepmbihonnkaaaBookApartI
import Derived.Test.YtbepmbihonnkaaaPruneFst
import Derived.Test.YtbepmbihonnkaaaSameD
import Derived.Test.YtbepmbihonnkaaaFew24
import Derived.Test.YtbepmbihonnkaaaPruneK
import Derived.Deep.RegionHeld3
namespace Go.Proofs.Ytbepmbihonnkaaa.Bk
open Go.RowKit Go.Proofs.Ytbepmbihonnkaaa.Lib Go.Proofs.Ytbepmbihonnkaaa.Sl Go.Proofs.Ytbepmbihonnkaaa.Bpe
set_option linter.unusedVariables false
set_option linter.unusedSimpArgs false

theorem down_le {d : Dat} (hd : RightD d) (k : Int) (ids : List Int) (hl : ids.length ≤ 1000) : (downT d k ids).1.length ≤ 256000 := by
  unfold downT
  split
  · rename_i h
    have := flat_len hd k (S := ids) (fun x hx => by
      have := List.all_eq_true.1 h x hx
      simpa [validId] using this)
    simp only [List.length_map]
    omega
  · simp
set_option maxRecDepth 100000 in
set_option maxHeartbeats 16000000 in
theorem prunekept_any (w : World) (L : Pl) (d : Dat) (h : DR w L d) (k0 : Int) (hk0 : (Lit.int .i64 k0).wf = true) (s : ByteArray) (hs0 : s.size ≤ 140737488351232) :
    Calls Try.prog 10 #[.agg #[.slice L.p0 d.ws.length L.c0, .slice L.p1 d.ms.length L.c1, .slice L.p2 d.ls.length L.c2, .slice L.p3 d.ns.length L.c3, .slice L.p4 d.ss.length L.c4], .int .i64 k0, .string s] w fun e w' => e = .returned (.bool true) ∧ Ext (fun _ => False) w w' := by
  have hb : (w.alloc (.cells (dataCells L d) 26)).heap[w.heap.size]? = _ := heap_alloc_new w _
  have X0 := Lib.hid ((Ext.refl (fun _ => False) w).alloc (.cells (dataCells L d) 26))
  have C := Lib.hid (of5_any _ L d (h.on X0.out))
  have R := Lib.hid (h.on X0.out)
  have B0 := Lib.hid hb
  clear hb h
  go_enter Try.func10, Try.ntmps10
  go_wp2_with fail
  refine C.out.mono ?_
  rintro e W ⟨hx, h⟩
  have XA := Lib.hid hx
  have X := Lib.hid (X0.out.trans hx (fun _ _ h => h))
  clear hx C
  rcases h with ⟨hg, rfl⟩ | ⟨hg, a, rfl, hm, hwa⟩
  · have K := Lib.hid (known24_any W)
    clear hg
    go_wp2_with fail
    refine K.out.mono ?_
    rintro e W2 ⟨rfl, hx2⟩
    have X2 := Lib.hid (X.out.trans hx2 (fun _ _ h => h))
    clear hx2
    go_wp2_with fail
    go_ret
    exact ⟨rfl, X2.out⟩
  · have D := Lib.hid (RightD.of_good hg)
    have GD := Lib.hid hg
    have M := Lib.hid hm
    clear hg hm
    go_wp2_with fail
    refine (few24_any W s 100 (by decide)).mono ?_
    rintro e W' ⟨rfl, rfl⟩
    have MF := Lib.hid (fun wr (hx : Ext (fun _ => False) W wr) => mergeB_ok (M.out.on hx) D.out (fewB s 100) (by have := fewB_size s 100; omega))
    have FZ0 := fewB_size s 100
    obtain ⟨t, ht⟩ : ∃ t, fewB s 100 = t := ⟨_, rfl⟩
    rw [ht] at MF FZ0 ⊢
    clear ht hs0
    have LE0 : (joinT d.ms (bytesL t)).1.length ≤ 100 := by have := join_le d.ms (bytesL t); rw [bytesL_length] at this; omega
    obtain ⟨l, hl⟩ : ∃ l, (joinT d.ms (bytesL t)).1 = l := ⟨_, rfl⟩
    rw [hl] at MF LE0
    clear hl
    have X1 := Lib.hid (show Ext (fun _ => False) W (W.alloc (.cells #[.slice none 0 0, .slice none 0 0, .int .i64 0, .bool false] 67)) from (Ext.refl _ _).alloc _)
    have K0 := Lib.hid (KpSt.new (w := W))
    go_wp2_with fail
    refine (MF.out _ X1.out).mono ?_
    rintro e W1 ⟨p, c, rfl, hA, hx1, hf⟩
    have K1 := Lib.hid (K0.out.spare (p := p) hx1 (fun k hk => ⟨hf k hk, arr_lt hA hk⟩))
    have A1 := Lib.hid hA
    have FW := D.out.few
    have DL := down_le D.out k0 l (by omega)
    have PF := Lib.hid (fun wr (hx : Ext (fun _ => False) W wr) => pfirst_any wr a d k0 (M.out.on hx) GD.out)
    obtain ⟨dr, hdr⟩ : ∃ dr, downT d k0 l = dr := ⟨_, rfl⟩
    have PD : Hid (∀ wr, Ext (fun _ => False) W wr → Rd eI wr p l → Calls Try.prog 17 #[.pointer (some ⟨a, 0, none⟩), .int .i64 k0, .slice p l.length c] wr fun e w' => ∃ po co, e = .returned (.tuple #[.slice po dr.1.length co, .int .i64 dr.2]) ∧ Arr w' 3 1 po dr.1.length co (ints dr.1) ∧ Ext (fun _ => False) wr w' ∧ ∀ j, blkOf po = some j → wr.heap.size ≤ j) := Lib.hid (fun wr hx hr => by
      have := down_any wr a d k0 p c l (M.out.on hx) D.out hr (by omega)
      unfold DownEnd at this
      rw [hdr] at this
      exact this)
    rw [hdr] at DL
    obtain ⟨nm, hnm⟩ : ∃ nm, (renGo d (kc d k0) (256 + d.ms.length)).1 = nm := ⟨_, rfl⟩
    have NL : nm.length = 256 + d.ms.length := by rw [← hnm, (renGo_len d (kc d k0) (256 + d.ms.length)).1]
    have PF : Hid (∀ wr, Ext (fun _ => False) W wr → Calls Try.prog 25 #[.pointer (some ⟨a, 0, none⟩), .int .i64 k0] wr fun e w' => ∃ a1 ib, e = .returned (.tuple #[.pointer (some ⟨a1, 0, none⟩), .slice (some ⟨ib, 0, none⟩) nm.length nm.length, .int .i64 0]) ∧ Arr w' 3 1 (some ⟨ib, 0, none⟩) nm.length nm.length (ints nm) ∧ Ext (fun _ => False) wr w' ∧ wr.heap.size ≤ ib) := Lib.hid (fun wr hx => by
      have := pfirst_any wr a d k0 (M.out.on hx) GD.out
      unfold PFirstEnd at this
      rw [hnm, ← NL] at this
      exact this.mono fun e w' ⟨a1, ib, h1, _, h3, h4, h5, _⟩ => ⟨a1, ib, h1, h3, h4, h5⟩)
    have D14 : Hid (∀ wr, Ext (fun _ => False) W wr → Calls Try.prog 28 #[.pointer (some ⟨a, 0, none⟩)] wr fun e w' => ∃ L2 : Pl, e = .returned (.agg #[.slice L2.p0 d.ws.length L2.c0, .slice L2.p1 d.ms.length L2.c1, .slice L2.p2 d.ls.length L2.c2, .slice L2.p3 d.ns.length L2.c3, .slice L2.p4 d.ss.length L2.c4]) ∧ DR w' L2 d ∧ Ext (fun _ => False) W w') := Lib.hid (fun wr hx =>
      (data_any wr a d (M.out.on hx)).mono fun e w' ⟨L2, h1, h2, h3⟩ => ⟨L2, h1, h2.reads R.out, hx.trans h3 (fun _ _ h => h)⟩)
    have S14 := Lib.hid (show ∀ wr, Ext (fun _ => False) W wr → ∀ L2 : Pl, DR wr L2 d → Calls Try.prog 27 #[.agg #[.slice L2.p0 d.ws.length L2.c0, .slice L2.p1 d.ms.length L2.c1, .slice L2.p2 d.ls.length L2.c2, .slice L2.p3 d.ns.length L2.c3, .slice L2.p4 d.ss.length L2.c4], .agg #[.slice L.p0 d.ws.length L.c0, .slice L.p1 d.ms.length L.c1, .slice L.p2 d.ls.length L.c2, .slice L.p3 d.ns.length L.c3, .slice L.p4 d.ss.length L.c4]] wr fun e w' => e = .returned (.bool true) ∧ Ext (fun _ => False) W w' from fun wr hx L2 hr =>
      (sameD_any wr L2 L d hr (R.out.on (XA.out.trans hx (fun _ _ h => h)))).mono fun e w' ⟨h1, h2⟩ => ⟨h1, hx.trans h2 (fun _ _ h => h)⟩)
    have CE := Lib.hid (show ∀ w', Ext (fun _ => False) W w' → (w'.cell? ⟨w.heap.size, 0, none⟩ = some (.slice L.p0 d.ws.length L.c0) ∧ w'.cell? ⟨w.heap.size, 1, none⟩ = some (.slice L.p1 d.ms.length L.c1) ∧ w'.cell? ⟨w.heap.size, 2, none⟩ = some (.slice L.p2 d.ls.length L.c2) ∧ w'.cell? ⟨w.heap.size, 3, none⟩ = some (.slice L.p3 d.ns.length L.c3) ∧ w'.cell? ⟨w.heap.size, 4, none⟩ = some (.slice L.p4 d.ss.length L.c4)) ∧ Ext (fun _ => False) W w' from fun w' e =>
      have b := (XA.out.trans e (fun _ _ h => h)).obj B0.out (fun h => h)
      ⟨⟨blk_cell b 0, blk_cell b 1, blk_cell b 2, blk_cell b 3, blk_cell b 4⟩, e⟩)
    have NB : nm.length ≤ 5000 := by omega
    clear hdr hnm MF K0 hA hx1 hf NL FW
    go_wp2_with fail
    go_loopw [13] (fun i wr => ∃ k : Nat, i = .int .i64 k ∧ k ≤ 2 ∧ KpSt p W wr W.heap.size (2 * k) ∧ Rd eI wr p l) (fun i _ => 2 - (intOf i).toNat)
    case atStart => exact ⟨0, rfl, by omega, K1.out, ints_rd A1.out⟩
    case round =>
      obtain ⟨k, rfl, hk, hst, hrd⟩ := hrel
      have ST := Lib.hid hst
      have RL := Lib.hid hrd
      have SX := Lib.hid hst.ext
      clear hst hrd K1
      by_cases hlt : k < 2
      · have i1 : (k : Int) < 2 := by omega
        obtain ⟨S, hI, hS, hx, hsp⟩ := ST.out
        have SP := Lib.hid hsp
        have IB := Lib.hid hI
        have SS := Lib.hid hS
        have SL := Lib.hid hI.slt
        clear hI hS hx hsp
        go_wp2_with fail
        refine (PF.out _ SX.out).mono ?_
        rintro e W2 ⟨a2, p2, rfl, hA2, hx2, hf2⟩
        have A2 := Lib.hid hA2
        have X2 := Lib.hid hx2
        have XW2 := Lib.hid (SX.out.trans hx2 (fun _ _ h => h))
        have RL2 := Lib.hid (RL.out.on hx2)
        clear hA2 hx2
        go_wp2_with fail
        refine (PD.out _ XW2.out RL2.out).mono ?_
        rintro e W3 ⟨p3, c3, rfl, hA3, hx3, hf3⟩
        have A3 := Lib.hid hA3
        have X3 := Lib.hid hx3
        have F3 := Lib.hid hf3
        have A2' := Lib.hid (arr_ext A2.out X3.out (fun _ _ h => h))
        clear hA3 hx3 hf3
        have IB3 := Lib.hid ((IB.out.on X2.out).on X3.out)
        have XW3 := Lib.hid (XW2.out.trans X3.out (fun _ _ h => h))
        have F2 := Lib.hid hf2
        clear hf2
        have KA := Lib.hid (keepK_any IB3.out SS.out SX.out.size X2.out.size XW3.out (by omega) A2'.out (fun k hk => by
          have e : p2 = k := Option.some.inj hk
          subst e
          exact ⟨fun s => by have := SL.out p2 s; have := F2.out; omega, F2.out, arr_lt A2.out rfl⟩) (by omega))
        go_wp2_with fail
        refine KA.out.mono ?_
        rintro e W4 ⟨rfl, S4, hI4, hs4, hS4, hx4, hx5⟩
        have XW4 := Lib.hid hx5
        have A4 := Lib.hid (arr_ext A3.out hx4 (fun k hk s => by
          have h1 := F3.out k hk
          have h3 := X2.out.size
          have := SL.out k s; omega))
        have KB := Lib.hid (keepK_any hI4 hS4 (Nat.le_trans SX.out.size X2.out.size) (Nat.le_trans X3.out.size hx4.size) XW4.out (by omega) A4.out (fun k hk => ⟨fun s => by
          have h1 := F3.out k hk
          have h2 := arr_lt A3.out hk
          have h3 := X2.out.size
          rcases hs4 k s with h | h
          · have := SL.out k h; omega
          · omega, F3.out k hk, arr_lt A4.out hk⟩) (by omega))
        have hn4 : ∀ k, blkOf p = some k → ¬ S4 k := fun k hk s => (hs4 k s).elim (SP.out k hk).1 (fun h => by have := (SP.out k hk).2; have := X2.out.size; have := X3.out.size; omega)
        have R4 := Lib.hid (show ∀ W5, Ext S4 W4 W5 → Rd eI W5 p l from fun W5 h5 =>
          ((RL.out.on (X2.out.trans X3.out (fun _ _ h => h))).ext hx4 (fun k hk _ => (SP.out k hk).1)).ext h5 (fun k hk _ => hn4 k hk))
        have SQ := Lib.hid (show ∀ (W5 : World) (S5 : Nat → Prop), (∀ k, S5 k → S4 k ∨ W4.heap.size ≤ k) → W4.heap.size ≤ W5.heap.size → ∀ k, blkOf p = some k → ¬ S5 k ∧ k < W5.heap.size from fun W5 S5 h5 hz k hk => by
          have h1 := (SP.out k hk).2
          have h2 := X2.out.size
          have h3 := X3.out.size
          have h4 := hx4.size
          exact ⟨fun s => (h5 k s).elim (hn4 k hk) (fun h => by omega), by omega⟩)
        clear hn4
        clear hI4 hs4 hS4 hx4 hx5 KA
        go_wp2_with fail
        refine KB.out.mono ?_
        rintro e W5 ⟨rfl, S5, hI5, hs5, hS5, hx5, hx6⟩
        have N5 := Lib.hid (show KpSt p W W5 W.heap.size (2 * (k + 1)) from ⟨S5, hI5.up hx5.size, hS5, hx6, SQ.out _ _ hs5 hx5.size⟩)
        have R5 := Lib.hid (R4.out _ hx5)
        clear hI5 hS5 hs5 hx5 hx6 KB
        go_wp2_with fail
        go_roundw
        case rel => exact ⟨k + 1, by go_num, by omega, N5.out, R5.out⟩
        case measure => simp [intOf]; omega
      · have i1 : ¬ (k : Int) < 2 := by omega
        have AP := Lib.hid (apartK_any (ST.out.on ((Ext.refl _ _).drew)) (by omega))
        have D0 := Lib.hid (show Ext (fun _ => False) W wr.drew from SX.out.drew)
        have KN := Lib.hid (show ∀ w', Ext (fun _ => False) W w' → Calls Try.prog 12 #[] w' fun e w'' => e = .returned (.bool true) ∧ Ext (fun _ => False) W w'' from fun w' hx => (known24_any w').mono fun e w'' ⟨h1, h2⟩ => ⟨h1, hx.trans h2 (fun _ _ h => h)⟩)
        go_wp2_with fail
        go_region_held3 (fun w' => (w'.cell? ⟨w.heap.size, 0, none⟩ = some (.slice L.p0 d.ws.length L.c0) ∧ w'.cell? ⟨w.heap.size, 1, none⟩ = some (.slice L.p1 d.ms.length L.c1) ∧ w'.cell? ⟨w.heap.size, 2, none⟩ = some (.slice L.p2 d.ls.length L.c2) ∧ w'.cell? ⟨w.heap.size, 3, none⟩ = some (.slice L.p3 d.ns.length L.c3) ∧ w'.cell? ⟨w.heap.size, 4, none⟩ = some (.slice L.p4 d.ss.length L.c4)) ∧ Ext (fun _ => False) W w')
          (first | exact CE.out _ D0.out | exact CE.out _ G4.out | exact CE.out _ G3.out | exact CE.out _ G2.out | exact CE.out _ G1.out)
          (first
            | (go_at_call 34; (with_reducible refine AP.out.mono ?_); rintro e V1 ⟨rfl, hx1⟩; have G1 := Lib.hid hx1; clear hx1)
            | (go_at_call 28; (with_reducible refine (D14.out _ ?_).mono ?_); (exact G1.out); rintro e V2 ⟨L2, rfl, hR2, hx2⟩; have G2 := Lib.hid hx2; have R2 := Lib.hid hR2; clear hx2 hR2)
            | (go_at_call 27; (with_reducible refine (S14.out _ ?_ L2 ?_).mono ?_); (exact G2.out); (exact R2.out); rintro e V3 ⟨rfl, hx3⟩; have G3 := Lib.hid hx3; clear hx3)
            | (go_at_call 12; (with_reducible refine (KN.out _ ?_).mono ?_); (exact G3.out); rintro e V4 ⟨rfl, hx4⟩; have G4 := Lib.hid hx4; clear hx4))
        have X9 := Lib.hid (X.out.trans G4.out (fun _ _ h => h))
        go_wp2_with fail
        go_ret
        exact ⟨rfl, X9.out⟩
end Go.Proofs.Ytbepmbihonnkaaa.Bk
