/- law10.BpeSteps. -/
import Derived.Test.YtiminpcpnblppaaBpeStepsP
import Derived.Sort.LoopGhostIn
namespace Go.Proofs.Ytiminpcpnblppaa.Bpe
open Go.RowKit Go.Proofs.Ytiminpcpnblppaa.Lib Go.Proofs.Ytiminpcpnblppaa.Sl Go.Proofs.Ytiminpcpnblppaa.Chain Go.Proofs.YtiminpcpnblppaaW.PrintLast
set_option linter.unusedVariables false
set_option linter.unusedSimpArgs false
attribute [local go_sem] Oper.semAt_some

theorem mergeV_is (ms : List Mrg) (l r : Int) : ∃ (R I : Int) (ok : Bool), mergeV ms l r = .tuple #[.int .i64 R, .int .i64 I, .bool ok] ∧ ((ok = false ∧ mergeOf ms l r = none) ∨ (ok = true ∧ ∃ r' : Nat, R = r' ∧ mergeOf ms l r = some (r', I))) := by
  unfold mergeV
  cases h : mergeOf ms l r with
  | none => exact ⟨0, 0, false, rfl, .inl ⟨rfl, rfl⟩⟩
  | some y => exact ⟨(y.1 : Int), y.2, true, rfl, .inr ⟨rfl, y.1, rfl, rfl⟩⟩

set_option maxRecDepth 100000 in
set_option maxHeartbeats 8000000 in
theorem bpesteps_any (w : World) (L : Pl) (d : Dat) (h : DR w L d) (s : ByteArray) (hs0 : s.size ≤ 140737488351232) :
    Calls Try.prog 9 #[.agg #[.slice L.p0 d.ws.length L.c0, .slice L.p1 d.ms.length L.c1, .slice L.p2 d.ls.length L.c2, .slice L.p3 d.ns.length L.c3, .slice L.p4 d.ss.length L.c4], .string s] w fun e w' => e = .returned (.bool true) ∧ Ext (fun _ => False) w w' := by
  obtain ⟨V0, hV0⟩ : ∃ V0, (w.alloc (.cells (dataCells L d) 26)).alloc (.cells #[.bool false] 4) = V0 := ⟨_, rfl⟩
  have x0 : Ext (fun _ => False) w V0 := by rw [← hV0]; exact ((Ext.refl _ w).alloc _).alloc _
  have H0 := Lib.hid (show V0.heap[w.heap.size]? = some (.cells (dataCells L d) 26 (0, 0)) ∧ Boxed V0 (w.heap.size + 1) 4 (.bool false) from by
    rw [← hV0]
    exact ⟨blk_alloc (alloc_at _ _ _ rfl) _, alloc_at _ _ _ (by simp)⟩)
  have X0 := Lib.hid x0
  have C := Lib.hid (of5_any V0 L d (h.on x0))
  obtain ⟨b3, hb3⟩ : ∃ b3, w.heap.size = b3 := ⟨_, rfl⟩
  rw [hb3] at H0
  have LB := Lib.hid hb3
  have c30 := blk_cell H0.out.1 0
  have c31 := blk_cell H0.out.1 1
  have c32 := blk_cell H0.out.1 2
  have c33 := blk_cell H0.out.1 3
  have c34 := blk_cell H0.out.1 4
  simp [dataCells] at c30 c31 c32 c33 c34
  clear h x0
  refine (callsIn_wide (n := 9)).1 (callsIn_of_wp_marks Try.func9 rfl trivial (wpIn_wide.2 ?_))
  simp only [Try.ntmps9, List.size_toArray, List.length_cons, List.length_nil, Nat.reduceAdd, Nat.reduceSub, Array.replicate_succ, Array.replicate_zero, List.push_toArray, List.append_toArray, List.nil_append, List.cons_append]
  unfold dataCells at hV0
  go_wp2_with fail
  clear hb3 c30 c31 c32 c33 c34 hV0
  refine C.out.mono ?_
  rintro e W ⟨hx, h⟩
  have X := Lib.hid (X0.out.trans hx (fun _ _ h => h))
  rcases h with ⟨hg, rfl⟩ | ⟨hg, a, rfl, hm, hwa⟩
  · have B6 : Boxed W (b3 + 1) 4 (.bool false) := hx.obj H0.out.2 (fun h => h)
    have HB := Lib.hid B6
    clear hg hx C B6 H0
    go_wp2_with fail
    refine (known10_any _).mono ?_
    rintro e W2 ⟨rfl, hx2⟩
    have x2 := ((Ext.refl (fun _ => False) W).alloc (.cells #[.pointer none] 28)).trans hx2 (fun _ _ h => h)
    have X2 := Lib.hid (X.out.trans x2 (fun _ _ h => h))
    have B6 : Boxed W2 (b3 + 1) 4 (.bool false) := x2.obj HB.out (fun h => h)
    have t0 := B6.cell
    have tf := B6.frozen
    have tl := B6.lt
    have z := Lib.hid (Boxed.set (.bool true) B6)
    clear hx2 B6 x2
    go_wp2_with fail
    have c6 := z.out.cell
    exact ⟨.bool true, by simp [results, Try.f9, go_sem, c6], rfl, X2.out.setCell (p := ⟨b3 + 1, 0, none⟩) (fun hl => by have : b3 + 1 < w.heap.size := hl; have := LB.out; omega) _⟩
  · have D := Lib.hid (RightD.of_good hg)
    have G := Lib.hid (show IsModel W a d ∧ Boxed W (b3 + 1) 4 (.bool false) ∧ Ext (fun _ => False) w W ∧ w.heap.size ≤ b3 from ⟨hm, hx.obj H0.out.2 (fun h => h), X.out, by have := LB.out; omega⟩)
    clear hg hm hx C H0 X X0 hwa
    go_wp2_with fail
    refine (few_any _ s 200 (by decide)).mono ?_
    rintro e W' ⟨rfl, hw'⟩
    subst hw'
    have FZ0 := fewB_size s 200
    obtain ⟨t, ht⟩ : ∃ t, fewB s 200 = t := ⟨_, rfl⟩
    have MF0 := fun (W' : World) (e : Ext (fun _ => False) W W') => merge_few (G.out.1.on e) D.out s 200 (by decide)
    rw [ht] at FZ0 ⊢
    simp only [ht] at MF0
    have MF := Lib.hid MF0
    have FZ := Lib.hid FZ0
    have FB := Lib.hid (show t.size ≤ 1048576 from by omega)
    clear ht hs0 FZ0 MF0
    obtain ⟨b5, hb5⟩ : ∃ b5, W.heap.size = b5 := ⟨_, rfl⟩
    go_wp2_with fail
    refine (ref10bytes_any _ t FB.out).mono ?_
    rintro e W1 ⟨p, c, rfl, hA, hx, hf⟩
    have x1 := ((Ext.refl (fun _ => False) W).alloc (.cells #[.pointer (some ⟨a, 0, none⟩)] 28)).trans hx (fun _ _ h => h)
    have B5 : Boxed W1 b5 28 (.pointer (some ⟨a, 0, none⟩)) := by rw [← hb5]; exact hx.obj (Boxed.new W _ _) (fun h => h)
    have X1 := Lib.hid x1
    have HB5 := Lib.hid B5
    have A1 := Lib.hid hA
    have F1 := Lib.hid (show ∀ k, blkOf p = some k → b5 < k from fun k hk => by have := hf k hk; simp at this; omega)
    have LB5 := Lib.hid hb5
    have t5 := B5.cell
    have l5 := B5.lt
    clear hA hx hf x1 B5
    obtain ⟨b8, hb8⟩ : ∃ b8, W1.heap.size = b8 := ⟨_, rfl⟩
    have l58 : b5 < b8 := by omega
    go_wp2_with fail
    obtain ⟨W2, hW2⟩ : ∃ W2, W1.alloc (.cells #[.slice p t.size c] 27) = W2 := ⟨_, rfl⟩
    have x2 : Ext (fun _ => False) W1 W2 := by rw [← hW2]; exact (Ext.refl _ _).alloc _
    have B8 : Boxed W2 b8 27 (.slice p t.size c) := by rw [← hW2, ← hb8]; exact Boxed.new W1 _ _
    have X2 := Lib.hid (X1.out.trans x2 (fun _ _ h => h))
    have HB8 := Lib.hid B8
    have B52 := Lib.hid (x2.obj HB5.out (fun h => h))
    have A2 := Lib.hid (arr_ext A1.out x2 (fun _ _ h => h))
    have LB8 := Lib.hid (show b5 < b8 ∧ (∀ k, blkOf p = some k → k < b8) from ⟨l58, fun k hk => by have := arr_lt A1.out hk; omega⟩)
    rw [hW2]
    clear hW2 t5 l5 hb8 l58 x2 B8 HB5 A1 X1 hb5
    refine (stepsB_any W2 a t).mono ?_
    rintro e W3 ⟨mb, sb, rfl, bm, bs, lm, ls, hx⟩
    have hq := steps_nil mb sb
    have X3 := Lib.hid (X2.out.trans hx (fun _ _ h => h))
    have BM := Lib.hid bm
    have BS := Lib.hid bs
    have HB83 := Lib.hid (hx.obj HB8.out (fun h => h))
    have B53 := Lib.hid (hx.obj B52.out (fun h => h))
    have A3 := Lib.hid (arr_ext A2.out hx (fun _ _ h => h))
    have G3 := Lib.hid (show b8 < W3.heap.size from Boxed.lt HB83.out)
    clear bm bs lm ls hx X2 HB8 B52 A2
    obtain ⟨b10, hb10⟩ : ∃ b10, W3.heap.size = b10 := ⟨_, rfl⟩
    go_wp2_with fail
    obtain ⟨W0, hW0⟩ : ∃ W0, (W3.alloc (.cells #[.int .i64 0] 3)).alloc (.cells #[.int .i64 0] 3) = W0 := ⟨_, rfl⟩
    have x4 : Ext (fun _ => False) W3 W0 := by rw [← hW0]; exact ((Ext.refl _ _).alloc _).alloc _
    have B10 : Boxed W0 b10 3 (.int .i64 0) := by rw [← hW0, ← hb10]; exact (Boxed.new W3 _ _).alloc _
    have B11 : Boxed W0 (b10 + 1) 3 (.int .i64 0) := by
      have := Boxed.new (W3.alloc (.cells #[.int .i64 0] 3)) 3 (.int .i64 0)
      rw [World.size_alloc, hb10, hW0] at this
      exact this
    have X4 := Lib.hid (X3.out.trans x4 (fun _ _ h => h))
    have HB84 := Lib.hid (show Boxed W0 b8 27 (.slice p t.size c) from x4.obj HB83.out (fun h => h))
    have B54 := Lib.hid (show Boxed W0 b5 28 (.pointer (some ⟨a, 0, none⟩)) from x4.obj B53.out (fun h => h))
    have B44 := Lib.hid (show Boxed W0 (b3 + 1) 4 (.bool false) from X4.out.obj G.out.2.1 (fun h => h))
    have A4 := Lib.hid (arr_ext A3.out x4 (fun _ _ h => h))
    have NE := Lib.hid (show b3 + 1 < b5 ∧ b5 < b8 ∧ b8 < b10 ∧ b10 + 1 < W0.heap.size ∧ W.heap.size = b5 from ⟨by have := G.out.2.1.lt; have := LB5.out; omega, LB8.out.1, by have := G3.out; omega, B11.lt, LB5.out⟩)
    have SM := Lib.hid (steps_mut (V := V3 b8 b10) 8 (by omega) G.out.1 D.out FB.out X4.out (fun k hk => by have := NE.out; rcases hk with h | h | h <;> omega) (x4.obj BM.out (fun h => h)) (x4.obj BS.out (fun h => h)))
    have ST := Lib.hid (show SI W0 b8 b10 d t [] (fun _ => False) W0 from ⟨p, c, bytesL t, 0, ⟨Ext.refl _ _, by rw [bytesL_length]; exact HB84.out, by rw [bytesL_length]; exact A4.out, fun k hk => ⟨fun h => h, fun h => by have := F1.out k hk; have := LB8.out.2 k hk; have := NE.out; rcases h with h | h | h <;> omega⟩, B10, B11, by simp, fun _ _ _ _ => Nat.zero_le _, by rw [bytesL_length]; rfl, fun _ h => h.elim, by have := NE.out; omega⟩⟩)
    rw [hW0]
    clear hW0 hb10 x4 B10 B11 X3 HB83 B53 A3 BM BS G3 HB84 A4
    refine (wpIn_wide (n := 9)).1 ?_
    refine wpIn_range_mut (n := 9) rfl (by omega) (gf := 40) (lb := #[.pointer (some ⟨mb, 0, none⟩), .pointer (some ⟨sb, 0, none⟩)]) ?hg trivial (enters_of Try.func40 (by kernel_rfl) rfl) SM.out (fun _ => rfl)
      (SI W0 b8 b10 d t) (fun c pre O W => False) (si_abide _ _ _ _ _) (si_turn _ _ _ _ _) (fun _ _ _ _ _ _ h _ _ _ => h) (fun _ _ _ _ _ _ _ h _ _ _ _ => h) ST.out (a₁ := ?a1) (Pa := fun x k W => W.heap[k]? = some (.cells #[.int .i64 (x.1 : Int), .int .i64 (x.2 : Int)] 68 (0, 0)))
      (fun x k W l o o' h ho hc => (World.putObj_heap_other (fun e => by subst e; rw [h] at ho; cases ho; cases hc)).trans h) ?assign ?body ?done ?stop
    case hg => kernel_rfl
    case assign =>
      intro l x W k K hk hK
      refine startL_ rfl (fun ⟨_, _, h⟩ => h) ?_
      go_wp2_with fail
      exact hK _ ((Ext.refl _ _).alloc _) (alloc_at _ _ _ hk.symm)
    case body =>
      rintro lp pre x O W9 k ⟨pl, cl, lst, last, h⟩ hnx hOW hk
      obtain ⟨id, hn⟩ := steps_head h.jn hnx
      obtain ⟨hl1, _⟩ := step_at hn
      have hrk := h.rk _ _ _ hn
      have hlen : lst.length ≤ 200 := by have := h.ln; have := FZ.out; omega
      have HS := Lib.hid h
      have HN := Lib.hid hn
      have HK := Lib.hid hk
      have OW := Lib.hid hOW
      have k0 := blk_cell hk 0
      have k1 := blk_cell hk 1
      simp at k0 k1
      have lk := blk_lt hk
      have v8 := h.x8.cell
      have z8 := h.x8.lt
      have v10 := h.x10.cell
      have z10 := h.x10.lt
      have B5 := Lib.hid (show Boxed W9 b5 28 (.pointer (some ⟨a, 0, none⟩)) from h.ext.obj B54.out (fun e => by have := NE.out; rcases e with e | e | e <;> omega))
      have XM := Lib.hid (show Ext (fun _ => False) W W9 from X4.out.trans h.ext (fun i hi e => by have := NE.out; rcases e with e | e | e <;> omega))
      obtain ⟨xr, xa⟩ := x
      dsimp only at k0 k1 hl1 hrk
      obtain ⟨n, hnn⟩ : ∃ n, lst.length = n := ⟨_, rfl⟩
      rw [hnn] at v8 hl1 hlen
      have NN := Lib.hid hnn
      have i1 : decide ((xa : Int) < 0) = false := decide_eq_false (by omega)
      have i2 : ¬ ((xa : Int) < 0) := by omega
      have hw : IntKind.i64.wrap ((xa : Int) + 1) = (xa : Int) + 1 := IntWalk.i64_in _ (by omega)
      have i3 : decide ((xa : Int) + 1 ≥ (n : Int)) = false := decide_eq_false (by omega)
      have i4 : decide ((n : Int) ≤ (xa : Int) + 1) = false := decide_eq_false (by omega)
      have i5 : decide ((xr : Int) < (last : Int)) = false := decide_eq_false (by omega)
      have i6 : decide (xr < last) = false := decide_eq_false (by omega)
      have HL := Lib.hid (And.intro hl1 (And.intro hrk hlen))
      clear h hn hnx hk hOW hnn hrk
      gi_wp2_with fail
      have HW := Lib.hid hw
      clear i1 i2 hw i3 i4 i5 i6 v10 z10
      gi_loopg [13, 14] n (fun gk m i wr => ∃ j : Nat, gk = n - j ∧ i = .int .i64 j ∧ j + 1 ≤ n ∧ m = .int .i64 (if xa < j then id else -1) ∧ Ext (fun _ => False) W9 wr)
      case atStart => exact ⟨0, rfl, rfl, by omega, by simp, Ext.refl _ _⟩
      case round =>
        obtain ⟨j, rfl, rfl, hj, hmv, hx⟩ := hrel
        obtain ⟨mv, hmv2⟩ : ∃ mv, (if xa < j then id else -1) = mv := ⟨_, rfl⟩
        rw [hmv2] at hmv
        subst hmv
        have MV := Lib.hid hmv2
        clear hmv2
        have EX := Lib.hid hx
        have y0 := (hx.cell (p := ⟨k, 0, none⟩) lk (fun h => h)).trans k0
        have y1 := (hx.cell (p := ⟨k, 1, none⟩) lk (fun h => h)).trans k1
        have yl := Nat.lt_of_lt_of_le lk hx.size
        have y8 := (hx.cell (p := ⟨b8, 0, none⟩) z8 (fun h => h)).trans v8
        have y8l := Nat.lt_of_lt_of_le z8 hx.size
        have B5r := Lib.hid (hx.obj B5.out (fun h => h))
        have y5 : wr.cell? ⟨b5, 0, none⟩ = some (.pointer (some ⟨a, 0, none⟩)) := Boxed.cell B5r.out
        have y5l := Boxed.lt B5r.out
        clear k0 k1 lk v8 z8
        have hw : IntKind.i64.wrap ((j : Int) + 1) = (j : Int) + 1 := IntWalk.i64_in _ (by have := HL.out; omega)
        have HJ := Lib.hid hj
        clear hx hj
        by_cases hlt : j + 1 < n
        · have i1 : (j : Int) + 1 < (n : Int) := by omega
          have i0 : (j : Int) < (n : Int) := by omega
          have i9 : (0 : Int) ≤ (j : Int) + 1 := by omega
          obtain ⟨va, hva⟩ : ∃ va, lst[j]? = some va := ⟨_, List.getElem?_eq_getElem (by have := NN.out; omega)⟩
          obtain ⟨vb, hvb⟩ : ∃ vb, lst[j + 1]? = some vb := ⟨_, List.getElem?_eq_getElem (by have := NN.out; omega)⟩
          obtain ⟨lb, lo, hp, hlb, ca⟩ := ((ints_rd HS.out.ar).on EX.out).cellI hva
          obtain ⟨lb', lo', hp', _, cb⟩ := ((ints_rd HS.out.ar).on EX.out).cellI hvb
          rw [hp] at hp'
          cases hp'
          rw [hp] at y8
          have ME := Lib.hid (merge_any (w := wr.drew) (IsModel.on G.out.1 (XM.out.trans (EX.out.trans (Ext.refl _ _).drew (fun _ _ h => h)) (fun _ _ h => h))) D.out.pn va vb)
          have LW := Lib.hid (fun r' id' (h : mergeOf d.ms va vb = some (r', id')) => step_low HN.out hva hvb h)
          have LA := Lib.hid (And.intro hva hvb)
          clear hva hvb hp
          obtain ⟨R, I, ok, hv, hok⟩ := mergeV_is d.ms va vb
          rw [hv] at ME
          have OK := Lib.hid hok
          clear hv hok
          gi_upto_region 19 with (fail)
          refine startW_ (m := 18) (S := fun w' => w'.cell? ⟨b5, 0, none⟩ = some (.pointer (some ⟨a, 0, none⟩)) ∧ w'.cell? ⟨b8, 0, none⟩ = some (.slice (some ⟨lb, lo, none⟩) n cl) ∧ w'.cell? ⟨lb, lo + j, none⟩ = some (.int .i64 va) ∧ w'.cell? ⟨lb, lo + (j + 1), none⟩ = some (.int .i64 vb)) (ds := []) (ls 18 0) (by kernel_rfl) rfl (fun ⟨_, _, h⟩ => h) rfl rfl ⟨y5, y8, ca, cb⟩ (fun hHeld => ?_)
          refine pure_ (i := 2) (N := some 70) (v := ?_) (a' := ?_) (ls 18 4) rfl rfl (by kernel_rfl) (fun _ _ _ h => h) (Or.inl ⟨by rfl, ?_⟩) ?_ ?_
          rotate_left
          · intro w'; go_simp; with_reducible rfl
          rotate_left
          · simp only [Act.put, List.setIfInBounds_toArray, List.set_cons_zero, List.set_cons_succ, i64_w, i32_w]; rfl
          refine pure_ (i := 6) (N := some 74) (v := ?_) (a' := ?_) (ls 18 68) rfl rfl (by kernel_rfl) (fun _ _ _ h => h) (Or.inl ⟨by rfl, ?_⟩) ?_ ?_
          rotate_left
          · intro w'; go_simp; with_reducible rfl
          rotate_left
          · simp only [Act.put, List.setIfInBounds_toArray, List.set_cons_zero, List.set_cons_succ, i64_w, i32_w]; rfl
          refine pure_ (i := 7) (N := some 75) (v := ?_) (a' := ?_) (ls 18 196) rfl rfl (by kernel_rfl) (fun _ _ _ h => h) (Or.inl ⟨by rfl, ?_⟩) ?_ ?_
          rotate_left
          · intro w'; go_simp; with_reducible rfl
          rotate_left
          · simp only [Act.put, List.setIfInBounds_toArray, List.set_cons_zero, List.set_cons_succ, i64_w, i32_w]; rfl
          refine take_ (i := 0) (N := some 68) (v := ?_) (a' := ?_) (ls 18 197) rfl rfl (by kernel_rfl) (fun _ _ _ h => h) (Or.inl ⟨by rfl, ?_⟩) hHeld ?_ ?_
          rotate_left
          · rintro w' ⟨s0, s1, s2, s3⟩; go_simp; with_reducible rfl
          rotate_left
          · simp only [Act.put, List.setIfInBounds_toArray, List.set_cons_zero, List.set_cons_succ, i64_w, i32_w]; rfl
          refine take_ (i := 1) (N := some 69) (v := ?_) (a' := ?_) (ls 18 199) rfl rfl (by kernel_rfl) (fun _ _ _ h => h) (Or.inl ⟨by rfl, ?_⟩) hHeld ?_ ?_
          rotate_left
          · rintro w' ⟨s0, s1, s2, s3⟩; go_simp; with_reducible rfl
          rotate_left
          · simp only [Act.put, List.setIfInBounds_toArray, List.set_cons_zero, List.set_cons_succ, i64_w, i32_w]; rfl
          refine pure_ (i := 3) (N := some 71) (v := ?_) (a' := ?_) (ls 18 207) rfl rfl (by kernel_rfl) (fun _ _ _ h => h) (Or.inl ⟨by rfl, ?_⟩) ?_ ?_
          rotate_left
          · intro w'; go_simp; with_reducible rfl
          rotate_left
          · simp only [Act.put, List.setIfInBounds_toArray, List.set_cons_zero, List.set_cons_succ, i64_w, i32_w]; rfl
          refine take_ (i := 4) (N := some 72) (v := ?_) (a' := ?_) (ls 18 223) rfl rfl (by kernel_rfl) (fun _ _ _ h => h) (Or.inl ⟨by rfl, ?_⟩) hHeld ?_ ?_
          rotate_left
          · rintro w' ⟨s0, s1, s2, s3⟩; go_simp; with_reducible rfl
          rotate_left
          · simp only [Act.put, List.setIfInBounds_toArray, List.set_cons_zero, List.set_cons_succ, i64_w, i32_w]; rfl
          refine take_ (i := 5) (N := some 73) (v := ?_) (a' := ?_) (ls 18 255) rfl rfl (by kernel_rfl) (fun _ _ _ h => h) (Or.inl ⟨by rfl, ?_⟩) hHeld ?_ ?_
          rotate_left
          · rintro w' ⟨s0, s1, s2, s3⟩; go_simp; with_reducible rfl
          rotate_left
          · simp only [Act.put, List.setIfInBounds_toArray, List.set_cons_zero, List.set_cons_succ, i64_w, i32_w]; rfl
          refine pure_ (i := 8) (N := some 76) (v := ?_) (a' := ?_) (ls 18 511) rfl rfl (by kernel_rfl) (fun _ _ _ h => h) (Or.inl ⟨by rfl, ?_⟩) ?_ ?_
          rotate_left
          · intro w'; go_simp; with_reducible rfl
          rotate_left
          · simp only [Act.put, List.setIfInBounds_toArray, List.set_cons_zero, List.set_cons_succ, i64_w, i32_w]; rfl
          refine take_ (i := 9) (N := some 77) (v := ?_) (a' := ?_) (ls 18 1023) rfl rfl (by kernel_rfl) (fun _ _ _ h => h) (Or.inl ⟨by rfl, ?_⟩) hHeld ?_ ?_
          rotate_left
          · rintro w' ⟨s0, s1, s2, s3⟩; go_simp; with_reducible rfl
          rotate_left
          · simp only [Act.put, List.setIfInBounds_toArray, List.set_cons_zero, List.set_cons_succ, i64_w, i32_w]; rfl
          refine one_ (i := 10) (N := some 78) (ls 18 2047) rfl rfl (by kernel_rfl) (by decide) (fun K hK => ?_)
          refine goes_ Try.func21 (by kernel_rfl) rfl #[.pointer (some ⟨a, 0, none⟩), .int .i64 va, .int .i64 vb] (by rfl) rfl rfl (by (try simp only [List.map_toArray, List.map_cons, List.map_nil]); first | done | rfl) ?_
          refine (ME.out).mono ?_
          rintro e W10 ⟨rfl, x10⟩
          refine ⟨_, rfl, ?_⟩
          refine hK.out _ _ ⟨(x10.cell (p := ⟨b5, 0, none⟩) y5l (fun h => h)).trans y5, (x10.cell (p := ⟨b8, 0, none⟩) y8l (fun h => h)).trans y8, (x10.cell (p := ⟨lb, lo + j, none⟩) hlb (fun h => h)).trans ca, (x10.cell (p := ⟨lb, lo + (j + 1), none⟩) hlb (fun h => h)).trans cb⟩ (fun hHeld => ?_)
          clear hK K
          refine norm_ (a' := ?_) ?_ ?_
          rotate_left
          · simp only [Act.put, List.setIfInBounds_toArray, List.set_cons_zero, List.set_cons_succ, i64_w, i32_w]; rfl
          refine pure_ (i := 11) (N := some 67) (v := ?_) (a' := ?_) (ls 18 4095) rfl rfl (by kernel_rfl) (fun _ _ _ h => h) (Or.inl ⟨by rfl, ?_⟩) ?_ ?_
          rotate_left
          · intro w'; go_simp; with_reducible rfl
          rotate_left
          · simp only [Act.put, List.setIfInBounds_toArray, List.set_cons_zero, List.set_cons_succ, i64_w, i32_w]; rfl
          refine pure_ (i := 12) (N := some 79) (v := ?_) (a' := ?_) (ls 18 8191) rfl rfl (by kernel_rfl) (fun _ _ _ h => h) (Or.inl ⟨by rfl, ?_⟩) ?_ ?_
          rotate_left
          · intro w'; go_simp; with_reducible rfl
          rotate_left
          · simp only [Act.put, List.setIfInBounds_toArray, List.set_cons_zero, List.set_cons_succ, i64_w, i32_w]; rfl
          refine pure_ (i := 13) (N := some 80) (v := ?_) (a' := ?_) (ls 18 16383) rfl rfl (by kernel_rfl) (fun _ _ _ h => h) (Or.inl ⟨by rfl, ?_⟩) ?_ ?_
          rotate_left
          · intro w'; go_simp; with_reducible rfl
          rotate_left
          · simp only [Act.put, List.setIfInBounds_toArray, List.set_cons_zero, List.set_cons_succ, i64_w, i32_w]; rfl
          refine pure_ (i := 14) (N := some 81) (v := ?_) (a' := ?_) (ls 18 32767) rfl rfl (by kernel_rfl) (fun _ _ _ h => h) (Or.inl ⟨by rfl, ?_⟩) ?_ ?_
          rotate_left
          · intro w'; go_simp; with_reducible rfl
          rotate_left
          · simp only [Act.put, List.setIfInBounds_toArray, List.set_cons_zero, List.set_cons_succ, i64_w, i32_w]; rfl
          refine pure_ (i := 15) (N := some 15) (v := ?_) (a' := ?_) (ls 18 65535) rfl rfl (by kernel_rfl) (fun _ _ _ h => h) (Or.inl ⟨by rfl, ?_⟩) ?_ ?_
          rotate_left
          · intro w'; go_simp; with_reducible rfl
          rotate_left
          · simp only [Act.put, List.setIfInBounds_toArray, List.set_cons_zero, List.set_cons_succ, i64_w, i32_w]; rfl
          refine pure_ (i := 16) (N := some 16) (v := ?_) (a' := ?_) (ls 18 131071) rfl rfl (by kernel_rfl) (fun _ _ _ h => h) (Or.inl ⟨by rfl, ?_⟩) ?_ ?_
          rotate_left
          · intro w'; go_simp; with_reducible rfl
          rotate_left
          · simp only [Act.put, List.setIfInBounds_toArray, List.set_cons_zero, List.set_cons_succ, i64_w, i32_w]; rfl
          refine pure_ (i := 17) (N := some 17) (v := ?_) (a' := ?_) (ls 18 262143) rfl rfl (by kernel_rfl) (fun _ _ _ h => h) (Or.inl ⟨by rfl, ?_⟩) ?_ ?_
          rotate_left
          · intro w'; go_simp; with_reducible rfl
          rotate_left
          · simp only [Act.put, List.setIfInBounds_toArray, List.set_cons_zero, List.set_cons_succ, i64_w, i32_w]; rfl
          refine done_ (by kernel_rfl) ?_
          have E1 := Lib.hid (EX.out.trans ((Ext.refl _ _).drew.trans x10 (fun _ _ h => h)) (fun _ _ h => h))
          have u0 := (x10.cell (p := ⟨k, 0, none⟩) yl (fun h => h)).trans y0
          have u1 := (x10.cell (p := ⟨k, 1, none⟩) yl (fun h => h)).trans y1
          have ul : k < W10.heap.size := Nat.lt_of_lt_of_le yl x10.size
          clear x10 y0 y1 yl y8 y8l y5 y5l ca cb hlb ME hHeld
          dsimp only [Exit.then]
          rcases ok
          · have NX := Lib.hid (show (if xa < j + 1 then id else -1) = mv from by
              rcases OK.out with ⟨_, h2⟩ | ⟨h2, _⟩
              · obtain ⟨_, va', vb', h3, h4, h5⟩ := step_at HN.out
                have hne : j ≠ xa := fun e => by
                  subst e
                  rw [LA.out.1] at h3; rw [LA.out.2] at h4
                  cases h3; cases h4
                  rw [h2] at h5; cases h5
                rw [← MV.out]
                by_cases hh : xa < j
                · rw [if_pos hh, if_pos (by omega)]
                · rw [if_neg hh, if_neg (by omega)]
              · cases h2)
            gi_wp2_with fail
            gi_roundg (n - (j + 1))
            case measure => omega
            case rel => exact ⟨j + 1, rfl, by go_num, by omega, by rw [NX.out], E1.out⟩
          · obtain ⟨r', hR, hm⟩ : ∃ r' : Nat, R = r' ∧ mergeOf d.ms va vb = some (r', I) := by
              rcases OK.out with ⟨h2, _⟩ | ⟨_, h2⟩
              · cases h2
              · exact h2
            subst hR
            obtain ⟨g1, g2, g3⟩ := LW.out r' I hm
            try dsimp only at g1 g2 g3
            have c1 : decide (r' < xr) = false := decide_eq_false (by omega)
            have c2 : decide ((r' : Int) < (xr : Int)) = false := decide_eq_false (by omega)
            by_cases he : r' = xr
            · have c3 : ((r' : Int) == (xr : Int)) = true := beq_iff_eq.2 (by omega)
              have c4 : decide (j < xa) = false := decide_eq_false (by have := g2 he; omega)
              have c5 : decide ((j : Int) < (xa : Int)) = false := decide_eq_false (by have := g2 he; omega)
              by_cases hj2 : j = xa
              · have c6 : ((j : Int) == (xa : Int)) = true := beq_iff_eq.2 (by omega)
                have NX := Lib.hid (show (if xa < j + 1 then id else -1) = I from by rw [if_pos (by omega)]; exact (g3 hj2).2.symm)
                clear hj2 he hm g1 g2 g3
                gi_wp2_with fail
                gi_roundg (n - (j + 1))
                case measure => omega
                case rel => exact ⟨j + 1, rfl, by go_num, by omega, by rw [NX.out], E1.out⟩
              · have c6 : ((j : Int) == (xa : Int)) = false := beq_eq_false_iff_ne.2 (by omega)
                have NX := Lib.hid (show (if xa < j + 1 then id else -1) = mv from by
                  rw [← MV.out]
                  by_cases hh : xa < j
                  · rw [if_pos hh, if_pos (by omega)]
                  · rw [if_neg hh, if_neg (by omega)])
                clear hj2 he hm g1 g2 g3
                gi_wp2_with fail
                gi_roundg (n - (j + 1))
                case measure => omega
                case rel => exact ⟨j + 1, rfl, by go_num, by omega, by rw [NX.out], E1.out⟩
            · have c3 : ((r' : Int) == (xr : Int)) = false := beq_eq_false_iff_ne.2 (by omega)
              have hne : j ≠ xa := fun e => he (g3 e).1
              have c6 : ((j : Int) == (xa : Int)) = false := beq_eq_false_iff_ne.2 (by omega)
              have NX := Lib.hid (show (if xa < j + 1 then id else -1) = mv from by
                rw [← MV.out]
                by_cases hh : xa < j
                · rw [if_pos hh, if_pos (by omega)]
                · rw [if_neg hh, if_neg (by omega)])
              clear hne he hm g1 g2 g3
              gi_wp2_with fail
              gi_roundg (n - (j + 1))
              case measure => omega
              case rel => exact ⟨j + 1, rfl, by go_num, by omega, by rw [NX.out], E1.out⟩
        · have i1 : ¬ ((j : Int) + 1 < (n : Int)) := by omega
          have MI := Lib.hid (show mv = id from by rw [← MV.out, if_pos (by have := HL.out; have := HJ.out; omega)])
          have h0 : ¬ (mv < 0) := by
            rw [MI.out]
            obtain ⟨_, va', vb', _, _, h5⟩ := step_at HN.out
            obtain ⟨z, hz, _, _, hzi, _⟩ := mergeOf_some h5
            have := (D.out.idr _ _ hz).1
            omega
          have h00 : decide (mv < 0) = false := decide_eq_false h0
          obtain rfl := MI.out.symm
          obtain ⟨la, hla⟩ : ∃ la, pl = some ⟨la, 0, none⟩ := arr_some HS.out.ar (by have := NN.out; have := HL.out; omega)
          have CAP := (arr_cap HS.out.ar).1
          obtain ⟨u, hu⟩ : ∃ u, xa + 2 = u := ⟨_, rfl⟩
          have hL := HL.out
          have hw2 : IntKind.i64.wrap ((xa : Int) + 2) = (u : Int) := by rw [IntWalk.i64_in _ (by omega)]; omega
          have cn : n ≤ cl := by have := NN.out; omega
          have m1 : (xa : Int) ≤ (cl : Int) := by omega
          have m0 : (0 : Int) ≤ (xa : Int) := by omega
          have u1 : (u : Int) ≤ (n : Int) := by omega
          have u0' : (0 : Int) ≤ (u : Int) := by omega
          have c1' : (n : Int) ≤ (cl : Int) := by omega
          rw [hla] at y8
          have RD := Lib.hid (show Rd eI wr (some ⟨la, 0, none⟩) lst from by have := (ints_rd HS.out.ar).on EX.out; rwa [hla] at this)
          have UU := Lib.hid hu
          have TL := Lib.hid (show (Chain.ints (lst.take xa)).length = xa from by unfold Chain.ints; rw [List.length_map, List.length_take]; have := NN.out; omega)
          have B8r := Lib.hid (EX.out.obj HS.out.x8 (fun h => h))
          have B10r := Lib.hid (EX.out.obj HS.out.x10 (fun h => h))
          have B11r := Lib.hid (EX.out.obj HS.out.x11 (fun h => h))
          have KN := Lib.hid (show k ≠ b8 ∧ True from ⟨(fun e => by have h1 := HK.out; have h2 : W9.heap[b8]? = _ := HS.out.x8; rw [e, h2] at h1; cases h1), trivial⟩)
          have CE := Lib.hid (show ∀ w', Ext (fun _ => False) wr w' → (w'.cell? ⟨b8, 0, none⟩ = some (.slice (some ⟨la, 0, none⟩) n cl) ∧ w'.cell? ⟨k, 1, none⟩ = some (.int .i64 (xa : Int)) ∧ Ext (fun _ => False) wr w') from fun w' e => ⟨(e.cell (p := ⟨b8, 0, none⟩) y8l (fun h => h)).trans y8, (e.cell (p := ⟨k, 1, none⟩) yl (fun h => h)).trans y1, e⟩)
          have CN := Lib.hid cn
          clear hla CAP hL
          by_cases hcap : cl = u
          · have DL := Lib.hid (show (Chain.ints (lst.drop cl)).length = 0 from by unfold Chain.ints; rw [List.length_map, List.length_drop]; have := NN.out; omega)
            have DZ := Lib.hid (show Chain.ints (lst.drop cl) = [] from by rw [List.drop_of_length_le (by have := NN.out; omega)]; rfl)
            subst hcap
            clear hu
            gi_upto_region 26 with (fail)
            refine startW_ (m := 16) (S := fun w' => w'.cell? ⟨b8, 0, none⟩ = some (.slice (some ⟨la, 0, none⟩) n cl) ∧ w'.cell? ⟨k, 1, none⟩ = some (.int .i64 (xa : Int)) ∧ Ext (fun _ => False) wr w') (ds := [15]) (ls 16 0) (by kernel_rfl) rfl (fun ⟨_, _, h⟩ => h) rfl rfl (CE.out _ (Ext.refl _ _).drew) (fun hHeld => ?_)
            refine pure_ (i := 2) (N := some 119) (v := ?_) (a' := ?_) (ls 16 4) rfl rfl (by kernel_rfl) (fun _ _ _ h => h) (Or.inl ⟨by rfl, ?_⟩) ?_ ?_
            rotate_left
            · intro w'; go_simp; with_reducible rfl
            rotate_left
            · simp only [Act.put, List.setIfInBounds_toArray, List.set_cons_zero, List.set_cons_succ, i64_w, i32_w]; rfl
            refine pure_ (i := 6) (N := some 123) (v := ?_) (a' := ?_) (ls 16 68) rfl rfl (by kernel_rfl) (fun _ _ _ h => h) (Or.inl ⟨by rfl, ?_⟩) ?_ ?_
            rotate_left
            · intro w'; go_simp; with_reducible rfl
            rotate_left
            · simp only [Act.put, List.setIfInBounds_toArray, List.set_cons_zero, List.set_cons_succ, i64_w, i32_w]; rfl
            refine pure_ (i := 10) (N := some 127) (v := ?_) (a' := ?_) (ls 16 1092) rfl rfl (by kernel_rfl) (fun _ _ _ h => h) (Or.inl ⟨by rfl, ?_⟩) ?_ ?_
            rotate_left
            · intro w'; go_simp; with_reducible rfl
            rotate_left
            · simp only [Act.put, List.setIfInBounds_toArray, List.set_cons_zero, List.set_cons_succ, i64_w, i32_w]; rfl
            refine take_ (i := 1) (N := some 118) (v := ?_) (a' := ?_) (ls 16 1094) rfl rfl (by kernel_rfl) (fun _ _ _ h => h) (Or.inl ⟨by rfl, ?_⟩) hHeld ?_ ?_
            rotate_left
            · rintro w' ⟨s0, s1, s2⟩; go_simp; with_reducible rfl
            rotate_left
            · simp only [Act.put, List.setIfInBounds_toArray, List.set_cons_zero, List.set_cons_succ, i64_w, i32_w]; rfl
            refine take_ (i := 3) (N := some 120) (v := ?_) (a' := ?_) (ls 16 1102) rfl rfl (by kernel_rfl) (fun _ _ _ h => h) (Or.inl ⟨by rfl, ?_⟩) hHeld ?_ ?_
            rotate_left
            · rintro w' ⟨s0, s1, s2⟩; go_simp; with_reducible rfl
            rotate_left
            · simp only [Act.put, List.setIfInBounds_toArray, List.set_cons_zero, List.set_cons_succ, i64_w, i32_w]; rfl
            refine pure_ (i := 4) (N := some 121) (v := ?_) (a' := ?_) (ls 16 1118) rfl rfl (by kernel_rfl) (fun _ _ _ h => h) (Or.inl ⟨by rfl, ?_⟩) ?_ ?_
            rotate_left
            · intro w'; go_simp; with_reducible rfl
            rotate_left
            · simp only [Act.put, List.setIfInBounds_toArray, List.set_cons_zero, List.set_cons_succ, i64_w, i32_w]; rfl
            refine take_ (i := 9) (N := some 126) (v := ?_) (a' := ?_) (ls 16 1630) rfl rfl (by kernel_rfl) (fun _ _ _ h => h) (Or.inl ⟨by rfl, ?_⟩) hHeld ?_ ?_
            rotate_left
            · rintro w' ⟨s0, s1, s2⟩; go_simp; with_reducible rfl
            rotate_left
            · simp only [Act.put, List.setIfInBounds_toArray, List.set_cons_zero, List.set_cons_succ, i64_w, i32_w]; rfl
            refine take_ (i := 11) (N := some 128) (v := ?_) (a' := ?_) (ls 16 3678) rfl rfl (by kernel_rfl) (fun _ _ _ h => h) (Or.inl ⟨by rfl, ?_⟩) hHeld ?_ ?_
            rotate_left
            · rintro w' ⟨s0, s1, s2⟩; go_simp; with_reducible rfl
            rotate_left
            · simp only [Act.put, List.setIfInBounds_toArray, List.set_cons_zero, List.set_cons_succ, i64_w, i32_w]; rfl
            refine pure_ (i := 12) (N := some 129) (v := ?_) (a' := ?_) (ls 16 7774) rfl rfl (by kernel_rfl) (fun _ _ _ h => h) (Or.inl ⟨by rfl, ?_⟩) ?_ ?_
            rotate_left
            · intro w'; go_simp; with_reducible rfl
            rotate_left
            · simp only [Act.put, List.setIfInBounds_toArray, List.set_cons_zero, List.set_cons_succ, i64_w, i32_w]; rfl
            refine pure_ (i := 13) (N := some 130) (v := ?_) (a' := ?_) (ls 16 15966) rfl rfl (by kernel_rfl) (fun _ _ _ h => h) (Or.inl ⟨by rfl, ?_⟩) ?_ ?_
            rotate_left
            · intro w'; go_simp; with_reducible rfl
            rotate_left
            · simp only [Act.put, List.setIfInBounds_toArray, List.set_cons_zero, List.set_cons_succ, i64_w, i32_w]; rfl
            refine two_ (i := 0) (j := 7) (Ni := some 117) (Nj := some 124) (ls 16 15967) (ls 16 16094) rfl rfl rfl rfl (by kernel_rfl) (by decide) (by decide) (fun K hK => ?_) (fun K hK => ?_)
            · refine value_ (w1 := ?_) (v := ?_) (by rfl) rfl ?_ ?_
              rotate_left 2
              · go_simp
                constructor
                · rfl
                · rfl
              refine hK.out _ _ (by obtain ⟨s0, s1, s2⟩ := hHeld; exact ⟨cell_alloc s0, cell_alloc s1, s2.alloc _⟩) (fun hHeld => ?_)
              clear hK K
              refine norm_ (a' := ?_) ?_ ?_
              rotate_left
              · simp only [Act.put, List.setIfInBounds_toArray, List.set_cons_zero, List.set_cons_succ, i64_w, i32_w]; rfl
              refine two_ (i := 5) (j := 7) (Ni := some 122) (Nj := some 124) (ls 16 15999) (ls 16 16095) rfl rfl rfl rfl (by kernel_rfl) (by decide) (by decide) (fun K hK => ?_) (fun K hK => ?_)
              · refine appI_step (wr := wr) (N := some 122) rfl (by rfl) (.tmp 117) (.tmp 121) rfl (some ⟨wr.drew.heap.size, 0, none⟩) (0) 0 ([]) (by kernel_rfl) (some ⟨la, 0, none⟩) (xa) cl (by kernel_rfl) (Chain.ints (lst.take xa)) TL.out (rd_take (RD.out.on (by repeat (first | exact Ext.refl _ _ | refine Ext.drew ?_ | refine Ext.alloc ?_ _))) xa) (fun h => by cases h) (ints_one _) (by repeat (first | exact Ext.refl _ _ | refine Ext.drew ?_ | refine Ext.alloc ?_ _)) (arr_empty wr.drew 3 1) (fun k hk => by cases hk; show wr.heap.size ≤ _; first | exact Nat.le_refl _ | exact Nat.le_succ _) (by have := HL.out; omega) ?_
                intro p5 c5 w5 hA hE hX hF
                have A5 := Lib.hid hA; have X5 := Lib.hid hE; have Y5 := Lib.hid hX; have F5 := Lib.hid hF; clear hA hE hX hF
                refine hK.out _ _ (CE.out _ X5.out) (fun hHeld => ?_)
                clear hK K
                refine norm_ (a' := ?_) ?_ ?_
                rotate_left
                · simp only [Act.put, List.setIfInBounds_toArray, List.set_cons_zero, List.set_cons_succ, i64_w, i32_w]; rfl
                refine one_ (i := 7) (N := some 124) (ls 16 16127) rfl rfl (by kernel_rfl) (by decide) (fun K hK => ?_)
                refine value_ (w1 := ?_) (v := ?_) (by rfl) rfl ?_ ?_
                rotate_left 2
                · go_simp
                  constructor
                  · rfl
                  · rfl
                refine hK.out _ _ (by obtain ⟨s0, s1, s2⟩ := hHeld; exact ⟨cell_alloc s0, cell_alloc s1, s2.alloc _⟩) (fun hHeld => ?_)
                clear hK K
                refine norm_ (a' := ?_) ?_ ?_
                rotate_left
                · simp only [Act.put, List.setIfInBounds_toArray, List.set_cons_zero, List.set_cons_succ, i64_w, i32_w]; rfl
                refine one_ (i := 8) (N := some 125) (ls 16 16383) rfl rfl (by kernel_rfl) (by decide) (fun K hK => ?_)
                refine appI_step (wr := wr) (N := some 125) rfl (by rfl) (.tmp 122) (.tmp 124) rfl p5 (0 + xa) c5 ([] ++ Chain.ints (lst.take xa)) (by kernel_rfl) (some ⟨w5.heap.size, 0, none⟩) (1) 1 (by kernel_rfl) ([.int .i64 id]) rfl (one_news (heap_alloc_new w5 (.cells #[.int .i64 id] 3))) (fun h => by cases h) (fun u hu => by simp at hu; subst hu; rfl) (X5.out.alloc _) (arr_ext A5.out ((Ext.refl (fun _ => False) _).alloc _) (fun _ _ h => h)) F5.out (by have := HL.out; omega) ?_
                intro p8 c8 w8 hA hE hX hF
                have A8 := Lib.hid hA; have X8 := Lib.hid hE; have Y8 := Lib.hid hX; have F8 := Lib.hid hF; clear hA hE hX hF
                refine hK.out _ _ (CE.out _ X8.out) (fun hHeld => ?_)
                clear hK K
                refine norm_ (a' := ?_) ?_ ?_
                rotate_left
                · simp only [Act.put, List.setIfInBounds_toArray, List.set_cons_zero, List.set_cons_succ, i64_w, i32_w]; rfl
                refine one_ (i := 14) (N := some 131) (ls 16 32767) rfl rfl (by kernel_rfl) (by decide) (fun K hK => ?_)
                refine appI_step (wr := wr) (N := some 131) rfl (by rfl) (.tmp 125) (.tmp 130) rfl p8 (0 + xa + 1) c8 (([] ++ Chain.ints (lst.take xa)) ++ [.int .i64 id]) (by kernel_rfl) (some ⟨la, 0, none⟩) (0) 0 (by kernel_rfl) (Chain.ints (lst.drop cl)) DL.out (fun ad e j v hv => by rw [DZ.out] at hv; simp at hv) (fun h => by cases h) (ints_one _) X8.out A8.out F8.out (by have := HL.out; omega) ?_
                intro p14 c14 w14 hA hE hX hF
                have A14 := Lib.hid hA; have X14 := Lib.hid hE; have Y14 := Lib.hid hX; have F14 := Lib.hid hF; clear hA hE hX hF
                refine hK.out _ _ (CE.out _ X14.out) (fun hHeld => ?_)
                clear hK K
                refine norm_ (a' := ?_) ?_ ?_
                rotate_left
                · simp only [Act.put, List.setIfInBounds_toArray, List.set_cons_zero, List.set_cons_succ, i64_w, i32_w]; rfl
                have t8 := X14.out.cell (p := ⟨b8, 0, none⟩) y8l (fun h => h) |>.trans y8
                have f8 : w14.frozen? ⟨b8, 0, none⟩ = false := Boxed.frozen (X14.out.obj B8r.out (fun h => h))
                have l8 : b8 < w14.heap.size := Nat.lt_of_lt_of_le y8l X14.out.size
                refine last_ (i := 15) (N := none) (ls 16 65535) rfl rfl (by kernel_rfl) (by decide) (fun K hK => ?_)
                refine skip_ (w1 := ?_) (by rfl) rfl ?_ ?_
                rotate_left 1
                · go_simp; rfl
                refine hK.out _ _ ?_
                clear hK K
                refine done_ (by kernel_rfl) ?_
                dsimp only [Exit.then]
                obtain ⟨W15, hW15⟩ : ∃ W15, w14.setCell ⟨b8, 0, none⟩ (.slice p14 (xa + 1) c14) = W15 := ⟨_, rfl⟩
                have x15 : Ext (fun j => j = b8) w14 W15 := by rw [← hW15]; exact (Ext.refl (fun j => j = b8) w14).setCell (p := ⟨b8, 0, none⟩) (fun _ => rfl) _
                have z0 := (x15.cell (p := ⟨k, 0, none⟩) (Nat.lt_of_lt_of_le yl X14.out.size) (fun h => KN.out.1 h)).trans ((X14.out.cell (p := ⟨k, 0, none⟩) yl (fun h => h)).trans y0)
                have zl := Nat.lt_of_lt_of_le (Nat.lt_of_lt_of_le yl X14.out.size) x15.size
                have ZB10 := Lib.hid (x15.obj (X14.out.obj B10r.out (fun h => h)) (fun h => by have := NE.out; omega))
                have ZB11 := Lib.hid (x15.obj (X14.out.obj B11r.out (fun h => h)) (fun h => by have := NE.out; omega))
                have q10 := Boxed.cell ZB10.out
                have g10 := Boxed.frozen ZB10.out
                have r10 := Boxed.lt ZB10.out
                have q11 := Boxed.cell ZB11.out
                have g11 := Boxed.frozen ZB11.out
                have r11 := Boxed.lt ZB11.out
                rw [hW15]
                clear t8 f8 l8 x15 y8 y8l y0 y1 yl y5 y5l h0 h00 hHeld
                try clear hw2 cn m1 m0 u1 u0' c1'
                try clear i1
                try clear hlt
                try clear hw
                try clear hl1 hlen
                have hwp : IntKind.i64.wrap ((pre.length : Int) + 1) = (pre.length : Int) + 1 := IntWalk.i64_in _ (by have := HS.out.ln; have := FZ.out; omega)
                gi_wp2_with fail
                try rw [← hW15]
                have CT := step_cut HN.out
                try dsimp only at CT
                exact ss_end (x := (xr, xa)) (id := id) HS.out D.out HN.out OW.out (EX.out.trans X14.out (fun _ _ h => h)) (by have := A14.out; rwa [Nat.zero_add, Nat.add_zero] at this) (CT.2.trans (by have := NN.out; have := UU.out; have := CN.out; omega)) (CT.1.trans (by rw [UU.out])) (fun k hk => by have := F14.out k hk; have := EX.out.size; omega)
              · refine value_ (w1 := ?_) (v := ?_) (by rfl) rfl ?_ ?_
                rotate_left 2
                · go_simp
                  constructor
                  · rfl
                  · rfl
                refine hK.out _ _ (by obtain ⟨s0, s1, s2⟩ := hHeld; exact ⟨cell_alloc s0, cell_alloc s1, s2.alloc _⟩) (fun hHeld => ?_)
                clear hK K
                refine norm_ (a' := ?_) ?_ ?_
                rotate_left
                · simp only [Act.put, List.setIfInBounds_toArray, List.set_cons_zero, List.set_cons_succ, i64_w, i32_w]; rfl
                refine one_ (i := 5) (N := some 122) (ls 16 16127) rfl rfl (by kernel_rfl) (by decide) (fun K hK => ?_)
                refine appI_step (wr := wr) (N := some 122) rfl (by rfl) (.tmp 117) (.tmp 121) rfl (some ⟨wr.drew.heap.size, 0, none⟩) (0) 0 ([]) (by kernel_rfl) (some ⟨la, 0, none⟩) (xa) cl (by kernel_rfl) (Chain.ints (lst.take xa)) TL.out (rd_take (RD.out.on (by repeat (first | exact Ext.refl _ _ | refine Ext.drew ?_ | refine Ext.alloc ?_ _))) xa) (fun h => by cases h) (ints_one _) (by repeat (first | exact Ext.refl _ _ | refine Ext.drew ?_ | refine Ext.alloc ?_ _)) (arr_ext (arr_empty wr.drew 3 1) ((Ext.refl (fun _ => False) _).alloc _) (fun _ _ h => h)) (fun k hk => by cases hk; show wr.heap.size ≤ _; first | exact Nat.le_refl _ | exact Nat.le_succ _) (by have := HL.out; omega) ?_
                intro p5 c5 w5 hA hE hX hF
                have A5 := Lib.hid hA; have X5 := Lib.hid hE; have Y5 := Lib.hid hX; have F5 := Lib.hid hF; clear hA hE hX hF
                refine hK.out _ _ (CE.out _ X5.out) (fun hHeld => ?_)
                clear hK K
                refine norm_ (a' := ?_) ?_ ?_
                rotate_left
                · simp only [Act.put, List.setIfInBounds_toArray, List.set_cons_zero, List.set_cons_succ, i64_w, i32_w]; rfl
                refine one_ (i := 8) (N := some 125) (ls 16 16383) rfl rfl (by kernel_rfl) (by decide) (fun K hK => ?_)
                refine appI_step (wr := wr) (N := some 125) rfl (by rfl) (.tmp 122) (.tmp 124) rfl p5 (0 + xa) c5 ([] ++ Chain.ints (lst.take xa)) (by kernel_rfl) (some ⟨wr.heap.size + 1, 0, none⟩) (1) 1 (by kernel_rfl) ([.int .i64 id]) rfl (one_news (Y5.out.obj (show ((wr.drew.alloc (.cells #[] 3)).alloc (.cells #[.int .i64 id] 3)).heap[wr.heap.size + 1]? = some (.cells #[.int .i64 id] 3) from by have h := heap_alloc_new (wr.drew.alloc (.cells #[] 3)) (.cells #[.int .i64 id] 3); rw [World.size_alloc] at h; exact h) (fun e => by have e2 : wr.heap.size = wr.heap.size + 1 := Option.some.inj e; omega))) (fun h => by cases h) (fun u hu => by simp at hu; subst hu; rfl) X5.out A5.out F5.out (by have := HL.out; omega) ?_
                intro p8 c8 w8 hA hE hX hF
                have A8 := Lib.hid hA; have X8 := Lib.hid hE; have Y8 := Lib.hid hX; have F8 := Lib.hid hF; clear hA hE hX hF
                refine hK.out _ _ (CE.out _ X8.out) (fun hHeld => ?_)
                clear hK K
                refine norm_ (a' := ?_) ?_ ?_
                rotate_left
                · simp only [Act.put, List.setIfInBounds_toArray, List.set_cons_zero, List.set_cons_succ, i64_w, i32_w]; rfl
                refine one_ (i := 14) (N := some 131) (ls 16 32767) rfl rfl (by kernel_rfl) (by decide) (fun K hK => ?_)
                refine appI_step (wr := wr) (N := some 131) rfl (by rfl) (.tmp 125) (.tmp 130) rfl p8 (0 + xa + 1) c8 (([] ++ Chain.ints (lst.take xa)) ++ [.int .i64 id]) (by kernel_rfl) (some ⟨la, 0, none⟩) (0) 0 (by kernel_rfl) (Chain.ints (lst.drop cl)) DL.out (fun ad e j v hv => by rw [DZ.out] at hv; simp at hv) (fun h => by cases h) (ints_one _) X8.out A8.out F8.out (by have := HL.out; omega) ?_
                intro p14 c14 w14 hA hE hX hF
                have A14 := Lib.hid hA; have X14 := Lib.hid hE; have Y14 := Lib.hid hX; have F14 := Lib.hid hF; clear hA hE hX hF
                refine hK.out _ _ (CE.out _ X14.out) (fun hHeld => ?_)
                clear hK K
                refine norm_ (a' := ?_) ?_ ?_
                rotate_left
                · simp only [Act.put, List.setIfInBounds_toArray, List.set_cons_zero, List.set_cons_succ, i64_w, i32_w]; rfl
                have t8 := X14.out.cell (p := ⟨b8, 0, none⟩) y8l (fun h => h) |>.trans y8
                have f8 : w14.frozen? ⟨b8, 0, none⟩ = false := Boxed.frozen (X14.out.obj B8r.out (fun h => h))
                have l8 : b8 < w14.heap.size := Nat.lt_of_lt_of_le y8l X14.out.size
                refine last_ (i := 15) (N := none) (ls 16 65535) rfl rfl (by kernel_rfl) (by decide) (fun K hK => ?_)
                refine skip_ (w1 := ?_) (by rfl) rfl ?_ ?_
                rotate_left 1
                · go_simp; rfl
                refine hK.out _ _ ?_
                clear hK K
                refine done_ (by kernel_rfl) ?_
                dsimp only [Exit.then]
                obtain ⟨W15, hW15⟩ : ∃ W15, w14.setCell ⟨b8, 0, none⟩ (.slice p14 (xa + 1) c14) = W15 := ⟨_, rfl⟩
                have x15 : Ext (fun j => j = b8) w14 W15 := by rw [← hW15]; exact (Ext.refl (fun j => j = b8) w14).setCell (p := ⟨b8, 0, none⟩) (fun _ => rfl) _
                have z0 := (x15.cell (p := ⟨k, 0, none⟩) (Nat.lt_of_lt_of_le yl X14.out.size) (fun h => KN.out.1 h)).trans ((X14.out.cell (p := ⟨k, 0, none⟩) yl (fun h => h)).trans y0)
                have zl := Nat.lt_of_lt_of_le (Nat.lt_of_lt_of_le yl X14.out.size) x15.size
                have ZB10 := Lib.hid (x15.obj (X14.out.obj B10r.out (fun h => h)) (fun h => by have := NE.out; omega))
                have ZB11 := Lib.hid (x15.obj (X14.out.obj B11r.out (fun h => h)) (fun h => by have := NE.out; omega))
                have q10 := Boxed.cell ZB10.out
                have g10 := Boxed.frozen ZB10.out
                have r10 := Boxed.lt ZB10.out
                have q11 := Boxed.cell ZB11.out
                have g11 := Boxed.frozen ZB11.out
                have r11 := Boxed.lt ZB11.out
                rw [hW15]
                clear t8 f8 l8 x15 y8 y8l y0 y1 yl y5 y5l h0 h00 hHeld
                try clear hw2 cn m1 m0 u1 u0' c1'
                try clear i1
                try clear hlt
                try clear hw
                try clear hl1 hlen
                have hwp : IntKind.i64.wrap ((pre.length : Int) + 1) = (pre.length : Int) + 1 := IntWalk.i64_in _ (by have := HS.out.ln; have := FZ.out; omega)
                gi_wp2_with fail
                try rw [← hW15]
                have CT := step_cut HN.out
                try dsimp only at CT
                exact ss_end (x := (xr, xa)) (id := id) HS.out D.out HN.out OW.out (EX.out.trans X14.out (fun _ _ h => h)) (by have := A14.out; rwa [Nat.zero_add, Nat.add_zero] at this) (CT.2.trans (by have := NN.out; have := UU.out; have := CN.out; omega)) (CT.1.trans (by rw [UU.out])) (fun k hk => by have := F14.out k hk; have := EX.out.size; omega)
            · refine value_ (w1 := ?_) (v := ?_) (by rfl) rfl ?_ ?_
              rotate_left 2
              · go_simp
                constructor
                · rfl
                · rfl
              refine hK.out _ _ (by obtain ⟨s0, s1, s2⟩ := hHeld; exact ⟨cell_alloc s0, cell_alloc s1, s2.alloc _⟩) (fun hHeld => ?_)
              clear hK K
              refine norm_ (a' := ?_) ?_ ?_
              rotate_left
              · simp only [Act.put, List.setIfInBounds_toArray, List.set_cons_zero, List.set_cons_succ, i64_w, i32_w]; rfl
              refine one_ (i := 0) (N := some 117) (ls 16 16095) rfl rfl (by kernel_rfl) (by decide) (fun K hK => ?_)
              refine value_ (w1 := ?_) (v := ?_) (by rfl) rfl ?_ ?_
              rotate_left 2
              · go_simp
                constructor
                · rfl
                · rfl
              refine hK.out _ _ (by obtain ⟨s0, s1, s2⟩ := hHeld; exact ⟨cell_alloc s0, cell_alloc s1, s2.alloc _⟩) (fun hHeld => ?_)
              clear hK K
              refine norm_ (a' := ?_) ?_ ?_
              rotate_left
              · simp only [Act.put, List.setIfInBounds_toArray, List.set_cons_zero, List.set_cons_succ, i64_w, i32_w]; rfl
              refine one_ (i := 5) (N := some 122) (ls 16 16127) rfl rfl (by kernel_rfl) (by decide) (fun K hK => ?_)
              refine appI_step (wr := wr) (N := some 122) rfl (by rfl) (.tmp 117) (.tmp 121) rfl (some ⟨wr.heap.size + 1, 0, none⟩) (0) 0 ([]) (by kernel_rfl) (some ⟨la, 0, none⟩) (xa) cl (by kernel_rfl) (Chain.ints (lst.take xa)) TL.out (rd_take (RD.out.on (by repeat (first | exact Ext.refl _ _ | refine Ext.drew ?_ | refine Ext.alloc ?_ _))) xa) (fun h => by cases h) (ints_one _) (by repeat (first | exact Ext.refl _ _ | refine Ext.drew ?_ | refine Ext.alloc ?_ _)) (by have h := arr_empty (wr.drew.alloc (.cells #[.int .i64 id] 3)) 3 1; rw [World.size_alloc] at h; exact h) (fun k hk => by cases hk; show wr.heap.size ≤ _; first | exact Nat.le_refl _ | exact Nat.le_succ _) (by have := HL.out; omega) ?_
              intro p5 c5 w5 hA hE hX hF
              have A5 := Lib.hid hA; have X5 := Lib.hid hE; have Y5 := Lib.hid hX; have F5 := Lib.hid hF; clear hA hE hX hF
              refine hK.out _ _ (CE.out _ X5.out) (fun hHeld => ?_)
              clear hK K
              refine norm_ (a' := ?_) ?_ ?_
              rotate_left
              · simp only [Act.put, List.setIfInBounds_toArray, List.set_cons_zero, List.set_cons_succ, i64_w, i32_w]; rfl
              refine one_ (i := 8) (N := some 125) (ls 16 16383) rfl rfl (by kernel_rfl) (by decide) (fun K hK => ?_)
              refine appI_step (wr := wr) (N := some 125) rfl (by rfl) (.tmp 122) (.tmp 124) rfl p5 (0 + xa) c5 ([] ++ Chain.ints (lst.take xa)) (by kernel_rfl) (some ⟨wr.drew.heap.size, 0, none⟩) (1) 1 (by kernel_rfl) ([.int .i64 id]) rfl (one_news (Y5.out.obj (blk_alloc (heap_alloc_new wr.drew (.cells #[.int .i64 id] 3)) _) (fun e => by have e2 : wr.heap.size + 1 = wr.heap.size := Option.some.inj e; omega))) (fun h => by cases h) (fun u hu => by simp at hu; subst hu; rfl) X5.out A5.out F5.out (by have := HL.out; omega) ?_
              intro p8 c8 w8 hA hE hX hF
              have A8 := Lib.hid hA; have X8 := Lib.hid hE; have Y8 := Lib.hid hX; have F8 := Lib.hid hF; clear hA hE hX hF
              refine hK.out _ _ (CE.out _ X8.out) (fun hHeld => ?_)
              clear hK K
              refine norm_ (a' := ?_) ?_ ?_
              rotate_left
              · simp only [Act.put, List.setIfInBounds_toArray, List.set_cons_zero, List.set_cons_succ, i64_w, i32_w]; rfl
              refine one_ (i := 14) (N := some 131) (ls 16 32767) rfl rfl (by kernel_rfl) (by decide) (fun K hK => ?_)
              refine appI_step (wr := wr) (N := some 131) rfl (by rfl) (.tmp 125) (.tmp 130) rfl p8 (0 + xa + 1) c8 (([] ++ Chain.ints (lst.take xa)) ++ [.int .i64 id]) (by kernel_rfl) (some ⟨la, 0, none⟩) (0) 0 (by kernel_rfl) (Chain.ints (lst.drop cl)) DL.out (fun ad e j v hv => by rw [DZ.out] at hv; simp at hv) (fun h => by cases h) (ints_one _) X8.out A8.out F8.out (by have := HL.out; omega) ?_
              intro p14 c14 w14 hA hE hX hF
              have A14 := Lib.hid hA; have X14 := Lib.hid hE; have Y14 := Lib.hid hX; have F14 := Lib.hid hF; clear hA hE hX hF
              refine hK.out _ _ (CE.out _ X14.out) (fun hHeld => ?_)
              clear hK K
              refine norm_ (a' := ?_) ?_ ?_
              rotate_left
              · simp only [Act.put, List.setIfInBounds_toArray, List.set_cons_zero, List.set_cons_succ, i64_w, i32_w]; rfl
              have t8 := X14.out.cell (p := ⟨b8, 0, none⟩) y8l (fun h => h) |>.trans y8
              have f8 : w14.frozen? ⟨b8, 0, none⟩ = false := Boxed.frozen (X14.out.obj B8r.out (fun h => h))
              have l8 : b8 < w14.heap.size := Nat.lt_of_lt_of_le y8l X14.out.size
              refine last_ (i := 15) (N := none) (ls 16 65535) rfl rfl (by kernel_rfl) (by decide) (fun K hK => ?_)
              refine skip_ (w1 := ?_) (by rfl) rfl ?_ ?_
              rotate_left 1
              · go_simp; rfl
              refine hK.out _ _ ?_
              clear hK K
              refine done_ (by kernel_rfl) ?_
              dsimp only [Exit.then]
              obtain ⟨W15, hW15⟩ : ∃ W15, w14.setCell ⟨b8, 0, none⟩ (.slice p14 (xa + 1) c14) = W15 := ⟨_, rfl⟩
              have x15 : Ext (fun j => j = b8) w14 W15 := by rw [← hW15]; exact (Ext.refl (fun j => j = b8) w14).setCell (p := ⟨b8, 0, none⟩) (fun _ => rfl) _
              have z0 := (x15.cell (p := ⟨k, 0, none⟩) (Nat.lt_of_lt_of_le yl X14.out.size) (fun h => KN.out.1 h)).trans ((X14.out.cell (p := ⟨k, 0, none⟩) yl (fun h => h)).trans y0)
              have zl := Nat.lt_of_lt_of_le (Nat.lt_of_lt_of_le yl X14.out.size) x15.size
              have ZB10 := Lib.hid (x15.obj (X14.out.obj B10r.out (fun h => h)) (fun h => by have := NE.out; omega))
              have ZB11 := Lib.hid (x15.obj (X14.out.obj B11r.out (fun h => h)) (fun h => by have := NE.out; omega))
              have q10 := Boxed.cell ZB10.out
              have g10 := Boxed.frozen ZB10.out
              have r10 := Boxed.lt ZB10.out
              have q11 := Boxed.cell ZB11.out
              have g11 := Boxed.frozen ZB11.out
              have r11 := Boxed.lt ZB11.out
              rw [hW15]
              clear t8 f8 l8 x15 y8 y8l y0 y1 yl y5 y5l h0 h00 hHeld
              try clear hw2 cn m1 m0 u1 u0' c1'
              try clear i1
              try clear hlt
              try clear hw
              try clear hl1 hlen
              have hwp : IntKind.i64.wrap ((pre.length : Int) + 1) = (pre.length : Int) + 1 := IntWalk.i64_in _ (by have := HS.out.ln; have := FZ.out; omega)
              gi_wp2_with fail
              try rw [← hW15]
              have CT := step_cut HN.out
              try dsimp only at CT
              exact ss_end (x := (xr, xa)) (id := id) HS.out D.out HN.out OW.out (EX.out.trans X14.out (fun _ _ h => h)) (by have := A14.out; rwa [Nat.zero_add, Nat.add_zero] at this) (CT.2.trans (by have := NN.out; have := UU.out; have := CN.out; omega)) (CT.1.trans (by rw [UU.out])) (fun k hk => by have := F14.out k hk; have := EX.out.size; omega)
          · have DL := Lib.hid (show (Chain.ints (lst.drop u)).length = n - u from by unfold Chain.ints; rw [List.length_map, List.length_drop]; have := NN.out; omega)
            clear hu
            gi_upto_region 26 with (fail)
            refine startW_ (m := 16) (S := fun w' => w'.cell? ⟨b8, 0, none⟩ = some (.slice (some ⟨la, 0, none⟩) n cl) ∧ w'.cell? ⟨k, 1, none⟩ = some (.int .i64 (xa : Int)) ∧ Ext (fun _ => False) wr w') (ds := [15]) (ls 16 0) (by kernel_rfl) rfl (fun ⟨_, _, h⟩ => h) rfl rfl (CE.out _ (Ext.refl _ _).drew) (fun hHeld => ?_)
            refine pure_ (i := 2) (N := some 119) (v := ?_) (a' := ?_) (ls 16 4) rfl rfl (by kernel_rfl) (fun _ _ _ h => h) (Or.inl ⟨by rfl, ?_⟩) ?_ ?_
            rotate_left
            · intro w'; go_simp; with_reducible rfl
            rotate_left
            · simp only [Act.put, List.setIfInBounds_toArray, List.set_cons_zero, List.set_cons_succ, i64_w, i32_w]; rfl
            refine pure_ (i := 6) (N := some 123) (v := ?_) (a' := ?_) (ls 16 68) rfl rfl (by kernel_rfl) (fun _ _ _ h => h) (Or.inl ⟨by rfl, ?_⟩) ?_ ?_
            rotate_left
            · intro w'; go_simp; with_reducible rfl
            rotate_left
            · simp only [Act.put, List.setIfInBounds_toArray, List.set_cons_zero, List.set_cons_succ, i64_w, i32_w]; rfl
            refine pure_ (i := 10) (N := some 127) (v := ?_) (a' := ?_) (ls 16 1092) rfl rfl (by kernel_rfl) (fun _ _ _ h => h) (Or.inl ⟨by rfl, ?_⟩) ?_ ?_
            rotate_left
            · intro w'; go_simp; with_reducible rfl
            rotate_left
            · simp only [Act.put, List.setIfInBounds_toArray, List.set_cons_zero, List.set_cons_succ, i64_w, i32_w]; rfl
            refine take_ (i := 1) (N := some 118) (v := ?_) (a' := ?_) (ls 16 1094) rfl rfl (by kernel_rfl) (fun _ _ _ h => h) (Or.inl ⟨by rfl, ?_⟩) hHeld ?_ ?_
            rotate_left
            · rintro w' ⟨s0, s1, s2⟩; go_simp; with_reducible rfl
            rotate_left
            · simp only [Act.put, List.setIfInBounds_toArray, List.set_cons_zero, List.set_cons_succ, i64_w, i32_w]; rfl
            refine take_ (i := 3) (N := some 120) (v := ?_) (a' := ?_) (ls 16 1102) rfl rfl (by kernel_rfl) (fun _ _ _ h => h) (Or.inl ⟨by rfl, ?_⟩) hHeld ?_ ?_
            rotate_left
            · rintro w' ⟨s0, s1, s2⟩; go_simp; with_reducible rfl
            rotate_left
            · simp only [Act.put, List.setIfInBounds_toArray, List.set_cons_zero, List.set_cons_succ, i64_w, i32_w]; rfl
            refine pure_ (i := 4) (N := some 121) (v := ?_) (a' := ?_) (ls 16 1118) rfl rfl (by kernel_rfl) (fun _ _ _ h => h) (Or.inl ⟨by rfl, ?_⟩) ?_ ?_
            rotate_left
            · intro w'; go_simp; with_reducible rfl
            rotate_left
            · simp only [Act.put, List.setIfInBounds_toArray, List.set_cons_zero, List.set_cons_succ, i64_w, i32_w]; rfl
            refine take_ (i := 9) (N := some 126) (v := ?_) (a' := ?_) (ls 16 1630) rfl rfl (by kernel_rfl) (fun _ _ _ h => h) (Or.inl ⟨by rfl, ?_⟩) hHeld ?_ ?_
            rotate_left
            · rintro w' ⟨s0, s1, s2⟩; go_simp; with_reducible rfl
            rotate_left
            · simp only [Act.put, List.setIfInBounds_toArray, List.set_cons_zero, List.set_cons_succ, i64_w, i32_w]; rfl
            refine take_ (i := 11) (N := some 128) (v := ?_) (a' := ?_) (ls 16 3678) rfl rfl (by kernel_rfl) (fun _ _ _ h => h) (Or.inl ⟨by rfl, ?_⟩) hHeld ?_ ?_
            rotate_left
            · rintro w' ⟨s0, s1, s2⟩; go_simp; with_reducible rfl
            rotate_left
            · simp only [Act.put, List.setIfInBounds_toArray, List.set_cons_zero, List.set_cons_succ, i64_w, i32_w]; rfl
            refine pure_ (i := 12) (N := some 129) (v := ?_) (a' := ?_) (ls 16 7774) rfl rfl (by kernel_rfl) (fun _ _ _ h => h) (Or.inl ⟨by rfl, ?_⟩) ?_ ?_
            rotate_left
            · intro w'; go_simp; with_reducible rfl
            rotate_left
            · simp only [Act.put, List.setIfInBounds_toArray, List.set_cons_zero, List.set_cons_succ, i64_w, i32_w]; rfl
            refine pure_ (i := 13) (N := some 130) (v := ?_) (a' := ?_) (ls 16 15966) rfl rfl (by kernel_rfl) (fun _ _ _ h => h) (Or.inl ⟨by rfl, ?_⟩) ?_ ?_
            rotate_left
            · intro w'; go_simp; with_reducible rfl
            rotate_left
            · simp only [Act.put, List.setIfInBounds_toArray, List.set_cons_zero, List.set_cons_succ, i64_w, i32_w]; rfl
            refine two_ (i := 0) (j := 7) (Ni := some 117) (Nj := some 124) (ls 16 15967) (ls 16 16094) rfl rfl rfl rfl (by kernel_rfl) (by decide) (by decide) (fun K hK => ?_) (fun K hK => ?_)
            · refine value_ (w1 := ?_) (v := ?_) (by rfl) rfl ?_ ?_
              rotate_left 2
              · go_simp
                constructor
                · rfl
                · rfl
              refine hK.out _ _ (by obtain ⟨s0, s1, s2⟩ := hHeld; exact ⟨cell_alloc s0, cell_alloc s1, s2.alloc _⟩) (fun hHeld => ?_)
              clear hK K
              refine norm_ (a' := ?_) ?_ ?_
              rotate_left
              · simp only [Act.put, List.setIfInBounds_toArray, List.set_cons_zero, List.set_cons_succ, i64_w, i32_w]; rfl
              refine two_ (i := 5) (j := 7) (Ni := some 122) (Nj := some 124) (ls 16 15999) (ls 16 16095) rfl rfl rfl rfl (by kernel_rfl) (by decide) (by decide) (fun K hK => ?_) (fun K hK => ?_)
              · refine appI_step (wr := wr) (N := some 122) rfl (by rfl) (.tmp 117) (.tmp 121) rfl (some ⟨wr.drew.heap.size, 0, none⟩) (0) 0 ([]) (by kernel_rfl) (some ⟨la, 0, none⟩) (xa) cl (by kernel_rfl) (Chain.ints (lst.take xa)) TL.out (rd_take (RD.out.on (by repeat (first | exact Ext.refl _ _ | refine Ext.drew ?_ | refine Ext.alloc ?_ _))) xa) (fun h => by cases h) (ints_one _) (by repeat (first | exact Ext.refl _ _ | refine Ext.drew ?_ | refine Ext.alloc ?_ _)) (arr_empty wr.drew 3 1) (fun k hk => by cases hk; show wr.heap.size ≤ _; first | exact Nat.le_refl _ | exact Nat.le_succ _) (by have := HL.out; omega) ?_
                intro p5 c5 w5 hA hE hX hF
                have A5 := Lib.hid hA; have X5 := Lib.hid hE; have Y5 := Lib.hid hX; have F5 := Lib.hid hF; clear hA hE hX hF
                refine hK.out _ _ (CE.out _ X5.out) (fun hHeld => ?_)
                clear hK K
                refine norm_ (a' := ?_) ?_ ?_
                rotate_left
                · simp only [Act.put, List.setIfInBounds_toArray, List.set_cons_zero, List.set_cons_succ, i64_w, i32_w]; rfl
                refine one_ (i := 7) (N := some 124) (ls 16 16127) rfl rfl (by kernel_rfl) (by decide) (fun K hK => ?_)
                refine value_ (w1 := ?_) (v := ?_) (by rfl) rfl ?_ ?_
                rotate_left 2
                · go_simp
                  constructor
                  · rfl
                  · rfl
                refine hK.out _ _ (by obtain ⟨s0, s1, s2⟩ := hHeld; exact ⟨cell_alloc s0, cell_alloc s1, s2.alloc _⟩) (fun hHeld => ?_)
                clear hK K
                refine norm_ (a' := ?_) ?_ ?_
                rotate_left
                · simp only [Act.put, List.setIfInBounds_toArray, List.set_cons_zero, List.set_cons_succ, i64_w, i32_w]; rfl
                refine one_ (i := 8) (N := some 125) (ls 16 16383) rfl rfl (by kernel_rfl) (by decide) (fun K hK => ?_)
                refine appI_step (wr := wr) (N := some 125) rfl (by rfl) (.tmp 122) (.tmp 124) rfl p5 (0 + xa) c5 ([] ++ Chain.ints (lst.take xa)) (by kernel_rfl) (some ⟨w5.heap.size, 0, none⟩) (1) 1 (by kernel_rfl) ([.int .i64 id]) rfl (one_news (heap_alloc_new w5 (.cells #[.int .i64 id] 3))) (fun h => by cases h) (fun u hu => by simp at hu; subst hu; rfl) (X5.out.alloc _) (arr_ext A5.out ((Ext.refl (fun _ => False) _).alloc _) (fun _ _ h => h)) F5.out (by have := HL.out; omega) ?_
                intro p8 c8 w8 hA hE hX hF
                have A8 := Lib.hid hA; have X8 := Lib.hid hE; have Y8 := Lib.hid hX; have F8 := Lib.hid hF; clear hA hE hX hF
                refine hK.out _ _ (CE.out _ X8.out) (fun hHeld => ?_)
                clear hK K
                refine norm_ (a' := ?_) ?_ ?_
                rotate_left
                · simp only [Act.put, List.setIfInBounds_toArray, List.set_cons_zero, List.set_cons_succ, i64_w, i32_w]; rfl
                refine one_ (i := 14) (N := some 131) (ls 16 32767) rfl rfl (by kernel_rfl) (by decide) (fun K hK => ?_)
                refine appI_step (wr := wr) (N := some 131) rfl (by rfl) (.tmp 125) (.tmp 130) rfl p8 (0 + xa + 1) c8 (([] ++ Chain.ints (lst.take xa)) ++ [.int .i64 id]) (by kernel_rfl) (some ⟨la, u, none⟩) (n - u) (cl - u) (by kernel_rfl) (Chain.ints (lst.drop u)) DL.out (rd_drop (RD.out.on X8.out) u) (fun h => by cases h) (ints_one _) X8.out A8.out F8.out (by have := HL.out; omega) ?_
                intro p14 c14 w14 hA hE hX hF
                have A14 := Lib.hid hA; have X14 := Lib.hid hE; have Y14 := Lib.hid hX; have F14 := Lib.hid hF; clear hA hE hX hF
                refine hK.out _ _ (CE.out _ X14.out) (fun hHeld => ?_)
                clear hK K
                refine norm_ (a' := ?_) ?_ ?_
                rotate_left
                · simp only [Act.put, List.setIfInBounds_toArray, List.set_cons_zero, List.set_cons_succ, i64_w, i32_w]; rfl
                have t8 := X14.out.cell (p := ⟨b8, 0, none⟩) y8l (fun h => h) |>.trans y8
                have f8 : w14.frozen? ⟨b8, 0, none⟩ = false := Boxed.frozen (X14.out.obj B8r.out (fun h => h))
                have l8 : b8 < w14.heap.size := Nat.lt_of_lt_of_le y8l X14.out.size
                refine last_ (i := 15) (N := none) (ls 16 65535) rfl rfl (by kernel_rfl) (by decide) (fun K hK => ?_)
                refine skip_ (w1 := ?_) (by rfl) rfl ?_ ?_
                rotate_left 1
                · go_simp; rfl
                refine hK.out _ _ ?_
                clear hK K
                refine done_ (by kernel_rfl) ?_
                dsimp only [Exit.then]
                obtain ⟨W15, hW15⟩ : ∃ W15, w14.setCell ⟨b8, 0, none⟩ (.slice p14 (xa + 1 + (n - u)) c14) = W15 := ⟨_, rfl⟩
                have x15 : Ext (fun j => j = b8) w14 W15 := by rw [← hW15]; exact (Ext.refl (fun j => j = b8) w14).setCell (p := ⟨b8, 0, none⟩) (fun _ => rfl) _
                have z0 := (x15.cell (p := ⟨k, 0, none⟩) (Nat.lt_of_lt_of_le yl X14.out.size) (fun h => KN.out.1 h)).trans ((X14.out.cell (p := ⟨k, 0, none⟩) yl (fun h => h)).trans y0)
                have zl := Nat.lt_of_lt_of_le (Nat.lt_of_lt_of_le yl X14.out.size) x15.size
                have ZB10 := Lib.hid (x15.obj (X14.out.obj B10r.out (fun h => h)) (fun h => by have := NE.out; omega))
                have ZB11 := Lib.hid (x15.obj (X14.out.obj B11r.out (fun h => h)) (fun h => by have := NE.out; omega))
                have q10 := Boxed.cell ZB10.out
                have g10 := Boxed.frozen ZB10.out
                have r10 := Boxed.lt ZB10.out
                have q11 := Boxed.cell ZB11.out
                have g11 := Boxed.frozen ZB11.out
                have r11 := Boxed.lt ZB11.out
                rw [hW15]
                clear t8 f8 l8 x15 y8 y8l y0 y1 yl y5 y5l h0 h00 hHeld
                try clear hw2 cn m1 m0 u1 u0' c1'
                try clear i1
                try clear hlt
                try clear hw
                try clear hl1 hlen
                have hwp : IntKind.i64.wrap ((pre.length : Int) + 1) = (pre.length : Int) + 1 := IntWalk.i64_in _ (by have := HS.out.ln; have := FZ.out; omega)
                gi_wp2_with fail
                try rw [← hW15]
                have CT := step_cut HN.out
                try dsimp only at CT
                exact ss_end (x := (xr, xa)) (id := id) HS.out D.out HN.out OW.out (EX.out.trans X14.out (fun _ _ h => h)) (by have := A14.out; rwa [Nat.zero_add] at this) (CT.2.trans (by have := NN.out; have := UU.out; have := CN.out; omega)) (CT.1.trans (by rw [UU.out])) (fun k hk => by have := F14.out k hk; have := EX.out.size; omega)
              · refine value_ (w1 := ?_) (v := ?_) (by rfl) rfl ?_ ?_
                rotate_left 2
                · go_simp
                  constructor
                  · rfl
                  · rfl
                refine hK.out _ _ (by obtain ⟨s0, s1, s2⟩ := hHeld; exact ⟨cell_alloc s0, cell_alloc s1, s2.alloc _⟩) (fun hHeld => ?_)
                clear hK K
                refine norm_ (a' := ?_) ?_ ?_
                rotate_left
                · simp only [Act.put, List.setIfInBounds_toArray, List.set_cons_zero, List.set_cons_succ, i64_w, i32_w]; rfl
                refine one_ (i := 5) (N := some 122) (ls 16 16127) rfl rfl (by kernel_rfl) (by decide) (fun K hK => ?_)
                refine appI_step (wr := wr) (N := some 122) rfl (by rfl) (.tmp 117) (.tmp 121) rfl (some ⟨wr.drew.heap.size, 0, none⟩) (0) 0 ([]) (by kernel_rfl) (some ⟨la, 0, none⟩) (xa) cl (by kernel_rfl) (Chain.ints (lst.take xa)) TL.out (rd_take (RD.out.on (by repeat (first | exact Ext.refl _ _ | refine Ext.drew ?_ | refine Ext.alloc ?_ _))) xa) (fun h => by cases h) (ints_one _) (by repeat (first | exact Ext.refl _ _ | refine Ext.drew ?_ | refine Ext.alloc ?_ _)) (arr_ext (arr_empty wr.drew 3 1) ((Ext.refl (fun _ => False) _).alloc _) (fun _ _ h => h)) (fun k hk => by cases hk; show wr.heap.size ≤ _; first | exact Nat.le_refl _ | exact Nat.le_succ _) (by have := HL.out; omega) ?_
                intro p5 c5 w5 hA hE hX hF
                have A5 := Lib.hid hA; have X5 := Lib.hid hE; have Y5 := Lib.hid hX; have F5 := Lib.hid hF; clear hA hE hX hF
                refine hK.out _ _ (CE.out _ X5.out) (fun hHeld => ?_)
                clear hK K
                refine norm_ (a' := ?_) ?_ ?_
                rotate_left
                · simp only [Act.put, List.setIfInBounds_toArray, List.set_cons_zero, List.set_cons_succ, i64_w, i32_w]; rfl
                refine one_ (i := 8) (N := some 125) (ls 16 16383) rfl rfl (by kernel_rfl) (by decide) (fun K hK => ?_)
                refine appI_step (wr := wr) (N := some 125) rfl (by rfl) (.tmp 122) (.tmp 124) rfl p5 (0 + xa) c5 ([] ++ Chain.ints (lst.take xa)) (by kernel_rfl) (some ⟨wr.heap.size + 1, 0, none⟩) (1) 1 (by kernel_rfl) ([.int .i64 id]) rfl (one_news (Y5.out.obj (show ((wr.drew.alloc (.cells #[] 3)).alloc (.cells #[.int .i64 id] 3)).heap[wr.heap.size + 1]? = some (.cells #[.int .i64 id] 3) from by have h := heap_alloc_new (wr.drew.alloc (.cells #[] 3)) (.cells #[.int .i64 id] 3); rw [World.size_alloc] at h; exact h) (fun e => by have e2 : wr.heap.size = wr.heap.size + 1 := Option.some.inj e; omega))) (fun h => by cases h) (fun u hu => by simp at hu; subst hu; rfl) X5.out A5.out F5.out (by have := HL.out; omega) ?_
                intro p8 c8 w8 hA hE hX hF
                have A8 := Lib.hid hA; have X8 := Lib.hid hE; have Y8 := Lib.hid hX; have F8 := Lib.hid hF; clear hA hE hX hF
                refine hK.out _ _ (CE.out _ X8.out) (fun hHeld => ?_)
                clear hK K
                refine norm_ (a' := ?_) ?_ ?_
                rotate_left
                · simp only [Act.put, List.setIfInBounds_toArray, List.set_cons_zero, List.set_cons_succ, i64_w, i32_w]; rfl
                refine one_ (i := 14) (N := some 131) (ls 16 32767) rfl rfl (by kernel_rfl) (by decide) (fun K hK => ?_)
                refine appI_step (wr := wr) (N := some 131) rfl (by rfl) (.tmp 125) (.tmp 130) rfl p8 (0 + xa + 1) c8 (([] ++ Chain.ints (lst.take xa)) ++ [.int .i64 id]) (by kernel_rfl) (some ⟨la, u, none⟩) (n - u) (cl - u) (by kernel_rfl) (Chain.ints (lst.drop u)) DL.out (rd_drop (RD.out.on X8.out) u) (fun h => by cases h) (ints_one _) X8.out A8.out F8.out (by have := HL.out; omega) ?_
                intro p14 c14 w14 hA hE hX hF
                have A14 := Lib.hid hA; have X14 := Lib.hid hE; have Y14 := Lib.hid hX; have F14 := Lib.hid hF; clear hA hE hX hF
                refine hK.out _ _ (CE.out _ X14.out) (fun hHeld => ?_)
                clear hK K
                refine norm_ (a' := ?_) ?_ ?_
                rotate_left
                · simp only [Act.put, List.setIfInBounds_toArray, List.set_cons_zero, List.set_cons_succ, i64_w, i32_w]; rfl
                have t8 := X14.out.cell (p := ⟨b8, 0, none⟩) y8l (fun h => h) |>.trans y8
                have f8 : w14.frozen? ⟨b8, 0, none⟩ = false := Boxed.frozen (X14.out.obj B8r.out (fun h => h))
                have l8 : b8 < w14.heap.size := Nat.lt_of_lt_of_le y8l X14.out.size
                refine last_ (i := 15) (N := none) (ls 16 65535) rfl rfl (by kernel_rfl) (by decide) (fun K hK => ?_)
                refine skip_ (w1 := ?_) (by rfl) rfl ?_ ?_
                rotate_left 1
                · go_simp; rfl
                refine hK.out _ _ ?_
                clear hK K
                refine done_ (by kernel_rfl) ?_
                dsimp only [Exit.then]
                obtain ⟨W15, hW15⟩ : ∃ W15, w14.setCell ⟨b8, 0, none⟩ (.slice p14 (xa + 1 + (n - u)) c14) = W15 := ⟨_, rfl⟩
                have x15 : Ext (fun j => j = b8) w14 W15 := by rw [← hW15]; exact (Ext.refl (fun j => j = b8) w14).setCell (p := ⟨b8, 0, none⟩) (fun _ => rfl) _
                have z0 := (x15.cell (p := ⟨k, 0, none⟩) (Nat.lt_of_lt_of_le yl X14.out.size) (fun h => KN.out.1 h)).trans ((X14.out.cell (p := ⟨k, 0, none⟩) yl (fun h => h)).trans y0)
                have zl := Nat.lt_of_lt_of_le (Nat.lt_of_lt_of_le yl X14.out.size) x15.size
                have ZB10 := Lib.hid (x15.obj (X14.out.obj B10r.out (fun h => h)) (fun h => by have := NE.out; omega))
                have ZB11 := Lib.hid (x15.obj (X14.out.obj B11r.out (fun h => h)) (fun h => by have := NE.out; omega))
                have q10 := Boxed.cell ZB10.out
                have g10 := Boxed.frozen ZB10.out
                have r10 := Boxed.lt ZB10.out
                have q11 := Boxed.cell ZB11.out
                have g11 := Boxed.frozen ZB11.out
                have r11 := Boxed.lt ZB11.out
                rw [hW15]
                clear t8 f8 l8 x15 y8 y8l y0 y1 yl y5 y5l h0 h00 hHeld
                try clear hw2 cn m1 m0 u1 u0' c1'
                try clear i1
                try clear hlt
                try clear hw
                try clear hl1 hlen
                have hwp : IntKind.i64.wrap ((pre.length : Int) + 1) = (pre.length : Int) + 1 := IntWalk.i64_in _ (by have := HS.out.ln; have := FZ.out; omega)
                gi_wp2_with fail
                try rw [← hW15]
                have CT := step_cut HN.out
                try dsimp only at CT
                exact ss_end (x := (xr, xa)) (id := id) HS.out D.out HN.out OW.out (EX.out.trans X14.out (fun _ _ h => h)) (by have := A14.out; rwa [Nat.zero_add] at this) (CT.2.trans (by have := NN.out; have := UU.out; have := CN.out; omega)) (CT.1.trans (by rw [UU.out])) (fun k hk => by have := F14.out k hk; have := EX.out.size; omega)
            · refine value_ (w1 := ?_) (v := ?_) (by rfl) rfl ?_ ?_
              rotate_left 2
              · go_simp
                constructor
                · rfl
                · rfl
              refine hK.out _ _ (by obtain ⟨s0, s1, s2⟩ := hHeld; exact ⟨cell_alloc s0, cell_alloc s1, s2.alloc _⟩) (fun hHeld => ?_)
              clear hK K
              refine norm_ (a' := ?_) ?_ ?_
              rotate_left
              · simp only [Act.put, List.setIfInBounds_toArray, List.set_cons_zero, List.set_cons_succ, i64_w, i32_w]; rfl
              refine one_ (i := 0) (N := some 117) (ls 16 16095) rfl rfl (by kernel_rfl) (by decide) (fun K hK => ?_)
              refine value_ (w1 := ?_) (v := ?_) (by rfl) rfl ?_ ?_
              rotate_left 2
              · go_simp
                constructor
                · rfl
                · rfl
              refine hK.out _ _ (by obtain ⟨s0, s1, s2⟩ := hHeld; exact ⟨cell_alloc s0, cell_alloc s1, s2.alloc _⟩) (fun hHeld => ?_)
              clear hK K
              refine norm_ (a' := ?_) ?_ ?_
              rotate_left
              · simp only [Act.put, List.setIfInBounds_toArray, List.set_cons_zero, List.set_cons_succ, i64_w, i32_w]; rfl
              refine one_ (i := 5) (N := some 122) (ls 16 16127) rfl rfl (by kernel_rfl) (by decide) (fun K hK => ?_)
              refine appI_step (wr := wr) (N := some 122) rfl (by rfl) (.tmp 117) (.tmp 121) rfl (some ⟨wr.heap.size + 1, 0, none⟩) (0) 0 ([]) (by kernel_rfl) (some ⟨la, 0, none⟩) (xa) cl (by kernel_rfl) (Chain.ints (lst.take xa)) TL.out (rd_take (RD.out.on (by repeat (first | exact Ext.refl _ _ | refine Ext.drew ?_ | refine Ext.alloc ?_ _))) xa) (fun h => by cases h) (ints_one _) (by repeat (first | exact Ext.refl _ _ | refine Ext.drew ?_ | refine Ext.alloc ?_ _)) (by have h := arr_empty (wr.drew.alloc (.cells #[.int .i64 id] 3)) 3 1; rw [World.size_alloc] at h; exact h) (fun k hk => by cases hk; show wr.heap.size ≤ _; first | exact Nat.le_refl _ | exact Nat.le_succ _) (by have := HL.out; omega) ?_
              intro p5 c5 w5 hA hE hX hF
              have A5 := Lib.hid hA; have X5 := Lib.hid hE; have Y5 := Lib.hid hX; have F5 := Lib.hid hF; clear hA hE hX hF
              refine hK.out _ _ (CE.out _ X5.out) (fun hHeld => ?_)
              clear hK K
              refine norm_ (a' := ?_) ?_ ?_
              rotate_left
              · simp only [Act.put, List.setIfInBounds_toArray, List.set_cons_zero, List.set_cons_succ, i64_w, i32_w]; rfl
              refine one_ (i := 8) (N := some 125) (ls 16 16383) rfl rfl (by kernel_rfl) (by decide) (fun K hK => ?_)
              refine appI_step (wr := wr) (N := some 125) rfl (by rfl) (.tmp 122) (.tmp 124) rfl p5 (0 + xa) c5 ([] ++ Chain.ints (lst.take xa)) (by kernel_rfl) (some ⟨wr.drew.heap.size, 0, none⟩) (1) 1 (by kernel_rfl) ([.int .i64 id]) rfl (one_news (Y5.out.obj (blk_alloc (heap_alloc_new wr.drew (.cells #[.int .i64 id] 3)) _) (fun e => by have e2 : wr.heap.size + 1 = wr.heap.size := Option.some.inj e; omega))) (fun h => by cases h) (fun u hu => by simp at hu; subst hu; rfl) X5.out A5.out F5.out (by have := HL.out; omega) ?_
              intro p8 c8 w8 hA hE hX hF
              have A8 := Lib.hid hA; have X8 := Lib.hid hE; have Y8 := Lib.hid hX; have F8 := Lib.hid hF; clear hA hE hX hF
              refine hK.out _ _ (CE.out _ X8.out) (fun hHeld => ?_)
              clear hK K
              refine norm_ (a' := ?_) ?_ ?_
              rotate_left
              · simp only [Act.put, List.setIfInBounds_toArray, List.set_cons_zero, List.set_cons_succ, i64_w, i32_w]; rfl
              refine one_ (i := 14) (N := some 131) (ls 16 32767) rfl rfl (by kernel_rfl) (by decide) (fun K hK => ?_)
              refine appI_step (wr := wr) (N := some 131) rfl (by rfl) (.tmp 125) (.tmp 130) rfl p8 (0 + xa + 1) c8 (([] ++ Chain.ints (lst.take xa)) ++ [.int .i64 id]) (by kernel_rfl) (some ⟨la, u, none⟩) (n - u) (cl - u) (by kernel_rfl) (Chain.ints (lst.drop u)) DL.out (rd_drop (RD.out.on X8.out) u) (fun h => by cases h) (ints_one _) X8.out A8.out F8.out (by have := HL.out; omega) ?_
              intro p14 c14 w14 hA hE hX hF
              have A14 := Lib.hid hA; have X14 := Lib.hid hE; have Y14 := Lib.hid hX; have F14 := Lib.hid hF; clear hA hE hX hF
              refine hK.out _ _ (CE.out _ X14.out) (fun hHeld => ?_)
              clear hK K
              refine norm_ (a' := ?_) ?_ ?_
              rotate_left
              · simp only [Act.put, List.setIfInBounds_toArray, List.set_cons_zero, List.set_cons_succ, i64_w, i32_w]; rfl
              have t8 := X14.out.cell (p := ⟨b8, 0, none⟩) y8l (fun h => h) |>.trans y8
              have f8 : w14.frozen? ⟨b8, 0, none⟩ = false := Boxed.frozen (X14.out.obj B8r.out (fun h => h))
              have l8 : b8 < w14.heap.size := Nat.lt_of_lt_of_le y8l X14.out.size
              refine last_ (i := 15) (N := none) (ls 16 65535) rfl rfl (by kernel_rfl) (by decide) (fun K hK => ?_)
              refine skip_ (w1 := ?_) (by rfl) rfl ?_ ?_
              rotate_left 1
              · go_simp; rfl
              refine hK.out _ _ ?_
              clear hK K
              refine done_ (by kernel_rfl) ?_
              dsimp only [Exit.then]
              obtain ⟨W15, hW15⟩ : ∃ W15, w14.setCell ⟨b8, 0, none⟩ (.slice p14 (xa + 1 + (n - u)) c14) = W15 := ⟨_, rfl⟩
              have x15 : Ext (fun j => j = b8) w14 W15 := by rw [← hW15]; exact (Ext.refl (fun j => j = b8) w14).setCell (p := ⟨b8, 0, none⟩) (fun _ => rfl) _
              have z0 := (x15.cell (p := ⟨k, 0, none⟩) (Nat.lt_of_lt_of_le yl X14.out.size) (fun h => KN.out.1 h)).trans ((X14.out.cell (p := ⟨k, 0, none⟩) yl (fun h => h)).trans y0)
              have zl := Nat.lt_of_lt_of_le (Nat.lt_of_lt_of_le yl X14.out.size) x15.size
              have ZB10 := Lib.hid (x15.obj (X14.out.obj B10r.out (fun h => h)) (fun h => by have := NE.out; omega))
              have ZB11 := Lib.hid (x15.obj (X14.out.obj B11r.out (fun h => h)) (fun h => by have := NE.out; omega))
              have q10 := Boxed.cell ZB10.out
              have g10 := Boxed.frozen ZB10.out
              have r10 := Boxed.lt ZB10.out
              have q11 := Boxed.cell ZB11.out
              have g11 := Boxed.frozen ZB11.out
              have r11 := Boxed.lt ZB11.out
              rw [hW15]
              clear t8 f8 l8 x15 y8 y8l y0 y1 yl y5 y5l h0 h00 hHeld
              try clear hw2 cn m1 m0 u1 u0' c1'
              try clear i1
              try clear hlt
              try clear hw
              try clear hl1 hlen
              have hwp : IntKind.i64.wrap ((pre.length : Int) + 1) = (pre.length : Int) + 1 := IntWalk.i64_in _ (by have := HS.out.ln; have := FZ.out; omega)
              gi_wp2_with fail
              try rw [← hW15]
              have CT := step_cut HN.out
              try dsimp only at CT
              exact ss_end (x := (xr, xa)) (id := id) HS.out D.out HN.out OW.out (EX.out.trans X14.out (fun _ _ h => h)) (by have := A14.out; rwa [Nat.zero_add] at this) (CT.2.trans (by have := NN.out; have := UU.out; have := CN.out; omega)) (CT.1.trans (by rw [UU.out])) (fun k hk => by have := F14.out k hk; have := EX.out.size; omega)
    case done =>
      rintro D0 xs O W9 hD hxs ⟨pl, cl, lst, last, h⟩ nO hdf
      subst hxs
      have E := steps_done h.jn
      have XM := Lib.hid (show Ext (fun _ => False) W W9 from X4.out.trans h.ext (fun i hi e => by have := NE.out; rcases e with e | e | e <;> omega))
      have MF9 := MF.out W9 XM.out
      rw [← E] at MF9
      have HM := Lib.hid MF9
      have HS := Lib.hid h
      have B5 := Lib.hid (show Boxed W9 b5 28 (.pointer (some ⟨a, 0, none⟩)) from h.ext.obj B54.out (fun e => by have := NE.out; rcases e with e | e | e <;> omega))
      have B4 := Lib.hid (show Boxed W9 (b3 + 1) 4 (.bool false) from h.ext.obj B44.out (fun e => by have := NE.out; rcases e with e | e | e <;> omega))
      have DF := Lib.hid (And.intro hdf hD)
      have y5 := Boxed.cell B5.out
      have y5l := Boxed.lt B5.out
      have LN := Lib.hid h.ln
      have hL : lst.length ≤ 200 := by have := h.ln; have := FZ.out; omega
      clear E MF9 h hdf hD nO SM ST MF
      dsimp only [Exit.inBlock, Exit.then]
      go_wp2_with fail
      refine HM.out.mono ?_
      rintro e W10 ⟨p', c', rfl, hA', hx, _⟩
      have A10 := Lib.hid (ints_rd hA')
      have X10 := Lib.hid hx
      have SA := Lib.hid (sameI_any W10 pl p' cl c' lst lst ((ints_rd HS.out.ar).on hx) A10.out (by omega))
      rw [decide_eq_true rfl] at SA
      have B8 := Lib.hid (hx.obj HS.out.x8 (fun h => h))
      have y8 := Boxed.cell B8.out
      have y8l := Boxed.lt B8.out
      clear hx hA' y5 y5l
      go_wp2_with fail
      refine SA.out.mono ?_
      rintro e W11 ⟨rfl, hx⟩
      have X11 := Lib.hid (X10.out.trans hx (fun _ _ h => h))
      have z8 : W11.cell? ⟨b8, 0, none⟩ = some (.slice pl lst.length cl) := Boxed.cell (hx.obj B8.out (fun h => h))
      have z8l : b8 < W11.heap.size := Nat.lt_of_lt_of_le y8l hx.size
      have B11 := Lib.hid (X11.out.obj HS.out.x11 (fun h => h))
      have z11 := Boxed.cell B11.out
      have z11l := Boxed.lt B11.out
      have hw : IntKind.i64.wrap ((t.size : Int) - (lst.length : Int)) = ((stepsT d t).length : Int) := by
        have := LN.out
        rw [IntWalk.i64_in _ (by have := FZ.out; omega)]
        omega
      clear hx y8 y8l SA
      go_wp2_with fail
      refine (known10_any _).mono ?_
      rintro e W12 ⟨rfl, hx⟩
      have X12 := Lib.hid (X11.out.trans hx (fun _ _ h => h))
      have B42 := Lib.hid (X12.out.obj B4.out (fun h => h))
      have q4 := Boxed.cell B42.out
      have g4 := Boxed.frozen B42.out
      have r4 := Boxed.lt B42.out
      clear hx z8 z8l z11 z11l hw
      go_wp2_with fail
      exact leaves_one (G.out.2.2.1.trans (XM.out.trans X12.out (fun _ _ h => h)) (fun _ _ h => h)) B42.out (by have := G.out.2.2.2; omega) (fun h => by simp [results, Try.f9, go_sem, h]) (X12.out.obj DF.out.1 (fun h => h)) (by have := G.out.2.2.1.size; have := X4.out.size; have := DF.out.2; omega)
    case stop =>
      rintro D1 c pre O W hD hpre h nO hdf
      exact False.elim h
end Go.Proofs.Ytiminpcpnblppaa.Bpe
