/- (*bpe.work).left: the ids that stand, in new memory. -/
import Derived.Test.YtbepmbihonnkaaaBpeStep
import Derived.Test.YtbepmbihonnkaaaChainAllT
import Derived.Test.YtbepmbihonnkaaaBridge
import Derived.Test.YtbepmbihonnkaaaReg
namespace Go.Proofs.Ytbepmbihonnkaaa.Bpe
open Go.RowKit Go.Shelf Go.Proofs.Ytbepmbihonnkaaa.Lib Go.Proofs.Ytbepmbihonnkaaa.Sl Go.Proofs.Ytbepmbihonnkaaa.Chain Go.Proofs.Ytbepmbihonnkaaa.ElBpe Go.Proofs.Ytbepmbihonnkaaa.HeapPure
open Go.Proofs.YtbepmbihonnkaaaW.PrintLast
set_option linter.unusedVariables false
set_option linter.unusedSimpArgs false
attribute [local go_sem] Oper.semAt_some

theorem arr_isCells {w : World} {e sz n c : Nat} {p : Option Addr} {cs : List Value} (h : Arr w e sz p n c cs) {k : Nat} (hk : blkOf p = some k) : ∃ o : Obj, w.heap[k]? = some o ∧ o.isCells = true := by
  rcases h.2 with hn' | ⟨g, cap, cur, hv, hb, hgg, rest⟩
  · obtain ⟨hn', _⟩ := hn'
    injection hn' with h1 h2 h3
    subst h1
    cases hk
  · injection hv with hv1 hv2 hv3
    subst hv1
    cases hk
    exact ⟨_, hgg, rfl⟩
theorem cur_upTo (I : List Int) (al : Nat → Bool) (n : Nat) : (upTo al n).map (fun z => val I z.toNat) = cur I al n := by
  unfold upTo cur aliveL
  rw [List.map_map]
  rfl
theorem startIn_ {F : Fence} {N : Nat} {P : Program} {Q : Exit → Act → World → Prop} {id m : Nat} {ops : List Oper} {a : Act} {w : World} {S : World → Prop} {ds : List Nat} (l : Array Bool) (hm : P.follows .mixedOrders = true) (hc : ∀ o ∈ ops, Lib.Calm P o) (hL : ¬ LetsOut Q) (hn : ops.toArray.size = m) (hl : Array.replicate m false = l) (hS : S w.drew)
    (h : S w.drew → wpAnyLast P .any ops.toArray Q S ds m l a w.drew) : (Code.region id ops.toArray true).wpIn F N P Q a w := by
  subst hn
  subst hl
  exact wpIn_region_calm hm hc hL (wpAny_of_last _ _ _ _ (h hS))
theorem leaves_mark1 {F : Fence} {n : Nat} {P : Program} {fn : Func} {tmps : Array Value} {R : Ending → World → Prop} {D : Nat} {w : World} (hD : w.heap[D]? = some (.deferred (some [])))
    (h : ∀ w', Ext (fun k => k = D) w w' → LeavesIn F n P fn tmps R [] .returning w') : LeavesInM F n P fn tmps R [{ target := .collected D, args := #[] }] .returning w :=
  ⟨by simp, .inl ⟨D, w.putObj D (.deferred none), rfl, run_takeDeferred hD, h _ (Ext.of_grown (grownBy_putObj' w D (.deferred none)) (fun k e _ => by cases e; rfl))⟩⟩
/-- Within the loop: pre has come. -/
def LeftI (W0 : World) (tb : Nat) (I : List Int) {n : Nat} {al : Nat → Bool} (pre : List (In n al)) (W : World) : Prop :=
  ∃ p c, Ext (fun k => k = tb) W0 W ∧ Boxed W tb 27 (.slice p pre.length c) ∧ Arr W 3 1 p pre.length c (Chain.ints (pre.map fun z => val I z.1.toNat)) ∧ ∀ k, blkOf p = some k → W0.heap.size ≤ k
theorem leftI_own (W0 : World) (tb : Nat) (I : List Int) {n : Nat} {al : Nat → Bool} : OwnFrom W0.heap.size (LeftI W0 tb I (n := n) (al := al)) := fun pre X Y row ⟨p, c, h1, h2, h3, h4⟩ hg hr => by
  refine ⟨p, c, h1.grown hg (fun k hk hl => absurd (hr k hk).1 (by omega)), h2.kept hg (fun e' => by
    obtain ⟨o, ho, hc⟩ := (hr _ e'.symm).2
    rw [show X.heap[tb]? = _ from h2] at ho
    cases ho; cases hc), arr_ext h3 (Ext.of_grown (S := fun k => row = some k) hg (fun k hk _ => hk)) (fun k hk hS => ?_), h4⟩
  obtain ⟨o, ho, hc⟩ := (hr k hS).2
  obtain ⟨o', ho', hc'⟩ := arr_isCells h3 hk
  rw [ho] at ho'
  cases ho'
  rw [hc] at hc'
  cases hc'
def LeftEnd (w : World) (I : List Int) (al : Nat → Bool) (n : Nat) (e : Ending) (w' : World) : Prop :=
  ∃ p c, e = .returned (.slice p (cnt al n) c) ∧ Arr w' 3 1 p (cnt al n) c (Chain.ints (cur I al n)) ∧ Ext (fun _ => False) w w' ∧ ∀ k, blkOf p = some k → w.heap.size ≤ k
set_option maxRecDepth 100000 in
set_option maxHeartbeats 2000000 in
theorem left_in (F : Fence) (N : Nat) (h36 : F.fn 53) (h60 : F.fn 73) (h77 : F.fn 87) (hro : F.round = none) (hn : 3 ≤ N)
    {B : Nat} {w : World} {b : Nat} {d : Dat} {n : Nat} {I : List Int} {al : Nat → Bool} {H : List El} {P : Pw} {p2 : Option Addr} {c2 : Nat} (h : St B w b d n I al H P p2 c2) :
    CallsIn F N Try.prog 53 #[.pointer (some ⟨b, 0, none⟩)] w fun e w' => LeftEnd w I al n e w' := by
  have HS := Lib.hid h
  obtain ⟨bl, q0, q1, q2, q3⟩ := h.cells
  have hch := h.chain
  obtain ⟨pc, cc, qc, dc, nx, pv, first, len, hM, hI, hn2, hg1, hg2, hg3⟩ := hch
  have h1 : 1 ≤ N := by omega
  clear h
  refine callsIn_of_wp_marks Try.func53 rfl h36 ?_ hro
  simp only [Try.ntmps53, List.size_toArray, List.length_cons, List.length_nil, Nat.reduceAdd, Nat.reduceSub, Array.replicate_succ, Array.replicate_zero, List.push_toArray, List.append_toArray, List.nil_append, List.cons_append]
  have hnil : ∀ b W, (binOp .eql 130 (.func (.func 87) #[] #[.pointer b]) Value.nilFunc).run Try.prog W = .ok (.bool false) W := fun b W => by kernel_rfl
  gi_wp2_with (gi_at_call 73; refine (all_in F (N - 1) h60 hro _ _).mono ?_; rintro e w' ⟨rfl, rfl⟩)
  obtain ⟨W0, hW0⟩ : ∃ W0, ((w.alloc (.cells #[.pointer (some ⟨b, 0, none⟩)] 100)).alloc (.cells #[.slice none 0 0] 27)).alloc (.cells #[.pointer (some ⟨P.g, 0, none⟩)] 120) = W0 := ⟨_, rfl⟩
  have X0 : Ext (fun _ => False) w W0 := by rw [← hW0]; exact (((Ext.refl _ _).alloc _).alloc _).alloc _
  have sz0 : W0.heap.size = w.heap.size + 3 := by rw [← hW0]; simp
  have bw : Boxed W0 w.heap.size 100 (.pointer (some ⟨b, 0, none⟩)) := by rw [← hW0]; exact ((Boxed.new w _ _).alloc _).alloc _
  have bt : Boxed W0 (w.heap.size + 1) 27 (.slice none 0 0) := by
    rw [← hW0]
    have := Boxed.new (w.alloc (.cells #[.pointer (some ⟨b, 0, none⟩)] 100)) 27 (.slice none 0 0)
    rw [World.size_alloc] at this
    exact this.alloc _
  have bg : Boxed W0 (w.heap.size + 1 + 1) 120 (.pointer (some ⟨P.g, 0, none⟩)) := by
    rw [← hW0]
    have := Boxed.new ((w.alloc (.cells #[.pointer (some ⟨b, 0, none⟩)] 100)).alloc (.cells #[.slice none 0 0] 27)) 120 (.pointer (some ⟨P.g, 0, none⟩))
    simpa using this
  rw [hW0]
  clear hW0
  have S0 := Lib.hid (HS.out.on X0)
  have glt : P.g < w.heap.size := blk_lt hM.blk
  have CT : ChT (fun k => k = w.heap.size + 1 + 1 ∨ k = P.g ∨ blkOf pc = some k) W0 P.g n pc cc al := by
    have hM0 := hM.ext X0 (fun h => h) (fun _ _ h => h) (fun _ _ h => h)
    refine ⟨⟨.inr (.inl rfl), by omega⟩, ?_, ?_, fun i hi ha => ?_⟩
    · rw [← hI.first]; exact (blk_cell hM0.blk 2).trans rfl
    · exact (blk_cell hM0.blk 0).trans rfl
    · obtain ⟨x, rfl⟩ := arr_some hM0.nx (by omega)
      refine ⟨x, rfl, .inr (.inr rfl), arr_lt hM0.nx rfl, (arr_cell hM0.nx i (by omega)).trans ?_⟩
      simp [Chain.ints, hI.next i hi ha]
  have hTl : ∀ k, (k = w.heap.size + 1 + 1 ∨ k = P.g ∨ blkOf pc = some k) → k < W0.heap.size ∧ k ≠ w.heap.size + 1 := fun k hk => by
    rcases hk with rfl | rfl | hk
    · omega
    · omega
    · have := arr_lt hM.nx hk
      omega
  have HT := Lib.hid hTl
  have LI0 : LeftI W0 (w.heap.size + 1) I (n := n) (al := al) [] W0 := ⟨none, 0, Ext.refl _ _, bt, arr_nil _ _ _, fun k hk => by cases hk⟩
  have BW := Lib.hid bw
  have BG := Lib.hid bg
  refine wpIn_rangeFunc_ownF hro h1 (gf := 87) (lb := #[.pointer (some ⟨w.heap.size + 1 + 1, 0, none⟩)]) rfl h77 (enters_of Try.func87 (by kernel_rfl) rfl)
    (all_stops_t F (N - 1) h77 hro (by omega) (w.heap.size + 1 + 1) P.g n cc (fun k => k = w.heap.size + 1 + 1 ∨ k = P.g ∨ blkOf pc = some k) pc al W0 (.inl rfl) bg.lt bg.cell CT) Stay.trans (stayK_b (fun k hk => (hTl k hk).1)) (Below.refl _ _) (fun _ => rfl)
    (fun pre W => LeftI W0 (w.heap.size + 1) I pre W) (fun _ _ _ => False) (leftI_own W0 _ I) (fun _ _ _ _ _ h _ _ => h) LI0
    (fun x => { tmps := #[.pointer (some ⟨b, 0, none⟩), .pointer (some ⟨w.heap.size, 0, none⟩), .slice none 0 0, .pointer (some ⟨w.heap.size + 1, 0, none⟩), .int .i64 x.1, .pointer (some ⟨b, 0, none⟩), .pointer (some ⟨b, 0, none⟩), .pointer (some ⟨b, 2, none⟩), .pointer (some ⟨P.g, 0, none⟩), .func (.func 87) #[] #[.pointer (some ⟨w.heap.size + 1 + 1, 0, none⟩)], .int .i64 x.1, undef, undef, undef, undef, undef, undef, undef, undef, undef, undef, undef], defers := [] }) ?assign ?body ?done ?stop
  case assign =>
    intro l x W K hK
    gi_wp2
    exact hK
  case body =>
    rintro l pre ⟨x, j, rfl, hj, ha⟩ W ⟨p', c', x1, bx, ar, fr⟩ hlen
    have SW := S0.out.side x1 (fun k hk => ?hside)
    case hside =>
      subst hk
      have hb := S0.out.lhb
      have hbl : b < w.heap.size := bl
      refine ⟨fun ho => ?_, by omega, by have := HS.out.own (k := P.h) (.inl rfl); have := HS.out.lhb; omega⟩
      have := HS.out.own_lt ho
      omega
    obtain ⟨a, hpa⟩ := arr_some SW.row (by omega)
    obtain ⟨al2, c3⟩ := SW.id hpa j hj
    obtain ⟨bl2, _, c2, _, _⟩ := SW.cells
    rw [hpa] at c2
    have c0 := bx.cell
    have f0 := bx.frozen
    have tl := bx.lt
    have c1 := (x1.cell (p := ⟨w.heap.size, 0, none⟩) (by show w.heap.size < W0.heap.size; omega) (by show ¬ (w.heap.size = w.heap.size + 1); omega)).trans BW.out.cell
    have i1 : (j : Int) < (n : Int) := by omega
    obtain ⟨CS, hCS⟩ : ∃ CS, Chain.ints (pre.map fun z => val I z.1.toNat) = CS := ⟨_, rfl⟩
    rw [hCS] at ar
    have AR := Lib.hid ar
    have HCS := Lib.hid hCS
    clear hCS
    have hpl : pre.length < 1048576 := by rw [upTo_length] at hlen; have := cnt_le al n; omega
    gi_wp2_with fail
    refine startIn_ (m := 11) (S := fun w' => w'.cell? ⟨w.heap.size + 1, 0, none⟩ = some (.slice p' pre.length c') ∧ w'.cell? ⟨w.heap.size, 0, none⟩ = some (.pointer (some ⟨b, 0, none⟩)) ∧ w'.cell? ⟨b, 1, none⟩ = some (.slice (some ⟨a, 0, none⟩) n P.c) ∧ w'.cell? ⟨a, j, none⟩ = some (.int .i64 (val I j))) (ds := [9, 10]) (ls 11 0) (by kernel_rfl) (List.forall_mem_cons.2 ⟨calm_load rfl, (List.forall_mem_cons.2 ⟨calm_load rfl, (List.forall_mem_cons.2 ⟨calm_nil rfl, (List.forall_mem_cons.2 ⟨calm_field rfl, (List.forall_mem_cons.2 ⟨calm_load rfl, (List.forall_mem_cons.2 ⟨calm_move rfl, (List.forall_mem_cons.2 ⟨calm_index rfl, (List.forall_mem_cons.2 ⟨calm_load rfl, (List.forall_mem_cons.2 ⟨calm_slice rfl, (List.forall_mem_cons.2 ⟨calm_append rfl, (List.forall_mem_cons.2 ⟨calm_store rfl, (fun _ h => by cases h)⟩)⟩)⟩)⟩)⟩)⟩)⟩)⟩)⟩)⟩)⟩) (fun ⟨_, _, h⟩ => h) rfl rfl ⟨c0, c1, c2, c3⟩ (fun hHeld => ?_)
    refine pure_ (i := 5) (N := some 16) (v := ?_) (a' := ?_) (ls 11 32) rfl rfl (by kernel_rfl) (fun _ _ _ h => h) (Or.inl ⟨by rfl, ?_⟩) ?_ ?_
    rotate_left
    · intro w'; go_simp; with_reducible rfl
    rotate_left
    · simp only [Act.put, List.setIfInBounds_toArray, List.set_cons_zero, List.set_cons_succ, i64_w, i32_w]; rfl
    refine take_ (i := 0) (N := some 11) (v := ?_) (a' := ?_) (ls 11 33) rfl rfl (by kernel_rfl) (fun _ _ _ h => h) (Or.inl ⟨by rfl, ?_⟩) hHeld ?_ ?_
    rotate_left
    · rintro w' ⟨s0, s1, s2, s3⟩; go_simp; with_reducible rfl
    rotate_left
    · simp only [Act.put, List.setIfInBounds_toArray, List.set_cons_zero, List.set_cons_succ, i64_w, i32_w]; rfl
    refine take_ (i := 1) (N := some 12) (v := ?_) (a' := ?_) (ls 11 35) rfl rfl (by kernel_rfl) (fun _ _ _ h => h) (Or.inl ⟨by rfl, ?_⟩) hHeld ?_ ?_
    rotate_left
    · rintro w' ⟨s0, s1, s2, s3⟩; go_simp; with_reducible rfl
    rotate_left
    · simp only [Act.put, List.setIfInBounds_toArray, List.set_cons_zero, List.set_cons_succ, i64_w, i32_w]; rfl
    refine one_ (i := 2) (N := some 13) (ls 11 39) rfl rfl (by kernel_rfl) (by decide) (fun K hK => ?_)
    refine value_ (w1 := ?_) (v := ?_) (by rfl) rfl ?_ ?_
    rotate_left 2
    · go_simp
      constructor
      · rfl
      · rfl
    refine hK.out _ _ hHeld (fun hHeld => ?_)
    clear hK K
    refine norm_ (a' := ?_) ?_ ?_
    rotate_left
    · simp only [Act.put, List.setIfInBounds_toArray, List.set_cons_zero, List.set_cons_succ, i64_w, i32_w]; rfl
    refine pure_ (i := 3) (N := some 14) (v := ?_) (a' := ?_) (ls 11 47) rfl rfl (by kernel_rfl) (fun _ _ _ h => h) (Or.inl ⟨by rfl, ?_⟩) ?_ ?_
    rotate_left
    · intro w'; go_simp; with_reducible rfl
    rotate_left
    · simp only [Act.put, List.setIfInBounds_toArray, List.set_cons_zero, List.set_cons_succ, i64_w, i32_w]; rfl
    refine take_ (i := 4) (N := some 15) (v := ?_) (a' := ?_) (ls 11 63) rfl rfl (by kernel_rfl) (fun _ _ _ h => h) (Or.inl ⟨by rfl, ?_⟩) hHeld ?_ ?_
    rotate_left
    · rintro w' ⟨s0, s1, s2, s3⟩; go_simp; with_reducible rfl
    rotate_left
    · simp only [Act.put, List.setIfInBounds_toArray, List.set_cons_zero, List.set_cons_succ, i64_w, i32_w]; rfl
    refine pure_ (i := 6) (N := some 17) (v := ?_) (a' := ?_) (ls 11 127) rfl rfl (by kernel_rfl) (fun _ _ _ h => h) (Or.inl ⟨by rfl, ?_⟩) ?_ ?_
    rotate_left
    · intro w'; go_simp; with_reducible rfl
    rotate_left
    · simp only [Act.put, List.setIfInBounds_toArray, List.set_cons_zero, List.set_cons_succ, i64_w, i32_w]; rfl
    refine take_ (i := 7) (N := some 18) (v := ?_) (a' := ?_) (ls 11 255) rfl rfl (by kernel_rfl) (fun _ _ _ h => h) (Or.inl ⟨by rfl, ?_⟩) hHeld ?_ ?_
    rotate_left
    · rintro w' ⟨s0, s1, s2, s3⟩; go_simp; with_reducible rfl
    rotate_left
    · simp only [Act.put, List.setIfInBounds_toArray, List.set_cons_zero, List.set_cons_succ, i64_w, i32_w]; rfl
    refine one_ (i := 8) (N := some 19) (ls 11 511) rfl rfl (by kernel_rfl) (by decide) (fun K hK => ?_)
    refine value_ (w1 := ?_) (v := ?_) (by rfl) rfl ?_ ?_
    rotate_left 2
    · go_simp
      constructor
      · rfl
      · rfl
    refine hK.out _ _ (by obtain ⟨s0, s1, s2, s3⟩ := hHeld; exact ⟨cell_alloc s0, cell_alloc s1, cell_alloc s2, cell_alloc s3⟩) (fun hHeld => ?_)
    clear hK K
    refine norm_ (a' := ?_) ?_ ?_
    rotate_left
    · simp only [Act.put, List.setIfInBounds_toArray, List.set_cons_zero, List.set_cons_succ, i64_w, i32_w]; rfl
    refine last_ (i := 9) (N := some 20) (ls 11 1023) rfl rfl (by kernel_rfl) (by decide) (fun K hK => ?_)
    refine arr_append1_step (W := W.drew) (by rfl) (.tmp 11) (.tmp 19) 27 3 1 8 (.int .i64 0) rfl Try.underlying27 infoI rfl (by decide) (by decide) p' pre.length c' CS [.int .i64 (val I j)] rfl _ rfl rfl rfl (by simp [Value.oneCell']) AR.out.drew (by omega) ?_
    intro p1 c1' w1 hA hx hm
    have A1 := Lib.hid hA
    have X1 := Lib.hid hx.undrew
    have M1 := Lib.hid hm
    have xt : Boxed w1 (w.heap.size + 1) 27 (.slice p' pre.length c') := X1.out.obj bx (fun h => by have := fr _ h; omega)
    have t0 := xt.cell
    have tf := xt.frozen
    have XT := Lib.hid xt
    clear hA hx hm xt
    refine hK.out _ _ ?_
    clear hK K
    refine norm_ (a' := ?_) ?_ ?_
    rotate_left
    · simp only [Act.put, List.setIfInBounds_toArray, List.set_cons_zero, List.set_cons_succ, i64_w, i32_w]; rfl
    refine last_ (i := 10) (N := none) (ls 11 2047) rfl rfl (by kernel_rfl) (by decide) (fun K hK => ?_)
    refine skip_ (w1 := ?_) (by rfl) rfl ?_ ?_
    rotate_left 1
    · go_simp; rfl
    refine hK.out _ _ ?_
    clear hK K
    refine done_ (by kernel_rfl) ?_
    show KeepsOthers W (w1.setCell ⟨w.heap.size + 1, 0, none⟩ (.slice p1 (pre.length + 1) c1')) ∧ Stay (fun k => k = w.heap.size + 1 + 1 ∨ k = P.g ∨ blkOf pc = some k) W (w1.setCell ⟨w.heap.size + 1, 0, none⟩ (.slice p1 (pre.length + 1) c1')) ∧ LeftI W0 (w.heap.size + 1) I (pre ++ [⟨(j : Int), j, rfl, hj, ha⟩]) (w1.setCell ⟨w.heap.size + 1, 0, none⟩ (.slice p1 (pre.length + 1) c1'))
    have K1 : KeepsOthers W w1 := ⟨X1.out.size, fun k o hk ho => X1.out.obj hk (fun hS => by
      obtain ⟨o', h1', h2'⟩ := arr_isCells AR.out hS
      rw [hk] at h1'
      cases h1'
      rw [ho] at h2'
      cases h2')⟩
    have hfar : ∀ k, blkOf p1 = some k → W0.heap.size ≤ k := fun k hk => by
      rcases M1.out k hk with hh | hh
      · exact fr k hh
      · have := x1.size
        simp at hh
        omega
    refine ⟨K1.trans (KeepsOthers.setCell _ _ _), Stay.ext (S := fun k => k = w.heap.size + 1 ∨ blkOf p' = some k) ((X1.out.mono (fun k h => .inr h)).setCell (p := ⟨w.heap.size + 1, 0, none⟩) (fun _ => .inl rfl) _) (fun k hk hS => ?_), p1, c1', ?_, ?_, ?_, hfar⟩
    · have h1' := HT.out k hk
      rcases hS with hS | hS
      · exact h1'.2 hS
      · have := fr k hS
        omega
    · exact (x1.trans X1.out (fun i hi hS => by have := fr i hS; omega)).setCell (p := ⟨w.heap.size + 1, 0, none⟩) (fun _ => rfl) _
    · have := Boxed.set (.slice p1 (pre.length + 1) c1') XT.out
      simpa using this
    · have h1' := arr_far A1.out (q := ⟨w.heap.size + 1, 0, none⟩) (fun h => by have := hfar _ h; simp at this; omega) (.slice p1 (pre.length + 1) c1')
      rw [← HCS.out] at h1'
      simpa [Chain.ints] using h1'
  case done =>
    rintro D zs W hBD hzs ⟨p', c', x1, bx, ar, fr⟩ hK
    have t0 := bx.cell
    have tl := bx.lt
    have hz : zs.length = cnt al n := by have := congrArg List.length hzs; rw [List.length_map, upTo_length] at this; exact this
    rw [hz] at t0
    have HZ := Lib.hid hz
    have HZS := Lib.hid hzs
    clear hz hzs
    gi_wp2
    show LeavesInM F N _ _ _ _ [{ target := .collected D, args := #[] }] .returning W
    refine leaves_mark1 hK (fun w' hw' => ?_)
    refine ⟨.slice p' (cnt al n) c', by simp [results, Try.f53, go_sem], p', c', rfl, ?_, (X0.trans ((x1.mono (S' := fun k => k = w.heap.size + 1) (fun k h => h)).trans hw' (fun i hi e => absurd hi (by omega))) (fun i hi e => absurd hi (by omega))), fun k hk => by have := fr k hk; omega⟩
    have h2 := arr_ext ar hw' (fun k hk e => by
      obtain ⟨o, ho, hc⟩ := arr_isCells ar hk
      rw [e, hK] at ho
      cases ho
      cases hc)
    rw [HZ.out] at h2
    rw [← cur_upTo, ← HZS.out, List.map_map]
    exact h2
  case stop =>
    rintro D cd pre W hBD hpre hf hK
    exact hf.elim
theorem left_any {B : Nat} {w : World} {b : Nat} {d : Dat} {n : Nat} {I : List Int} {al : Nat → Bool} {H : List El} {P : Pw} {p2 : Option Addr} {c2 : Nat} (h : St B w b d n I al H P p2 c2) :
    Calls Try.prog 53 #[.pointer (some ⟨b, 0, none⟩)] w fun e w' => LeftEnd w I al n e w' :=
  callsIn_wide.1 (left_in Fence.wide 3 trivial trivial trivial rfl (by omega) h)
end Go.Proofs.Ytbepmbihonnkaaa.Bpe
