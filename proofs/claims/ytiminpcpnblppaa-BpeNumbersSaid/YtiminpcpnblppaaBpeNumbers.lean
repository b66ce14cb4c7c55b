/- law10.BpeNumbers. -/
import Derived.Test.YtiminpcpnblppaaBpeColl
namespace Go.Proofs.Ytiminpcpnblppaa.Bpe
open Go.RowKit Go.Proofs.Ytiminpcpnblppaa.Lib Go.Proofs.Ytiminpcpnblppaa.Sl Go.Proofs.Ytiminpcpnblppaa.Chain
set_option linter.unusedVariables false
set_option linter.unusedSimpArgs false

def datA : Dat := ⟨[⟨#[98, 99]⟩, ⟨#[97, 98]⟩, ⟨#[97, 98, 99]⟩], [⟨98, 99, 256⟩, ⟨97, 98, 257⟩, ⟨257, 99, 258⟩], [], [], [⟨32, 32⟩]⟩
def datB : Dat := ⟨[⟨#[97, 97]⟩], [⟨97, 97, 256⟩], [], [], [⟨32, 32⟩]⟩
theorem good_A : good datA = true := by decide +kernel
theorem good_B : good datB = true := by decide +kernel
theorem m_a : mergeT datA ⟨#[97, 98, 99]⟩ = ([97, 256], 0) := by decide +kernel
theorem m_b : mergeT datA ⟨#[97, 98, 97, 98]⟩ = ([257, 257], 0) := by decide +kernel
theorem m_c : mergeT datA ⟨#[97, 97, 98]⟩ = ([97, 257], 0) := by decide +kernel
theorem m_e : mergeT datB ⟨#[97, 97, 97]⟩ = ([256, 97], 0) := by decide +kernel
theorem m_f : mergeT datB ⟨#[97, 97, 97, 97]⟩ = ([256, 256], 0) := by decide +kernel
theorem j_g : joinedT datA [999] = ([], 24) := by decide +kernel
theorem j_j : joinedT datA [257, 99] = ([258], 0) := by decide +kernel
theorem j_q : joinedT datA [259] = ([], 24) := by decide +kernel
theorem s_l : stepsT datA ⟨#[97, 98, 99, 97, 98]⟩ = [(0, 1), (1, 2)] := by decide +kernel
theorem m_long {d : Dat} {s : ByteArray} (h : 1048576 < s.size) : mergeT d s = ([], 3) := if_pos h
theorem j_long {d : Dat} {l : List Int} (h : 1048576 < l.length) : joinedT d l = ([], 3) := if_pos h

theorem Rd.nil {α : Type} {E : En α} {w : World} {p : Option Addr} : Rd E w p [] := fun i x hi => by simp at hi
theorem infoY : (Try.prog.info? 5).map (fun i => (i.zero, i.size, i.bytes)) = some (some (.int .u8 0), 1, 1) := by kernel_rfl
theorem headA (w : World) : ∃ W, ((((w.alloc (.cells #[.string ⟨#[98, 99]⟩, .string ⟨#[97, 98]⟩, .string ⟨#[97, 98, 99]⟩] 9)).alloc
      (.cells #[.int .i64 98, .int .i64 99, .int .i64 256, .int .i64 97, .int .i64 98, .int .i64 257, .int .i64 257, .int .i64 99, .int .i64 258] 59)).alloc
      (.cells #[.int .i32 32, .int .i32 32] 61)).alloc
      (.cells #[.slice (some ⟨w.heap.size, 0, none⟩) 3 3, .slice (some ⟨w.heap.size + 1, 0, none⟩) 3 3, .slice none 0 0, .slice none 0 0, .slice (some ⟨w.heap.size + 1 + 1, 0, none⟩) 1 1] 26)) = W ∧
    DR W (Pl.mk (some ⟨w.heap.size, 0, none⟩) 3 (some ⟨w.heap.size + 1, 0, none⟩) 3 none 0 none 0 (some ⟨w.heap.size + 1 + 1, 0, none⟩) 1) datA ∧ Ext (fun _ => False) w W ∧ W.cell? ⟨w.heap.size + 1 + 1 + 1, 4, none⟩ = some (.slice (some ⟨w.heap.size + 1 + 1, 0, none⟩) 1 1) ∧ w.heap.size + 1 + 1 + 1 < W.heap.size := by
  refine ⟨_, rfl, ⟨Rd.lit (t := 9) (fr := (0, 0)) ?_, Rd.lit (t := 59) (fr := (0, 0)) ?_, Rd.nil, Rd.nil, Rd.lit (t := 61) (fr := (0, 0)) ?_, Nat.le_refl 3, Nat.le_refl 3, Nat.le_refl 0, Nat.le_refl 0, Nat.le_refl 1, by decide, by decide, by decide, by decide, by decide, ?_, ?_⟩, ?_, ?_, ?_⟩
  · exact blk_alloc (blk_alloc (blk_alloc (alloc_at _ _ _ rfl) _) _) _
  · exact blk_alloc (blk_alloc (alloc_at _ _ _ (by simp)) _) _
  · exact blk_alloc (alloc_at _ _ _ (by simp)) _
  · intro s hs
    simp [datA] at hs
    rcases hs with rfl | rfl | rfl <;> decide
  · intro x hx
    simp [datA] at hx
    unfold inI
    rcases hx with rfl | rfl | rfl <;> simp
  · exact ((((Ext.refl _ w).alloc _).alloc _).alloc _).alloc _
  · exact blk_cell (alloc_at _ _ _ (by simp)) 4
  · simp
theorem headB (w : World) (q : Option Addr) (h : Rd eP w q [⟨32, 32⟩]) : ∃ W, ((w.alloc (.cells #[.string ⟨#[97, 97]⟩] 9)).alloc (.cells #[.int .i64 97, .int .i64 97, .int .i64 256] 59)) = W ∧
    DR W (Pl.mk (some ⟨w.heap.size, 0, none⟩) 1 (some ⟨w.heap.size + 1, 0, none⟩) 1 none 0 none 0 q 1) datB ∧ Ext (fun _ => False) w W := by
  have hx : Ext (fun _ => False) w ((w.alloc (.cells #[.string ⟨#[97, 97]⟩] 9)).alloc (.cells #[.int .i64 97, .int .i64 97, .int .i64 256] 59)) := ((Ext.refl _ w).alloc _).alloc _
  refine ⟨_, rfl, ⟨Rd.lit (t := 9) (fr := (0, 0)) ?_, Rd.lit (t := 59) (fr := (0, 0)) ?_, Rd.nil, Rd.nil, h.on hx, Nat.le_refl 1, Nat.le_refl 1, Nat.le_refl 0, Nat.le_refl 0, Nat.le_refl 1, by decide, by decide, by decide, by decide, by decide, ?_, ?_⟩, hx⟩
  · exact blk_alloc (alloc_at _ _ _ rfl) _
  · exact alloc_at _ _ _ (by simp)
  · intro s hs
    simp [datB] at hs
    subst hs; decide
  · intro x hx
    simp [datB] at hx
    unfold inI
    subst hx; simp
/-- What the law has come to. -/
structure BN (w0 W : World) (a b : Nat) (L : List (Option Addr × List Int)) : Prop where
  ma : IsModel W a datA
  mb : IsModel W b datB
  rd : ∀ x ∈ L, Rd eI W x.1 x.2
  ext : Ext (fun _ => False) w0 W
theorem BN.on {w0 W W' : World} {a b : Nat} {L : List (Option Addr × List Int)} (h : BN w0 W a b L) (hx : Ext (fun _ => False) W W') : BN w0 W' a b L :=
  ⟨h.ma.on hx, h.mb.on hx, fun x hm => (h.rd x hm).on hx, h.ext.trans hx (fun _ _ h => h)⟩
theorem BN.push {w0 W W' : World} {a b : Nat} {L : List (Option Addr × List Int)} (h : BN w0 W a b L) {p : Option Addr} {l : List Int} (hr : Rd eI W' p l) (hx : Ext (fun _ => False) W W') : BN w0 W' a b ((p, l) :: L) :=
  ⟨h.ma.on hx, h.mb.on hx, fun x hm => by
    rcases List.mem_cons.1 hm with rfl | hm
    · exact hr
    · exact (h.rd x hm).on hx, h.ext.trans hx (fun _ _ h => h)⟩
/-- And behind the loop. -/
structure BE (w0 W : World) (a b : Nat) (L : List (Option Addr × List Int)) (tb : Nat) (p : Option Addr) (c D : Nat) : Prop where
  bn : BN w0 W a b L
  bx : Boxed W tb 66 (.slice p 2 c)
  rd : Rd eQ W p [(0, 1), (1, 2)]
  df : W.heap[D]? = some (.deferred (some []))
  lo : w0.heap.size ≤ D
theorem BE.on {w0 W W' : World} {a b : Nat} {L : List (Option Addr × List Int)} {tb : Nat} {p : Option Addr} {c D : Nat} (h : BE w0 W a b L tb p c D) (hx : Ext (fun _ => False) W W') : BE w0 W' a b L tb p c D :=
  ⟨h.bn.on hx, hx.obj h.bx (fun h => h), h.rd.on hx, hx.obj h.df (fun h => h), h.lo⟩
def GotEnd (w : World) (l : List Int) (y : Int) (n : Nat) (e : Ending) (w' : World) : Prop := ∃ p c, e = .returned (.tuple #[.slice p n c, .int .i64 y]) ∧ Rd eI w' p l ∧ Ext (fun _ => False) w w'
theorem JoinedEnd.got {w w' : World} {l : List Int} {y : Int} {n : Nat} {e : Ending} (hn : l.length = n) (h : JoinedEnd w l y e w') : GotEnd w l y n e w' := by
  obtain ⟨p, c, rfl, hA, hx, _⟩ := h
  subst hn
  exact ⟨p, c, rfl, ints_rd hA, hx⟩
theorem merge_at {w : World} {m : Nat} {d : Dat} (hm : IsModel w m d) (hd : RightD d) {s : ByteArray} {l : List Int} {y : Int} (e : mergeT d s = (l, y)) (n : Nat) (hn : l.length = n) :
    Calls Try.prog 19 #[.pointer (some ⟨m, 0, none⟩), .string s] w fun e w' => GotEnd w l y n e w' := by
  have := mergeB_any hm hd s
  rw [e] at this
  exact this.mono (fun _ _ h => h.got hn)
theorem joined_at {w : World} {m : Nat} {d : Dat} (hm : IsModel w m d) (hd : RightD d) {p : Option Addr} {k c : Nat} {ids : List Int} (hr : Rd eI w p ids) (hk : ids.length = k) {l : List Int} {y : Int} (e : joinedT d ids = (l, y)) (n : Nat) (hn : l.length = n) :
    Calls Try.prog 13 #[.pointer (some ⟨m, 0, none⟩), .slice p k c] w fun e w' => GotEnd w l y n e w' := by
  subst hk
  have := joined_any hm hd (c := c) hr
  rw [e] at this
  exact this.mono (fun _ _ h => h.got hn)
theorem same_at {w : World} {p q : Option Addr} {c c2 n : Nat} {l : List Int} (hx : Rd eI w p l) (hy : Rd eI w q l) (hn : l.length = n) (hl : n ≤ 1048576) :
    Calls Try.prog 17 #[.slice p n c, .slice q n c2] w fun e w' => e = .returned (.bool true) ∧ Ext (fun _ => False) w w' := by
  subst hn
  have := sameI_any w p q c c2 l l hx hy (by omega)
  rwa [decide_eq_true rfl] at this
theorem lit_rd (w : World) (l : List Int) (cs : Array Value) (e : (flat eI l).toArray = cs) : Rd eI (w.alloc (.cells cs 3)) (some ⟨w.heap.size, 0, none⟩) l := by
  subst e
  exact Rd.lit (fr := (0, 0)) (heap_alloc_new w _)

set_option maxRecDepth 100000 in
set_option maxHeartbeats 8000000 in
theorem bnumbers_any (w : World) : Calls Try.prog 7 #[] w fun e w' => e = .returned (.bool true) ∧ Ext (fun _ => False) w w' := by
  have RA := Lib.hid (RightD.of_good good_A)
  have RB := Lib.hid (RightD.of_good good_B)
  refine (callsIn_wide (n := 9)).1 (callsIn_of_wp_marks Try.func7 rfl trivial (wpIn_wide.2 ?_))
  simp only [Try.ntmps7, List.size_toArray, List.length_cons, List.length_nil, Nat.reduceAdd, Nat.reduceSub, Array.replicate_succ, Array.replicate_zero, List.push_toArray, List.append_toArray, List.nil_append, List.cons_append]
  go_wp2_with fail
  obtain ⟨W1, hW, hD, hx, hb, lb⟩ := headA w
  rw [hW]
  clear hW
  obtain ⟨w9, hw9⟩ : ∃ w9, w.heap.size + 1 + 1 + 1 = w9 := ⟨_, rfl⟩
  rw [hw9] at hb lb ⊢
  clear hw9
  refine (of5_any W1 (Pl.mk (some ⟨w.heap.size, 0, none⟩) 3 (some ⟨w.heap.size + 1, 0, none⟩) 3 none 0 none 0 (some ⟨w.heap.size + 1 + 1, 0, none⟩) 1) datA hD).mono ?_
  rintro e W2 ⟨hx0, h⟩
  rcases h with ⟨hg, _⟩ | ⟨hg, a, rfl, hm, hwa⟩
  · rw [good_A] at hg; cases hg
  have X2 := Lib.hid (hx.trans hx0 (fun _ _ h => h))
  have M2 := Lib.hid hm
  have R2 := Lib.hid ((hD.on hx0).r4)
  have cb := (hx0.cell (p := ⟨w9, 4, none⟩) lb (fun h => h)).trans hb
  have lb2 := Nat.lt_of_lt_of_le lb hx0.size
  clear hx hx0 hD hb lb hg hm hwa
  go_wp2_with fail
  obtain ⟨W3, hW, hD, hx⟩ := headB W2 _ R2.out
  rw [hW]
  clear hW cb lb2
  refine (of5_any W3 (Pl.mk (some ⟨W2.heap.size, 0, none⟩) 1 (some ⟨W2.heap.size + 1, 0, none⟩) 1 none 0 none 0 (some ⟨w.heap.size + 1 + 1, 0, none⟩) 1) datB hD).mono ?_
  rintro e W4 ⟨hx0, h⟩
  rcases h with ⟨hg, _⟩ | ⟨hg, b, rfl, hm, hwa⟩
  · rw [good_B] at hg; cases hg
  have S := Lib.hid (show BN w W4 a b [] from ⟨M2.out.on (hx.trans hx0 (fun _ _ h => h)), hm, (fun x h => by cases h), X2.out.trans (hx.trans hx0 (fun _ _ h => h)) (fun _ _ h => h)⟩)
  clear X2 M2 R2 hx hx0 hD hg hm hwa
  go_wp2_with fail
  refine (merge_at S.out.ma RA.out m_a 2 rfl).mono ?_
  rintro e W5 ⟨pa, ca, rfl, hr, hx⟩
  have S := Lib.hid (S.out.push hr hx)
  clear hr hx
  go_wp2_with fail
  refine (merge_at S.out.ma RA.out m_b 2 rfl).mono ?_
  rintro e W6 ⟨pb, cb, rfl, hr, hx⟩
  have S := Lib.hid (S.out.push hr hx)
  clear hr hx
  go_wp2_with fail
  refine (merge_at S.out.ma RA.out m_c 2 rfl).mono ?_
  rintro e W7 ⟨pc, cc, rfl, hr, hx⟩
  have S := Lib.hid (S.out.push hr hx)
  clear hr hx
  go_wp2_with fail
  refine (merge_at S.out.mb RB.out m_e 2 rfl).mono ?_
  rintro e W8 ⟨pe, ce, rfl, hr, hx⟩
  have S := Lib.hid (S.out.push hr hx)
  clear hr hx
  go_wp2_with fail
  refine (merge_at S.out.mb RB.out m_f 2 rfl).mono ?_
  rintro e W9 ⟨pf, cf, rfl, hr, hx⟩
  have S := Lib.hid (S.out.push hr hx)
  clear hr hx
  have xl : Ext (fun _ => False) W9 (W9.alloc (.cells #[.int .i64 999] 3)) := (Ext.refl _ _).alloc _
  have JO := Lib.hid (joined_at (c := 1) (S.out.on xl).ma RA.out (lit_rd W9 [999] #[.int .i64 999] rfl) (k := 1) rfl j_g 0 rfl)
  clear xl
  go_wp2_with fail
  refine JO.out.mono ?_
  rintro e W10 ⟨pg, cg, rfl, hr, hx⟩
  have S := Lib.hid (S.out.on (((Ext.refl _ _).alloc _).trans hx (fun _ _ h => h)))
  clear hr hx JO
  go_wp2_with fail
  refine (merge_nil W10 _).mono ?_
  rintro e w' ⟨rfl, rfl⟩
  obtain ⟨N, hN⟩ : ∃ N : Nat, N = 1048577 := ⟨_, rfl⟩
  have NN := Lib.hid hN
  clear hN
  go_wp2_with (at_make; (refine arr_make rfl _ _ 62 5 1 1 (.int .u8 0) rfl Try.underlying62 infoY .i64 .i64 _ _ N rfl rfl (by have := NN.out; omega) (by have := NN.out; omega) (by have := NN.out; omega) (by decide) rfl ?_); intro w1 hA hx1; have S1 := Lib.hid (S.out.on hx1); have kz := zeros_str hA; clear hA hx1)
  refine (merge_at S1.out.ma RA.out (m_long (by rw [zeros_size]; have := NN.out; omega)) 0 rfl).mono ?_
  rintro e W11 ⟨pi, ci, rfl, hr, hx⟩
  have S := Lib.hid (S1.out.on hx)
  clear hr hx S1 kz
  have xl : Ext (fun _ => False) W11 (W11.alloc (.cells #[.int .i64 257, .int .i64 99] 3)) := (Ext.refl _ _).alloc _
  have JO := Lib.hid (joined_at (c := 2) (S.out.on xl).ma RA.out (lit_rd W11 [257, 99] #[.int .i64 257, .int .i64 99] rfl) (k := 2) rfl j_j 1 rfl)
  clear xl
  go_wp2_with fail
  refine JO.out.mono ?_
  rintro e W12 ⟨pj, cj, rfl, hr, hx⟩
  have S := Lib.hid (S.out.push hr (((Ext.refl _ _).alloc _).trans hx (fun _ _ h => h)))
  clear hr hx JO
  go_wp2_with (at_make; (refine arr_make rfl _ _ 27 3 1 8 (.int .i64 0) rfl Try.underlying27 infoI .i64 .i64 _ _ N rfl rfl (by have := NN.out; omega) (by have := NN.out; omega) (by have := NN.out; omega) (by decide) rfl ?_); intro w2 hA hx1; have S1 := Lib.hid (S.out.on hx1); have Z := Lib.hid (zeros_ints hA); clear hA hx1)
  refine (joined_at S1.out.ma RA.out Z.out (k := N) (List.length_replicate ..) (j_long (by rw [List.length_replicate]; have := NN.out; omega)) 0 rfl).mono ?_
  rintro e W13 ⟨po, co, rfl, hr, hx⟩
  have S := Lib.hid (S1.out.on hx)
  clear hr hx S1 Z
  have xl : Ext (fun _ => False) W13 (W13.alloc (.cells #[.int .i64 259] 3)) := (Ext.refl _ _).alloc _
  have JO := Lib.hid (joined_at (c := 1) (S.out.on xl).ma RA.out (lit_rd W13 [259] #[.int .i64 259] rfl) (k := 1) rfl j_q 0 rfl)
  clear xl
  go_wp2_with fail
  refine JO.out.mono ?_
  rintro e W14 ⟨pq, cq, rfl, hr, hx⟩
  have S := Lib.hid (S.out.on (((Ext.refl _ _).alloc _).trans hx (fun _ _ h => h)))
  clear hr hx JO
  go_wp2_with fail
  refine (stepsB_any W14 _ _).mono ?_
  rintro e W15 ⟨mb, sb, rfl, bm, bs, lm, ls, hx⟩
  have hq := steps_nil mb sb
  obtain ⟨W0, hW0⟩ : ∃ W0, W15.alloc (.cells #[.slice none 0 0] 66) = W0 := ⟨_, rfl⟩
  obtain ⟨tb, htb⟩ : ∃ tb, W15.heap.size = tb := ⟨_, rfl⟩
  have BT : Boxed W0 tb 66 (.slice none 0 0) := by rw [← hW0, ← htb]; exact Boxed.new W15 _ _
  have X0 : Ext (fun _ => False) W14 W0 := by rw [← hW0]; exact hx.alloc _
  have bm0 : Boxed W0 mb 28 (.pointer (some ⟨a, 0, none⟩)) := by rw [← hW0]; exact bm.alloc _
  have bs0 : Boxed W0 sb 9 (.string ⟨#[97, 98, 99, 97, 98]⟩) := by rw [← hW0]; exact bs.alloc _
  have tl : W14.heap.size ≤ tb := by rw [← htb]; exact hx.size
  have SM := Lib.hid (steps_mut (V := fun k => k = tb) 8 (by omega) S.out.ma RA.out (by decide) X0 (fun k hk => by rw [hk]; exact tl) bm0 bs0)
  have C0 := Lib.hid (colI_start rfl BT)
  have XX := Lib.hid (And.intro X0 BT)
  have TL := Lib.hid tl
  clear bm bs lm ls hx bm0 bs0 tl X0 BT
  go_wp2_with fail
  clear hW0 htb
  refine (wpIn_wide (n := 9)).1 ?_
  refine wpIn_range_mut (n := 9) rfl (by omega) (gf := 40) (lb := #[.pointer (some ⟨mb, 0, none⟩), .pointer (some ⟨sb, 0, none⟩)]) ?hg trivial (enters_of Try.func40 (by kernel_rfl) rfl) SM.out (fun _ => rfl)
    (ColI W0 tb) (fun _ _ _ _ => False) (colI_abide _ _) (colI_turn _ _) (fun _ _ _ _ _ _ h _ _ _ => h) (fun _ _ _ _ _ _ _ h _ _ _ _ => h) C0.out (a₁ := ?a1) (Pa := fun x k W => W.heap[k]? = some (.cells #[.int .i64 (x.1 : Int), .int .i64 (x.2 : Int)] 68 (0, 0)))
    (fun x k W l o o' h ho hc => (World.putObj_heap_other (fun e => by subst e; rw [h] at ho; cases ho; cases hc)).trans h) ?assign ?body ?done ?stop
  case hg => kernel_rfl
  case assign =>
    intro l x W k K hk hK
    refine startL_ rfl (fun ⟨_, _, h⟩ => h) ?_
    go_wp2_with fail
    exact hK _ ((Ext.refl _ _).alloc _) (alloc_at _ _ _ hk.symm)
  case body =>
    rintro l pre x O W k ⟨p, c, x1, bx, ar, fr, hO, lt⟩ hnx hOW hk
    have hpl : pre.length < 1048576 := by
      have := hnx.length_le
      rw [s_l] at this
      simp at this
      omega
    have t0 := bx.cell
    have tf := bx.frozen
    have tl := bx.lt
    have k0 := blk_cell hk 0
    have k1 := blk_cell hk 1
    simp at k0 k1
    obtain ⟨CS, hCS⟩ : ∃ CS, flat eQ pre = CS := ⟨_, rfl⟩
    rw [hCS] at ar
    have AR := Lib.hid ar
    have X1 := Lib.hid x1
    have BX := Lib.hid bx
    have HCS := Lib.hid hCS
    have FO := Lib.hid (And.intro fr (And.intro hOW lt))
    have PL := Lib.hid hpl
    have lk := blk_lt hk
    clear x1 bx ar fr hO lt hnx hOW hk hCS hpl
    gi_upto_region 25 with (fail)
    refine startL_ rfl (fun ⟨_, _, h⟩ => h) ?_
    go_wp2_with (at_builtin; refine arr_append1 rfl (.tmp 136) (.tmp 138) 66 68 2 16 (.agg #[.int .i64 0, .int .i64 0]) rfl Try.underlying66 infoT rfl (by decide) (by decide) p pre.length c CS [.int .i64 (x.1 : Int), .int .i64 (x.2 : Int)] rfl _ rfl (by simp) rfl (by simp [Value.oneCell']) AR.out (by have := PL.out; omega) ?_; intro p8 c8 w8 hA8 hx8 hm8; have A8 := Lib.hid hA8; have X8 := Lib.hid hx8; have M8 := Lib.hid hm8; have b8 : Boxed w8 tb 66 (.slice p pre.length c) := hx8.obj BX.out (fun h => by have := (FO.out.1 _ h).1; have := FO.out.2.2; omega); have t0 := b8.cell; have tf := b8.frozen; have tl := b8.lt; clear hA8 hx8 hm8 b8)
    have R := colI_push X1.out BX.out (by rw [HCS.out]; exact AR.out) FO.out.1 FO.out.2.1 FO.out.2.2 (by rw [HCS.out]; exact A8.out) X8.out M8.out
    exact ⟨R.1, R.2.1, R.2.2⟩
  case done =>
    rintro D xs O W hD hxs ⟨p, c, x, bx, ar, fr, hO, lt⟩ nO hdf
    rw [s_l] at hxs
    subst hxs
    have S := Lib.hid (show BE w W a b [(pj, [258]), (pf, [256, 256]), (pe, [256, 97]), (pc, [97, 257]), (pb, [257, 257]), (pa, [97, 256])] tb p c D from
      ⟨S.out.on (XX.out.1.trans x (fun i hi h => by have := XX.out.2; have := TL.out; omega)), bx, Rd.of_arr ar, hdf, by have := S.out.ext.size; have := XX.out.1.size; omega⟩)
    clear x bx ar fr hO lt nO hdf hD XX C0 SM
    dsimp only [Exit.inBlock, Exit.then]
    have xl : Ext (fun _ => False) W (W.alloc (.cells #[.int .i64 97, .int .i64 256] 3)) := (Ext.refl _ _).alloc _
    have SA := Lib.hid (same_at (c := ca) (c2 := 2) ((S.out.on xl).bn.rd (pa, [97, 256]) (by simp)) (lit_rd W [97, 256] #[.int .i64 97, .int .i64 256] rfl) (n := 2) rfl (by decide))
    clear xl
    go_wp2_with fail
    refine SA.out.mono ?_
    rintro e Va ⟨rfl, hx⟩
    have S := Lib.hid (S.out.on (((Ext.refl _ _).alloc _).trans hx (fun _ _ h => h)))
    clear hx SA
    have xl : Ext (fun _ => False) Va (Va.alloc (.cells #[.int .i64 257, .int .i64 257] 3)) := (Ext.refl _ _).alloc _
    have SA := Lib.hid (same_at (c := cb) (c2 := 2) ((S.out.on xl).bn.rd (pb, [257, 257]) (by simp)) (lit_rd Va [257, 257] #[.int .i64 257, .int .i64 257] rfl) (n := 2) rfl (by decide))
    clear xl
    go_wp2_with fail
    refine SA.out.mono ?_
    rintro e Vb ⟨rfl, hx⟩
    have S := Lib.hid (S.out.on (((Ext.refl _ _).alloc _).trans hx (fun _ _ h => h)))
    clear hx SA
    have xl : Ext (fun _ => False) Vb (Vb.alloc (.cells #[.int .i64 97, .int .i64 257] 3)) := (Ext.refl _ _).alloc _
    have SA := Lib.hid (same_at (c := cc) (c2 := 2) ((S.out.on xl).bn.rd (pc, [97, 257]) (by simp)) (lit_rd Vb [97, 257] #[.int .i64 97, .int .i64 257] rfl) (n := 2) rfl (by decide))
    clear xl
    go_wp2_with fail
    refine SA.out.mono ?_
    rintro e Vc ⟨rfl, hx⟩
    have S := Lib.hid (S.out.on (((Ext.refl _ _).alloc _).trans hx (fun _ _ h => h)))
    clear hx SA
    have xl : Ext (fun _ => False) Vc (Vc.alloc (.cells #[.int .i64 256, .int .i64 97] 3)) := (Ext.refl _ _).alloc _
    have SA := Lib.hid (same_at (c := ce) (c2 := 2) ((S.out.on xl).bn.rd (pe, [256, 97]) (by simp)) (lit_rd Vc [256, 97] #[.int .i64 256, .int .i64 97] rfl) (n := 2) rfl (by decide))
    clear xl
    go_wp2_with fail
    refine SA.out.mono ?_
    rintro e Ve ⟨rfl, hx⟩
    have S := Lib.hid (S.out.on (((Ext.refl _ _).alloc _).trans hx (fun _ _ h => h)))
    clear hx SA
    have xl : Ext (fun _ => False) Ve (Ve.alloc (.cells #[.int .i64 256, .int .i64 256] 3)) := (Ext.refl _ _).alloc _
    have SA := Lib.hid (same_at (c := cf) (c2 := 2) ((S.out.on xl).bn.rd (pf, [256, 256]) (by simp)) (lit_rd Ve [256, 256] #[.int .i64 256, .int .i64 256] rfl) (n := 2) rfl (by decide))
    clear xl
    go_wp2_with fail
    refine SA.out.mono ?_
    rintro e Vf ⟨rfl, hx⟩
    have S := Lib.hid (S.out.on (((Ext.refl _ _).alloc _).trans hx (fun _ _ h => h)))
    clear hx SA
    have xl : Ext (fun _ => False) Vf (Vf.alloc (.cells #[.int .i64 258] 3)) := (Ext.refl _ _).alloc _
    have SA := Lib.hid (same_at (c := cj) (c2 := 1) ((S.out.on xl).bn.rd (pj, [258]) (by simp)) (lit_rd Vf [258] #[.int .i64 258] rfl) (n := 1) rfl (by decide))
    clear xl
    go_wp2_with fail
    refine SA.out.mono ?_
    rintro e Vj ⟨rfl, hx⟩
    have S := Lib.hid (S.out.on (((Ext.refl _ _).alloc _).trans hx (fun _ _ h => h)))
    clear hx SA
    have xl : Ext (fun _ => False) Vj (Vj.alloc (.cells #[.int .i64 0, .int .i64 1, .int .i64 1, .int .i64 2] 68)) := (Ext.refl _ _).alloc _
    have SA := Lib.hid (sameT_any (Vj.alloc (.cells #[.int .i64 0, .int .i64 1, .int .i64 1, .int .i64 2] 68)) p (some ⟨Vj.heap.size, 0, none⟩) c 2 [(0, 1), (1, 2)] [(0, 1), (1, 2)] (S.out.on xl).rd (Rd.lit (E := eQ) (t := 68) (fr := (0, 0)) (heap_alloc_new Vj _)) (by decide))
    rw [decide_eq_true rfl] at SA
    clear xl
    have t0 := S.out.bx.cell
    have tl := S.out.bx.lt
    go_wp2_with fail
    refine SA.out.mono ?_
    rintro e Vt ⟨rfl, hx⟩
    have S := Lib.hid (S.out.on (((Ext.refl _ _).alloc _).trans hx (fun _ _ h => h)))
    clear hx SA t0 tl
    go_wp2_with fail
    refine (known10_any Vt).mono ?_
    rintro e Vk ⟨rfl, hx⟩
    have S := Lib.hid (S.out.on hx)
    clear hx
    go_wp2_with fail
    show LeavesInM Fence.wide _ _ _ _ _ [{ target := .collected D, args := #[] }] .returning Vk
    refine leaves_mark1 S.out.df (fun w' hw' => ?_)
    exact ⟨.bool true, by simp [results, Try.f7, go_sem], rfl, S.out.bn.ext.trans hw' (fun i hi h => by have := S.out.lo; omega)⟩
  case stop =>
    rintro D c pre O W hD _ h _ _
    exact False.elim h
end Go.Proofs.Ytiminpcpnblppaa.Bpe
