/- chain: contracts of New, Has, Next, Prev, Len, Cut over the rows. -/
import Derived.Test.YtbepmbihonnkaaaLib
import Derived.Test.YtbepmbihonnkaaaProg
import Derived.Test.YtbepmbihonnkaaaChainPure
namespace Go.Proofs.Ytbepmbihonnkaaa.Chain
open Go.RowKit Go.Proofs.Ytbepmbihonnkaaa.Lib
set_option linter.unusedVariables false
set_option linter.unusedSimpArgs false

/-- The block of a Chain: p, q its rows' addresses. -/
def CB (w : World) (g : Nat) (n : Nat) (p : Option Addr) (c : Nat) (q : Option Addr) (d : Nat) (first len : Int) : Prop :=
  w.heap[g]? = some (.cells #[.slice p n c, .slice q n d, .int .i64 first, .int .i64 len] 148 (0, 0))

def ints (xs : List Int) : List Value := xs.map (Value.int .i64)

theorem info3 : (Try.prog.info? 3).map (fun i => (i.zero, i.size, i.bytes)) = some (some (.int .i64 0), 1, 8) := by kernel_rfl

theorem ints_append (xs ys : List Int) : ints (xs ++ ys) = ints xs ++ ints ys := by simp [ints]

/-- A chain's memory at g: the rows p, q; nx, pv what they hold. -/
structure Mem (w : World) (g : Nat) (n : Nat) (p : Option Addr) (c : Nat) (q : Option Addr) (d : Nat) (nx pv : List Int) (first len : Int) : Prop where
  blk : CB w g n p c q d first len
  nx : Arr w 3 1 p n c (ints nx)
  pv : Arr w 3 1 q n d (ints pv)
  pg : blkOf p ≠ some g
  qg : blkOf q ≠ some g
  pq : ∀ k, blkOf p = some k → blkOf q ≠ some k

/-- The loop's state. -/
def NewSt (W w : World) (N k : Nat) : Prop := ∃ p c q d, Mem w W.heap.size k p c q d (upFrom k 1) (upFrom k (-1)) (-1) N ∧ (∀ b, blkOf p = some b → W.heap.size ≤ b) ∧ (∀ b, blkOf q = some b → W.heap.size ≤ b) ∧ Ext (fun _ => False) W w


/-- Behind the first append and its store. -/
theorem new_first {W wr w1 : World} {N k : Nat} {p q p1 : Option Addr} {c d c1 : Nat} (hM : Mem wr W.heap.size k p c q d (upFrom k 1) (upFrom k (-1)) (-1) N)
    (hp : ∀ b, blkOf p = some b → W.heap.size ≤ b) (hq : ∀ b, blkOf q = some b → W.heap.size ≤ b) (hx : Ext (fun _ => False) W wr)
    (hA1 : Arr w1 3 1 p1 (k + 1) c1 (ints (upFrom k 1) ++ [Value.int IntKind.i64 (↑k + 1)])) (hx1 : Ext (fun k => blkOf p = some k) wr w1) (hm1 : Moved wr p p1) :
    w1.heap[W.heap.size]? = some (.cells #[.slice p k c, .slice q k d, .int .i64 (-1), .int .i64 N] 148 (0, 0)) ∧
    (w1.setCell ⟨W.heap.size, 0, none⟩ (.slice p1 (k + 1) c1)).heap[W.heap.size]? = some (.cells #[.slice p1 (k + 1) c1, .slice q k d, .int .i64 (-1), .int .i64 N] 148 (0, 0)) ∧
    Arr (w1.setCell ⟨W.heap.size, 0, none⟩ (.slice p1 (k + 1) c1)) 3 1 p1 (k + 1) c1 (ints (upFrom (k + 1) 1)) ∧ Arr (w1.setCell ⟨W.heap.size, 0, none⟩ (.slice p1 (k + 1) c1)) 3 1 q k d (ints (upFrom k (-1))) ∧
    blkOf p1 ≠ some W.heap.size ∧ (∀ b, blkOf p1 = some b → W.heap.size ≤ b) ∧ (∀ b, blkOf p1 = some b → blkOf q ≠ some b) ∧ Ext (fun _ => False) W (w1.setCell ⟨W.heap.size, 0, none⟩ (.slice p1 (k + 1) c1)) := by
  have hb1 := hx1.obj hM.blk hM.pg
  have hlt := blk_lt hM.blk
  have e1 : blkOf p1 ≠ some W.heap.size := fun e => (hm1 _ e).elim hM.pg (fun h => by omega)
  have hA2 : Arr w1 3 1 p1 (k + 1) c1 (ints (upFrom (k + 1) 1)) := by rw [upFrom_succ, ints_append]; exact hA1
  refine ⟨hb1, ?_, arr_far hA2 e1 _, arr_far (arr_ext hM.pv hx1 (fun b hb e => hM.pq b e hb)) hM.qg _, e1, fun b hb => ?_, fun b hb e => ?_, ?_⟩
  · have := blk_set hb1 0 (.slice p1 (k + 1) c1)
    simpa using this
  · rcases hm1 b hb with h | h
    · exact hp b h
    · have := hx.size; omega
  · rcases hm1 b hb with h | h
    · exact hM.pq b h e
    · have := arr_lt hM.pv e; omega
  · exact (hx.trans hx1 (fun i hi e => by have := hp i e; omega)).setCell (fun h => by simp at h) _

theorem new_second {W wr w2 : World} {N k : Nat} {p q q1 : Option Addr} {c d d1 : Nat}
    (hb : wr.heap[W.heap.size]? = some (.cells #[.slice p (k + 1) c, .slice q k d, .int .i64 (-1), .int .i64 N] 148 (0, 0)))
    (hP : Arr wr 3 1 p (k + 1) c (ints (upFrom (k + 1) 1))) (hQ : Arr wr 3 1 q k d (ints (upFrom k (-1)))) (hpg : blkOf p ≠ some W.heap.size) (hqg : blkOf q ≠ some W.heap.size)
    (hp : ∀ b, blkOf p = some b → W.heap.size ≤ b) (hpq : ∀ b, blkOf p = some b → blkOf q ≠ some b) (hq : ∀ b, blkOf q = some b → W.heap.size ≤ b) (hx : Ext (fun _ => False) W wr)
    (hA1 : Arr w2 3 1 q1 (k + 1) d1 (ints (upFrom k (-1)) ++ [Value.int IntKind.i64 (↑k - 1)])) (hx1 : Ext (fun k => blkOf q = some k) wr w2) (hm1 : Moved wr q q1) :
    w2.heap[W.heap.size]? = some (.cells #[.slice p (k + 1) c, .slice q k d, .int .i64 (-1), .int .i64 N] 148 (0, 0)) ∧
    NewSt W (w2.setCell ⟨W.heap.size, 1, none⟩ (.slice q1 (k + 1) d1)) N (k + 1) := by
  have hb1 := hx1.obj hb hqg
  have hlt := blk_lt hb
  have e1 : blkOf q1 ≠ some W.heap.size := fun e => (hm1 _ e).elim hqg (fun h => by omega)
  have hA2 : Arr w2 3 1 q1 (k + 1) d1 (ints (upFrom (k + 1) (-1))) := by rw [upFrom_succ, ints_append]; exact hA1
  refine ⟨hb1, p, c, q1, d1, ⟨?_, arr_far (arr_ext hP hx1 (fun b hb e => hpq b hb e)) hpg _, arr_far hA2 e1 _, hpg, e1, fun b hb e => ?_⟩, hp, fun b hb => ?_, ?_⟩
  · have := blk_set hb1 1 (.slice q1 (k + 1) d1)
    simpa [CB] using this
  · rcases hm1 b e with h | h
    · exact hpq b hb h
    · have := arr_lt hP hb; omega
  · rcases hm1 b hb with h | h
    · exact hq b h
    · have := hx.size; omega
  · exact (hx.trans hx1 (fun i hi e => by have := hq i e; omega)).setCell (fun h => by simp at h) _

theorem new_start (W : World) (N : Nat) : NewSt W (W.alloc (.cells #[.slice none 0 0, .slice none 0 0, .int .i64 (-1), .int .i64 N] 148)) N 0 :=
  ⟨none, 0, none, 0, ⟨heap_alloc_new W _, arr_nil _ _ _, arr_nil _ _ _, by simp, by simp, by simp⟩, by simp, by simp, (Ext.refl _ W).alloc _⟩


/-- A chain at g: its blocks are of S; the numbers of al stand there. -/
def IsChain (w : World) (g : Nat) (S : Nat → Prop) (n : Nat) (al : Nat → Bool) : Prop :=
  ∃ p c q d nx pv first len, Mem w g n p c q d nx pv first len ∧ CInv n al nx pv first len ∧ n ≤ 1048576 ∧ S g ∧ (∀ k, blkOf p = some k → S k) ∧ (∀ k, blkOf q = some k → S k)

theorem Mem.ext {w w' : World} {g n : Nat} {p q : Option Addr} {c d : Nat} {nx pv : List Int} {first len : Int} {S : Nat → Prop} (h : Mem w g n p c q d nx pv first len) (hx : Ext S w w')
    (hg : ¬ S g) (hp : ∀ k, blkOf p = some k → ¬ S k) (hq : ∀ k, blkOf q = some k → ¬ S k) : Mem w' g n p c q d nx pv first len :=
  ⟨hx.obj h.blk hg, arr_ext h.nx hx hp, arr_ext h.pv hx hq, h.pg, h.qg, h.pq⟩
theorem Mem.drewN {w : World} {g n : Nat} {p q : Option Addr} {c d : Nat} {nx pv : List Int} {first len : Int} (h : Mem w g n p c q d nx pv first len) (m : Nat) : Mem (w.drewN m) g n p c q d nx pv first len :=
  ⟨h.blk, h.nx, h.pv, h.pg, h.qg, h.pq⟩
theorem IsChain.ext {w w' : World} {g n : Nat} {S T : Nat → Prop} {al : Nat → Bool} (h : IsChain w g S n al) (hx : Ext T w w') (hd : ∀ k, S k → k < w.heap.size → ¬ T k) : IsChain w' g S n al := by
  obtain ⟨p, c, q, d, nx, pv, first, len, hM, hI, hn, h1, h2, h3⟩ := h
  exact ⟨p, c, q, d, nx, pv, first, len, hM.ext hx (hd g h1 (blk_lt hM.blk)) (fun k hk => hd k (h2 k hk) (arr_lt hM.nx hk)) (fun k hk => hd k (h3 k hk) (arr_lt hM.pv hk)), hI, hn, h1, h2, h3⟩
theorem IsChain.mono {w : World} {g n : Nat} {S T : Nat → Prop} {al : Nat → Bool} (h : IsChain w g S n al) (hs : ∀ k, k < w.heap.size → S k → T k) : IsChain w g T n al := by
  obtain ⟨p, c, q, d, nx, pv, first, len, hM, hI, hn, h1, h2, h3⟩ := h
  exact ⟨p, c, q, d, nx, pv, first, len, hM, hI, hn, hs _ (blk_lt hM.blk) h1, fun k hk => hs k (arr_lt hM.nx hk) (h2 k hk), fun k hk => hs k (arr_lt hM.pv hk) (h3 k hk)⟩

theorem new_end0 {W wr : World} (h : NewSt W wr 0 0) : IsChain wr W.heap.size (fun k => W.heap.size ≤ k ∧ k < wr.heap.size) 0 (allAl 0) ∧ Ext (fun _ => False) W wr := by
  obtain ⟨p, c, q, d, hM, hp, hq, hx⟩ := h
  exact ⟨⟨p, c, q, d, _, _, _, _, hM, CInv.new 0, by omega, ⟨Nat.le_refl _, blk_lt hM.blk⟩, fun k hk => ⟨hp k hk, arr_lt hM.nx hk⟩, fun k hk => ⟨hq k hk, arr_lt hM.pv hk⟩⟩, hx⟩
theorem new_end1 {W wr : World} {n a c d : Nat} {q : Option Addr} (hn : n ≠ 0) (hn2 : n ≤ 1048576) (hM : Mem wr W.heap.size n (some ⟨a, 0, none⟩) c q d (upFrom n 1) (upFrom n (-1)) (-1) n)
    (hp : ∀ b, blkOf (some ⟨a, 0, none⟩) = some b → W.heap.size ≤ b) (hq : ∀ b, blkOf q = some b → W.heap.size ≤ b) (hx : Ext (fun _ => False) W wr) :
    IsChain ((wr.setCell ⟨W.heap.size, 2, none⟩ (.int .i64 0)).setCell ⟨a, n - 1, none⟩ (.int .i64 (-1))) W.heap.size (fun k => W.heap.size ≤ k ∧ k < ((wr.setCell ⟨W.heap.size, 2, none⟩ (.int .i64 0)).setCell ⟨a, n - 1, none⟩ (.int .i64 (-1))).heap.size) n (allAl n) ∧
      Ext (fun _ => False) W ((wr.setCell ⟨W.heap.size, 2, none⟩ (.int .i64 0)).setCell ⟨a, n - 1, none⟩ (.int .i64 (-1))) := by
  have hga : W.heap.size ≠ a := fun e => hM.pg (by simp [e])
  have hI := CInv.new n
  rw [if_neg hn, if_neg hn] at hI
  refine ⟨⟨_, c, q, d, _, _, _, _, ⟨?_, ?_, ?_, hM.pg, hM.qg, hM.pq⟩, hI, hn2, ?_, fun k hk => ?_, fun k hk => ?_⟩, ?_⟩
  · refine blk_far ?_ hga _
    have := blk_set hM.blk 2 (.int .i64 0)
    simpa [CB] using this
  · have := arr_set (arr_far hM.nx (q := ⟨W.heap.size, 2, none⟩) hM.pg (.int .i64 0)) (n - 1) (.int .i64 (-1))
    simpa [ints, List.map_set] using this
  · exact arr_far (arr_far hM.pv (q := ⟨W.heap.size, 2, none⟩) hM.qg _) (hM.pq a rfl) _
  · simp; exact blk_lt hM.blk
  · simp; exact ⟨hp k hk, arr_lt hM.nx hk⟩
  · simp; exact ⟨hq k hk, arr_lt hM.pv hk⟩
  · exact (hx.setCell (fun h => by simp at h) _).setCell (fun h => by have := hp a rfl; simp at h; omega) _

/-- New. -/
theorem new_any (W : World) (m : Int) (N : Nat) (hN : mn (mx m 0) 1048576 = (N : Int)) :
    Calls Try.prog 65 #[.int .i64 m] W fun e w' => e = .returned (.pointer (some ⟨W.heap.size, 0, none⟩)) ∧ IsChain w' W.heap.size (fun k => W.heap.size ≤ k ∧ k < w'.heap.size) N (allAl N) ∧ Ext (fun _ => False) W w' := by
  have hN2 : N ≤ 1048576 := by rw [mn_eq, mx_eq] at hN; omega
  go_enter Try.func65, Try.ntmps65
  go_wp2
  go_loopw [12] (fun i wr => ∃ k : Nat, k ≤ N ∧ i = .int .i64 k ∧ NewSt W wr N k) (fun i _ => N - (intOf i).toNat)
  case atStart => exact ⟨0, Nat.zero_le _, rfl, new_start W N⟩
  case round =>
    obtain ⟨k, hk, rfl, hst⟩ := hrel
    have HST := Lib.hid hst
    obtain ⟨p, c, q, d, hM, hp, hq, hx⟩ := hst
    have c0 := blk_cell hM.blk 0
    have f0 := blk_frozen hM.blk 0
    simp at c0
    have HP := Lib.hid hp
    have HQ := Lib.hid hq
    clear hp hq
    by_cases hlt : k < N
    · go_wp2_with (first
        | (at_builtin; refine arr_append1 rfl (.tmp 19) (.tmp 22) 27 3 1 8 (.int .i64 0) rfl Try.underlying27 info3 rfl (by decide) (by decide) _ _ _ _ [.int .i64 ((k : Int) + 1)] rfl _ rfl (by simp) rfl (by simp [Value.oneCell']) hM.nx (by omega) ?_; intro p1 c1 w1 hA1 hx1 hm1; have R := new_first hM HP.out HQ.out hx hA1 hx1 hm1; obtain ⟨b1, b2, HA, HB, R⟩ := R; have R := Lib.hid R; have z0 := blk_cell b1 0; have zf := blk_frozen b1 0; have y1 := blk_cell b2 1; have yf := blk_frozen b2 1; simp at z0 y1)
        | (at_builtin; refine arr_append1 rfl (.tmp 30) (.tmp 33) 27 3 1 8 (.int .i64 0) rfl Try.underlying27 info3 rfl (by decide) (by decide) _ _ _ _ [.int .i64 ((k : Int) - 1)] rfl _ rfl (by simp) rfl (by simp [Value.oneCell']) HB (by omega) ?_; intro q1 d1 w2 hA2 hx2 hm2; have T := new_second b2 HA HB R.out.1 hM.qg R.out.2.1 R.out.2.2.1 HQ.out R.out.2.2.2 hA2 hx2 hm2; obtain ⟨b3, T⟩ := T; have T := Lib.hid T; have x1 := blk_cell b3 1; have xf := blk_frozen b3 1; simp at x1))
      go_roundw
      case rel => exact ⟨k + 1, by omega, by go_num, T.out⟩
      case measure => simp [intOf]; omega
    · obtain rfl : k = N := by omega
      have b0 := hM.blk
      have c2 := blk_cell hM.blk 2
      have f2 := blk_frozen hM.blk 2
      simp at c2
      by_cases h0 : k = 0
      · have h0' : decide (0 < k) = false := by simp; omega
        go_wp2_with fail
        go_ret
        refine ⟨rfl, ?_⟩
        subst h0
        exact new_end0 HST.out
      · obtain ⟨a, rfl⟩ := arr_some hM.nx (by omega)
        have hkk : (k : Int).toNat - 1 = k - 1 := by omega
        have hc := arr_cell hM.nx (k - 1) (by omega)
        rw [show (ints (upFrom k 1))[k - 1]? = some (.int .i64 k) from by rw [ints, List.getElem?_map, upFrom_get _ _ _ (by omega)]; simp; omega] at hc
        have fc := arr_frozen hM.nx (k - 1)
        have hga : W.heap.size ≠ a := fun e => hM.pg (by simp [e])
        have HE := Lib.hid (new_end1 h0 hN2 hM HP.out HQ.out hx)
        go_wp2_with fail
        go_ret
        exact ⟨rfl, HE.out⟩

section
variable {w : World} {g n : Nat} {S : Nat → Prop} {al : Nat → Bool}

theorem CInv.get_nx {nx pv : List Int} {first len : Int} (h : CInv n al nx pv first len) {i : Nat} (hi : i < n) : (ints nx)[i]? = some (.int .i64 (if al i then nextOf n al i else i)) := by
  rw [ints, List.getElem?_map]
  cases ha : al i with
  | true => rw [h.next i hi ha]; rfl
  | false => rw [(h.dead i hi ha).1]; rfl
theorem CInv.get_pv {nx pv : List Int} {first len : Int} (h : CInv n al nx pv first len) {i : Nat} (hi : i < n) : (ints pv)[i]? = some (.int .i64 (if al i then prevOf al i else i)) := by
  rw [ints, List.getElem?_map]
  cases ha : al i with
  | true => rw [h.prev i hi ha]; rfl
  | false => rw [(h.dead i hi ha).2]; rfl
theorem next_ne {n : Nat} {al : Nat → Bool} {i : Nat} : nextOf n al i ≠ i := fun e => by
  rcases (nextOf_is n al i).range (by omega) with h | ⟨h, _⟩ <;> omega
theorem prev_ne {al : Nat → Bool} {i : Nat} : prevOf al i ≠ i := fun e => by
  rcases (prevOf_is al i).range with h | ⟨h, _⟩ <;> omega

set_option maxHeartbeats 400000 in
theorem has_in {p : Option Addr} {a c d : Nat} {q : Option Addr} {first len i x : Int} (hb : CB w g n (some ⟨a, 0, none⟩) c q d first len) (h0 : 0 ≤ i) (h1 : i < n) (hx : w.cell? ⟨a, i.toNat, none⟩ = some (.int .i64 x)) :
    Calls Try.prog 86 #[.pointer (some ⟨g, 0, none⟩), .int .i64 i] w fun e w' => e = .returned (.bool (x != i)) ∧ w = w' := by
  have hc := blk_cell hb 0
  simp at hc
  clear hb
  have h0' : decide (0 ≤ i) = true := by simpa using h0
  have h1' : decide (i < n) = true := by simpa using h1
  go_enter Try.func86, Try.ntmps86
  go_wp2
  go_ret
  exact ⟨rfl, rfl⟩

set_option maxHeartbeats 400000 in
theorem has_out {p : Option Addr} {c d : Nat} {q : Option Addr} {first len i : Int} (hb : CB w g n p c q d first len) (h : i < 0 ∨ n ≤ i) :
    Calls Try.prog 86 #[.pointer (some ⟨g, 0, none⟩), .int .i64 i] w fun e w' => e = .returned (.bool false) ∧ w = w' := by
  have hc := blk_cell hb 0
  simp at hc
  clear hb
  by_cases h0 : 0 ≤ i
  · have h0' : decide (0 ≤ i) = true := by simpa using h0
    have h1' : decide (i < n) = false := by simp; omega
    go_enter Try.func86, Try.ntmps86
    go_wp2
    go_ret
    exact ⟨rfl, rfl⟩
  · have h0' : decide (0 ≤ i) = false := by simp; omega
    go_enter Try.func86, Try.ntmps86
    go_wp2
    go_ret
    exact ⟨rfl, rfl⟩

/-- Has. -/
theorem has_any (h : IsChain w g S n al) (i : Int) :
    Calls Try.prog 86 #[.pointer (some ⟨g, 0, none⟩), .int .i64 i] w fun e w' => e = .returned (.bool (inAl al i)) ∧ w = w' := by
  obtain ⟨p, c, q, d, nx, pv, first, len, hM, hI, hn, h1, h2, h3⟩ := h
  by_cases hi : 0 ≤ i ∧ i < n
  · obtain ⟨a, rfl⟩ := arr_some hM.nx (by omega)
    have hc := arr_cell hM.nx i.toNat (by omega)
    rw [hI.get_nx (by omega)] at hc
    refine (has_in (p := none) hM.blk hi.1 hi.2 hc).mono ?_
    rintro e w' ⟨rfl, rfl⟩
    refine ⟨?_, rfl⟩
    congr 2
    unfold inAl
    rw [decide_eq_true hi.1, Bool.true_and]
    have e0 : ((i.toNat : Nat) : Int) = i := by omega
    have hne := next_ne (n := n) (al := al) (i := i.toNat)
    rw [e0] at hne ⊢
    cases ha : al i.toNat with
    | true => exact bne_iff_ne.2 hne
    | false => simp
  · refine (has_out hM.blk (by omega)).mono ?_
    rintro e w' ⟨rfl, rfl⟩
    refine ⟨?_, rfl⟩
    congr 2
    unfold inAl
    by_cases h0 : 0 ≤ i
    · rw [hI.out i.toNat (by omega)]; simp
    · simp [h0]

/-- Next. -/
theorem next_any (h : IsChain w g S n al) (i : Int) :
    Calls Try.prog 70 #[.pointer (some ⟨g, 0, none⟩), .int .i64 i] w fun e w' => e = .returned (.int .i64 (if inAl al i then nextOf n al i else -1)) ∧ w = w' := by
  have HH := Lib.hid (has_any h i)
  obtain ⟨p, c, q, d, nx, pv, first, len, hM, hI, hn, h1, h2, h3⟩ := h
  cases hb : inAl al i with
  | false =>
    clear hM hI
    go_enter Try.func70, Try.ntmps70
    go_wp2_with (go_at_call 86; refine HH.out.mono ?_; rintro e w' ⟨rfl, rfl⟩)
    go_ret
    exact ⟨rfl, rfl⟩
  | true =>
    have hb' := hb
    simp only [inAl, Bool.and_eq_true, decide_eq_true_eq] at hb'
    have hin : i.toNat < n := by
      rcases Nat.lt_or_ge i.toNat n with x | x
      · exact x
      · rw [hI.out _ x] at hb'; simp at hb'
    obtain ⟨a, rfl⟩ := arr_some hM.nx (by omega)
    have hc := arr_cell hM.nx i.toNat (by omega)
    rw [hI.get_nx hin, if_pos hb'.2] at hc
    have c0 := blk_cell hM.blk 0
    simp at c0
    have hi0 : 0 ≤ i := hb'.1
    have hi1 : i < n := by omega
    have e0 : ((i.toNat : Nat) : Int) = i := by omega
    rw [e0] at hc
    clear hM hI hb' e0
    go_enter Try.func70, Try.ntmps70
    go_wp2_with (go_at_call 86; refine HH.out.mono ?_; rintro e w' ⟨rfl, rfl⟩)
    go_ret
    exact ⟨rfl, rfl⟩

/-- Prev. -/
theorem prev_any (h : IsChain w g S n al) (i : Int) :
    Calls Try.prog 72 #[.pointer (some ⟨g, 0, none⟩), .int .i64 i] w fun e w' => e = .returned (.int .i64 (if inAl al i then prevOf al i else -1)) ∧ w = w' := by
  have HH := Lib.hid (has_any h i)
  obtain ⟨p, c, q, d, nx, pv, first, len, hM, hI, hn, h1, h2, h3⟩ := h
  cases hb : inAl al i with
  | false =>
    clear hM hI
    go_enter Try.func72, Try.ntmps72
    go_wp2_with (go_at_call 86; refine HH.out.mono ?_; rintro e w' ⟨rfl, rfl⟩)
    go_ret
    exact ⟨rfl, rfl⟩
  | true =>
    have hb' := hb
    simp only [inAl, Bool.and_eq_true, decide_eq_true_eq] at hb'
    have hin : i.toNat < n := by
      rcases Nat.lt_or_ge i.toNat n with x | x
      · exact x
      · rw [hI.out _ x] at hb'; simp at hb'
    obtain ⟨a, rfl⟩ := arr_some hM.pv (by omega)
    have hc := arr_cell hM.pv i.toNat (by omega)
    rw [hI.get_pv hin, if_pos hb'.2] at hc
    have c0 := blk_cell hM.blk 1
    simp at c0
    have hi0 : 0 ≤ i := hb'.1
    have hi1 : i < n := by omega
    have e0 : ((i.toNat : Nat) : Int) = i := by omega
    rw [e0] at hc
    clear hM hI hb' e0
    go_enter Try.func72, Try.ntmps72
    go_wp2_with (go_at_call 86; refine HH.out.mono ?_; rintro e w' ⟨rfl, rfl⟩)
    go_ret
    exact ⟨rfl, rfl⟩

/-- The worlds of Cut. -/
def cutW1 (w : World) (g a : Nat) (p q : Int) : World := if p = -1 then w.setCell ⟨g, 2, none⟩ (.int .i64 q) else w.setCell ⟨a, p.toNat, none⟩ (.int .i64 q)
def cutW2 (w : World) (g a b : Nat) (p q : Int) : World := if q = -1 then cutW1 w g a p q else (cutW1 w g a p q).setCell ⟨b, q.toNat, none⟩ (.int .i64 p)
def cutW (w : World) (g a b : Nat) (i p q len : Int) : World := (((cutW2 w g a b p q).setCell ⟨a, i.toNat, none⟩ (.int .i64 i)).setCell ⟨b, i.toNat, none⟩ (.int .i64 i)).setCell ⟨g, 3, none⟩ (.int .i64 (len - 1))
def CutEnd (w : World) (g a b : Nat) (i p q len : Int) (e : Ending) (w' : World) : Prop := e = .returned (.bool true) ∧ ∃ m, w' = (cutW w g a b i p q len).drewN m

set_option maxHeartbeats 2000000 in
theorem cut_walk {a b c d : Nat} {first len i p q : Int} (hb : CB w g n (some ⟨a, 0, none⟩) c (some ⟨b, 0, none⟩) d first len)
    (hh : Calls Try.prog 86 #[.pointer (some ⟨g, 0, none⟩), .int .i64 i] w fun e w' => e = .returned (.bool true) ∧ w = w')
    (h0 : 0 ≤ i) (h1 : i < n)
    (hq : w.cell? ⟨a, i.toNat, none⟩ = some (.int .i64 q)) (hp : w.cell? ⟨b, i.toNat, none⟩ = some (.int .i64 p)) (hpr : p = -1 ∨ 0 ≤ p ∧ p < n) (hqr : q = -1 ∨ 0 ≤ q ∧ q < n)
    (hu : 0 ≤ p → ∃ u, w.cell? ⟨a, p.toNat, none⟩ = some u) (hv : 0 ≤ q → ∃ v, w.cell? ⟨b, q.toNat, none⟩ = some v) (hpi : p ≠ i) (hqi : q ≠ i) (hga : g ≠ a) (hgb : g ≠ b) (hab : a ≠ b)
    (fa : ∀ j, w.frozen? ⟨a, j, none⟩ = false) (fb : ∀ j, w.frozen? ⟨b, j, none⟩ = false) (hl : 0 < len) (hl2 : len ≤ 1048576) :
    Calls Try.prog 71 #[.pointer (some ⟨g, 0, none⟩), .int .i64 i] w (CutEnd w g a b i p q len) := by
  have c0 := blk_cell hb 0
  have c1 := blk_cell hb 1
  have c2 := blk_cell hb 2
  have c3 := blk_cell hb 3
  have fg := blk_frozen hb 3
  have fg2 := blk_frozen hb 2
  simp at c0 c1 c2 c3
  clear hb
  by_cases ep : p = -1 <;> by_cases eq : q = -1
  · subst ep eq
    clear hu hv hpr hqr
    go_enter Try.func71, Try.ntmps71
    go_wp2_with (go_at_call 86; refine hh.mono ?_; rintro e w' ⟨rfl, rfl⟩)
    go_region
    go_wp2
    go_ret
    exact ⟨rfl, 1, by rw [cutW, cutW2, cutW1, if_pos rfl, if_pos rfl]; rfl⟩
  · subst ep
    obtain ⟨q0, q1⟩ := hqr.resolve_left eq
    obtain ⟨v, hv⟩ := hv q0
    clear hu hpr
    have e3 : (q == -1) = false := by simpa using eq
    go_enter Try.func71, Try.ntmps71
    go_wp2_with (go_at_call 86; refine hh.mono ?_; rintro e w' ⟨rfl, rfl⟩)
    go_region
    go_wp2
    go_region
    go_wp2
    go_ret
    exact ⟨rfl, 2, by rw [cutW, cutW2, cutW1, if_neg eq, if_pos rfl]; rfl⟩
  · subst eq
    obtain ⟨p0, p1⟩ := hpr.resolve_left ep
    obtain ⟨u, hu⟩ := hu p0
    clear hv hqr
    have e2 : (p == -1) = false := by simpa using ep
    go_enter Try.func71, Try.ntmps71
    go_wp2_with (go_at_call 86; refine hh.mono ?_; rintro e w' ⟨rfl, rfl⟩)
    go_region
    go_wp2
    go_region
    go_wp2
    go_ret
    exact ⟨rfl, 2, by rw [cutW, cutW2, cutW1, if_pos rfl, if_neg ep]; rfl⟩
  · obtain ⟨p0, p1⟩ := hpr.resolve_left ep
    obtain ⟨u, hu⟩ := hu p0
    obtain ⟨q0, q1⟩ := hqr.resolve_left eq
    obtain ⟨v, hv⟩ := hv q0
    have e2 : (p == -1) = false := by simpa using ep
    have e3 : (q != -1) = true := by simpa using eq
    go_enter Try.func71, Try.ntmps71
    go_wp2_with (go_at_call 86; refine hh.mono ?_; rintro e w' ⟨rfl, rfl⟩)
    go_region
    go_wp2
    go_region
    go_wp2
    go_region
    go_wp2
    go_ret
    exact ⟨rfl, 3, by rw [cutW, cutW2, cutW1, if_neg eq, if_neg ep]; rfl⟩

theorem cutW_mem {a b c d : Nat} {nx pv : List Int} {first len : Int} {i : Nat} {p q : Int} (hM : Mem w g n (some ⟨a, 0, none⟩) c (some ⟨b, 0, none⟩) d nx pv first len) (hp : p = -1 ∨ 0 ≤ p) (hq : q = -1 ∨ 0 ≤ q) :
    Mem (cutW w g a b i p q len) g n (some ⟨a, 0, none⟩) c (some ⟨b, 0, none⟩) d (cutNx nx i p q) (cutPv pv i p q) (if p = -1 then q else first) (len - 1) ∧ Ext (fun k => k = g ∨ k = a ∨ k = b) w (cutW w g a b i p q len) := by
  have hga : g ≠ a := fun e => hM.pg (by simp [e])
  have hgb : g ≠ b := fun e => hM.qg (by simp [e])
  have hab : a ≠ b := fun e => hM.pq a rfl (by simp [e])
  -- the first step
  have s1 : Mem (cutW1 w g a p q) g n (some ⟨a, 0, none⟩) c (some ⟨b, 0, none⟩) d (if p = -1 then nx else nx.set p.toNat q) pv (if p = -1 then q else first) len ∧ Ext (fun k => k = g ∨ k = a ∨ k = b) w (cutW1 w g a p q) := by
    unfold cutW1
    by_cases e : p = -1
    · rw [if_pos e, if_pos e, if_pos e]
      refine ⟨⟨?_, arr_far hM.nx hM.pg _, arr_far hM.pv hM.qg _, hM.pg, hM.qg, hM.pq⟩, (Ext.refl _ w).setCell (fun _ => .inl rfl) _⟩
      have := blk_set hM.blk 2 (.int .i64 q)
      simpa [CB] using this
    · rw [if_neg e, if_neg e, if_neg e]
      refine ⟨⟨blk_far hM.blk hga _, ?_, arr_far hM.pv (by simpa using fun h : b = a => hab h.symm) _, hM.pg, hM.qg, hM.pq⟩, (Ext.refl _ w).setCell (fun _ => .inr (.inl rfl)) _⟩
      have := arr_set hM.nx p.toNat (.int .i64 q)
      simpa [ints, List.map_set] using this
  obtain ⟨m1, x1⟩ := s1
  have s2 : Mem (cutW2 w g a b p q) g n (some ⟨a, 0, none⟩) c (some ⟨b, 0, none⟩) d (if p = -1 then nx else nx.set p.toNat q) (if q = -1 then pv else pv.set q.toNat p) (if p = -1 then q else first) len ∧ Ext (fun k => k = g ∨ k = a ∨ k = b) w (cutW2 w g a b p q) := by
    unfold cutW2
    by_cases e : q = -1
    · rw [if_pos e, if_pos e]; exact ⟨m1, x1⟩
    · rw [if_neg e, if_neg e]
      refine ⟨⟨blk_far m1.blk hgb _, arr_far m1.nx (by simpa using hab) _, ?_, hM.pg, hM.qg, hM.pq⟩, x1.setCell (fun _ => .inr (.inr rfl)) _⟩
      have := arr_set m1.pv q.toNat (.int .i64 p)
      simpa [ints, List.map_set] using this
  obtain ⟨m2, x2⟩ := s2
  refine ⟨⟨?_, ?_, ?_, hM.pg, hM.qg, hM.pq⟩, ?_⟩
  · have := blk_set (blk_far (blk_far m2.blk (p := ⟨a, (i : Int).toNat, none⟩) hga (.int .i64 i)) (p := ⟨b, (i : Int).toNat, none⟩) hgb (.int .i64 i)) 3 (.int .i64 (len - 1))
    simpa [CB, cutW] using this
  · have := arr_far (arr_far (arr_set m2.nx i (.int .i64 i)) (q := ⟨b, i, none⟩) (by simpa using hab) (.int .i64 i)) (q := ⟨g, 3, none⟩) hM.pg (.int .i64 (len - 1))
    simpa [cutW, ints, List.map_set, cutNx] using this
  · have := arr_far (arr_set (arr_far m2.pv (q := ⟨a, i, none⟩) (by simpa using fun h : b = a => hab h.symm) (.int .i64 i)) i (.int .i64 i)) (q := ⟨g, 3, none⟩) hM.qg (.int .i64 (len - 1))
    simpa [cutW, ints, List.map_set, cutPv] using this
  · exact ((x2.setCell (fun _ => .inr (.inl rfl)) _).setCell (fun _ => .inr (.inr rfl)) _).setCell (fun _ => .inl rfl) _

/-- Cut of a number that stands there. -/
theorem cut_in (h : IsChain w g S n al) (i : Int) (hi : inAl al i = true) :
    Calls Try.prog 71 #[.pointer (some ⟨g, 0, none⟩), .int .i64 i] w fun e w' => e = .returned (.bool true) ∧ IsChain w' g S n (cutAl al i.toNat) ∧ Ext S w w' := by
  have HH := has_any h i
  rw [hi] at HH
  obtain ⟨P, c, Q, d, nx, pv, first, len, hM, hI, hn, h1, h2, h3⟩ := h
  simp only [inAl, Bool.and_eq_true, decide_eq_true_eq] at hi
  obtain ⟨j, rfl⟩ := Int.eq_ofNat_of_zero_le hi.1
  have ha : al j = true := by simpa using hi.2
  have hj : j < n := by
    rcases Nat.lt_or_ge j n with x | x
    · exact x
    · rw [hI.out _ x] at ha; cases ha
  obtain ⟨a, rfl⟩ := arr_some hM.nx (by omega)
  obtain ⟨b, rfl⟩ := arr_some hM.pv (by omega)
  have hga : g ≠ a := fun e => hM.pg (by simp [e])
  have hgb : g ≠ b := fun e => hM.qg (by simp [e])
  have hab : a ≠ b := fun e => hM.pq a rfl (by simp [e])
  have gn := arr_cell hM.nx j (by omega)
  rw [hI.get_nx hj, if_pos ha] at gn
  have gp := arr_cell hM.pv j (by omega)
  rw [hI.get_pv hj, if_pos ha] at gp
  have rN := (nextOf_is n al j).range (by omega)
  have rP := (prevOf_is al j).range
  have hp2 : prevOf al j = -1 ∨ 0 ≤ prevOf al j ∧ prevOf al j < n := by omega
  have hq2 : nextOf n al j = -1 ∨ 0 ≤ nextOf n al j ∧ nextOf n al j < n := by omega
  have hl := cnt_pos al n j hj ha
  have hl2 := cnt_le al n
  refine (cut_walk (i := (j : Int)) hM.blk HH hi.1 (by omega) (by simpa using gn) (by simpa using gp) hp2 hq2 (fun h0 => ?_) (fun h0 => ?_) prev_ne next_ne hga hgb hab
    (arr_frozen hM.nx) (arr_frozen hM.pv) (by rw [hI.len]; omega) (by rw [hI.len]; omega)).mono ?_
  · exact ⟨_, (arr_cell hM.nx _ (by omega)).trans (hI.get_nx (i := (prevOf al j).toNat) (by omega))⟩
  · exact ⟨_, (arr_cell hM.pv _ (by omega)).trans (hI.get_pv (i := (nextOf n al j).toNat) (by omega))⟩
  · rintro e w' ⟨rfl, m, rfl⟩
    obtain ⟨hM2, hx⟩ := cutW_mem (i := j) hM (p := prevOf al j) (q := nextOf n al j) (by omega) (by omega)
    refine ⟨rfl, ⟨_, c, _, d, _, _, _, _, hM2.drewN m, hI.cut hj ha, hn, h1, h2, h3⟩, (hx.mono ?_).drewN m⟩
    rintro k (rfl | rfl | rfl)
    · exact h1
    · exact h2 _ rfl
    · exact h3 _ rfl

/-- Cut of a number that does not stand there. -/
theorem cut_out (h : IsChain w g S n al) (i : Int) (hi : inAl al i = false) :
    Calls Try.prog 71 #[.pointer (some ⟨g, 0, none⟩), .int .i64 i] w fun e w' => e = .returned (.bool false) ∧ w = w' := by
  have HH := has_any h i
  rw [hi] at HH
  go_enter Try.func71, Try.ntmps71
  go_wp2_with (go_at_call 86; refine HH.mono ?_; rintro e w' ⟨rfl, rfl⟩)
  go_ret
  exact ⟨rfl, rfl⟩
end
end Go.Proofs.Ytbepmbihonnkaaa.Chain
