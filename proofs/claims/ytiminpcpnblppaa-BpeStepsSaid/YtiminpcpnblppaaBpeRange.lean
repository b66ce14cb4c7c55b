/- Merged of BpeLong, BpeColl, BpeRange. -/
import Derived.Test.YtiminpcpnblppaaBpeSteps1
import Derived.Test.YtiminpcpnblppaaBridgeW
import Derived.Test.YtiminpcpnblppaaKnown10
import Derived.Test.YtiminpcpnblppaaRef10J
import Derived.BigQuiet
import Derived.Deep.QuietTactic
import Derived.WalkLawsBesides
/- Pieces for law10.BpeNumbers, BpeSteps, BpeMerges: Steps, Same of steps, the answers at an input too long or a model that is none; a region that does not draw, within a round. -/
namespace Go.Proofs.Ytiminpcpnblppaa.Lib
open Go.RowKit Go.Proofs.Ytiminpcpnblppaa.Sl
set_option linter.unusedVariables false
set_option linter.unusedSimpArgs false
section
variable {P : Program} {n r : Nat} {Q : Exit → Act → World → Prop} {ops : Array Oper}
theorem list_in (hL : ¬ LetsOut Q) : ∀ (l : List Oper) (a : Act) (w : World), l.all noDefer = true → wpList P ops Q l a w → wpListIn (Fence.wide.inRound r) n P ops Q l a w := by
  intro l
  induction l with
  | nil => intro a w _ h; exact h
  | cons o l ih =>
    intro a w hc h
    simp only [List.all_cons, Bool.and_eq_true] at hc
    unfold wpList at h
    unfold wpListIn
    by_cases hw : Region.wanted o (yielded ops a.tmps) = true
    · rw [if_pos hw] at h ⊢
      rcases h with h | h
      · exact op_in (fun c hd => by
          have := hc.1
          unfold noDefer at this
          rw [hd] at this
          cases this) (fun a w h => ih a w hc.2 h) h
      · exact absurd h.2 hL
    · rw [if_neg hw] at h ⊢
      exact ⟨fun f _ => trivial, ih _ _ hc.2 h⟩
theorem startL_ {id : Nat} {l : List Oper} {a : Act} {w : World} (hc : l.all noDefer = true) (hL : ¬ LetsOut Q) (h : wpList P l.toArray Q l a w) : (Code.region id l.toArray false).wpIn (Fence.wide.inRound r) n P Q a w :=
  wpIn_region_lit (list_in hL l a w hc h)
end
end Go.Proofs.Ytiminpcpnblppaa.Lib
namespace Go.Proofs.Ytiminpcpnblppaa.Bpe
open Go.RowKit Go.Proofs.Ytiminpcpnblppaa.Lib Go.Proofs.Ytiminpcpnblppaa.Sl Go.Proofs.Ytiminpcpnblppaa.Chain
set_option linter.unusedVariables false
set_option linter.unusedSimpArgs false

/-! ### steps -/
theorem infoT : (Try.prog.info? 68).map (fun i => (i.zero, i.size, i.bytes)) = some (some (.agg #[.int .i64 0, .int .i64 0]), 2, 16) := by kernel_rfl
theorem stp_equalIn (d : Nat) (w : World) (x y : Nat × Nat) : (Op.equalIn (d + 2) 68 (.agg #[.int .i64 (x.1 : Int), .int .i64 (x.2 : Int)]) (.agg #[.int .i64 (y.1 : Int), .int .i64 (y.2 : Int)])).run Try.prog w = .ok (decide (x = y)) w := by
  have hu := Try.underlying68
  have hi0 := Try.underlying3
  rw [run_equalIn_struct w (d + 1) _ _ _ (by kernel_rfl) (by kernel_rfl)]
  obtain ⟨x1, x2⟩ := x
  obtain ⟨y1, y2⟩ := y
  by_cases e0 : x1 = y1
  · by_cases e1 : x2 = y2
    · subst e0 e1
      simp [go_sem, hu, hi0, run_equalIn_int, run_equalIn_string, run_equalIn_bool']
    · have e1' : ¬ ((x2 : Int) = (y2 : Int)) := by omega
      simp [go_sem, hu, hi0, run_equalIn_int, run_equalIn_string, run_equalIn_bool', e0, e1, e1']
  · have e0' : ¬ ((x1 : Int) = (y1 : Int)) := by omega
    simp [go_sem, hu, hi0, run_equalIn_int, run_equalIn_string, run_equalIn_bool', e0, e0']
theorem stp_neq (x y : Nat × Nat) (w : World) : (binOp .neq 68 (.agg #[.int .i64 (x.1 : Int), .int .i64 (x.2 : Int)]) (.agg #[.int .i64 (y.1 : Int), .int .i64 (y.2 : Int)])).run Try.prog w = .ok (.bool (!decide (x = y))) w := by
  have h := stp_equalIn 9998 w x y
  simp only [binOp]
  simp [Op.equal, Op.maxDepth, h]
theorem _root_.Go.Proofs.Ytiminpcpnblppaa.Sl.Rd.cellQ {w : World} {p : Option Addr} {l : List (Nat × Nat)} (h : Rd eQ w p l) {i : Nat} {x : Nat × Nat} (hi : l[i]? = some x) : ∃ b o, p = some ⟨b, o, none⟩ ∧ b < w.heap.size ∧
    w.cell? ⟨b, o + i * 2, none⟩ = some (.int .i64 (x.1 : Int)) ∧ w.cell? ⟨b, o + i * 2 + 1, none⟩ = some (.int .i64 (x.2 : Int)) := by
  obtain ⟨b, o, hp, hb, hc⟩ := h i x hi
  exact ⟨b, o, hp, hb, by simpa [eQ] using hc 0 (by decide), by simpa [eQ] using hc 1 (by decide)⟩
set_option maxRecDepth 100000 in
set_option maxHeartbeats 2000000 in
theorem sameT_any (w : World) (p q : Option Addr) (c c2 : Nat) (xs ys : List (Nat × Nat)) (hx : Rd eQ w p xs) (hy : Rd eQ w q ys) (hl : xs.length ≤ 1125899906842624) :
    Calls Try.prog 27 #[.slice p xs.length c, .slice q ys.length c2] w fun e w' => e = .returned (.bool (decide (xs = ys))) ∧ Ext (fun _ => False) w w' := by
  have HX := Lib.hid hx
  have HY := Lib.hid hy
  clear hx hy
  by_cases hlen : xs.length = ys.length
  · have LE := Lib.hid hlen
    rw [← hlen]
    clear hlen
    go_enter Try.func27, Try.ntmps27
    go_wp2_with fail
    go_loopw [5] (fun i wr => ∃ n : Nat, i = .int .i64 n ∧ n ≤ xs.length ∧ xs.take n = ys.take n ∧ Ext (fun _ => False) w wr) (fun i _ => xs.length - (intOf i).toNat)
    case atStart => exact ⟨0, rfl, Nat.zero_le _, rfl, Ext.refl _ _⟩
    case round =>
      obtain ⟨n, rfl, hn, hsame, hx⟩ := hrel
      have SM := Lib.hid hsame
      have EX := Lib.hid hx
      clear hsame hx
      by_cases hlt : n < xs.length
      · have i1 : (n : Int) < (xs.length : Int) := by omega
        obtain ⟨x, hx⟩ : ∃ x, xs[n]? = some x := ⟨_, List.getElem?_eq_getElem hlt⟩
        obtain ⟨y, hy⟩ : ∃ y, ys[n]? = some y := ⟨_, List.getElem?_eq_getElem (by have := LE.out; omega)⟩
        obtain ⟨b, o, hp, hb, cx0, cx1⟩ := (HX.out.on EX.out).cellQ hx
        obtain ⟨b', o', hq, hb', cy0, cy1⟩ := (HY.out.on EX.out).cellQ hy
        have XN := Lib.hid hx
        have YN := Lib.hid hy
        clear hx hy
        rw [hp, hq]
        by_cases he : x = y
        · subst he
          have hq := fun W => stp_neq x x W; simp only [decide_true, Bool.not_true] at hq
          have NX := Lib.hid (show xs.take (n + 1) = ys.take (n + 1) from by rw [List.take_add_one, List.take_add_one, SM.out, XN.out, YN.out])
          go_wp2_with fail
          go_quiet (fail)
          go_wp2_with fail
          go_roundw
          case rel => exact ⟨n + 1, by go_num, by omega, NX.out, EX.out.drewN _⟩
          case measure => simp [intOf]; omega
        · have hq := fun W => stp_neq x y W; simp only [decide_eq_false he, Bool.not_false] at hq
          have NE := Lib.hid (show decide (xs = ys) = false from decide_eq_false (fun h => by subst h; have := XN.out.symm.trans YN.out; injection this with h; exact he h))
          go_wp2_with fail
          go_quiet (fail)
          go_wp2_with fail
          go_ret
          exact ⟨by rw [NE.out]; rfl, EX.out.drewN _⟩
      · have i1 : ¬ ((n : Int) < (xs.length : Int)) := by omega
        have EQ := Lib.hid (show decide (xs = ys) = true from decide_eq_true (by
          have := SM.out
          rwa [List.take_of_length_le (by omega), List.take_of_length_le (by have := LE.out; omega)] at this))
        go_wp2_with fail
        go_ret
        exact ⟨by rw [EQ.out]; rfl, EX.out⟩
  · have NE := Lib.hid (show decide (xs = ys) = false from decide_eq_false (fun h => hlen (by rw [h])))
    have hne : (xs.length : Int) ≠ (ys.length : Int) := by omega
    go_enter Try.func27, Try.ntmps27
    go_wp2_with fail
    go_ret
    exact ⟨by rw [NE.out]; rfl, Ext.refl _ _⟩

def StepsEnd (w : World) (m : Nat) (s : ByteArray) (e : Ending) (w' : World) : Prop :=
  ∃ mb sb, e = .returned (.func (.func 40) #[] #[.pointer (some ⟨mb, 0, none⟩), .pointer (some ⟨sb, 0, none⟩)]) ∧ Boxed w' mb 28 (.pointer (some ⟨m, 0, none⟩)) ∧ Boxed w' sb 9 (.string s) ∧ w.heap.size ≤ mb ∧ w.heap.size ≤ sb ∧ Ext (fun _ => False) w w'
set_option maxRecDepth 100000 in
theorem stepsB_any (w : World) (m : Nat) (s : ByteArray) : Calls Try.prog 26 #[.pointer (some ⟨m, 0, none⟩), .string s] w fun e w' => StepsEnd w m s e w' := by
  go_enter Try.func26, Try.ntmps26
  go_wp2_with fail
  go_ret
  have b0 : Boxed (w.alloc (.cells #[.pointer (some ⟨m, 0, none⟩)] 28)) w.heap.size 28 (.pointer (some ⟨m, 0, none⟩)) := Boxed.new w _ _
  have b1 := Boxed.new (w.alloc (.cells #[.pointer (some ⟨m, 0, none⟩)] 28)) 9 (.string s)
  rw [World.size_alloc] at b1
  exact ⟨w.heap.size, w.heap.size + 1, rfl, b0.alloc _, b1, Nat.le_refl _, Nat.le_succ _, ((Ext.refl _ _).alloc _).alloc _⟩
theorem steps_nil (mb sb : Nat) (w : World) : (binOp .eql 64 (.func (.func 40) #[] #[.pointer (some ⟨mb, 0, none⟩), .pointer (some ⟨sb, 0, none⟩)]) Value.nilFunc).run Try.prog w = .ok (.bool false) w := by kernel_rfl

/-! ### what is answered where nothing is made -/
set_option maxRecDepth 100000 in
theorem merge_nil (w : World) (s : ByteArray) : Calls Try.prog 19 #[.pointer none, .string s] w fun e w' => e = .returned (.tuple #[.slice none 0 0, .int .i64 1]) ∧ w = w' := by
  go_enter Try.func19, Try.ntmps19
  go_wp2_with fail
  go_ret2
  exact ⟨rfl, rfl⟩
theorem zeros_size (n : Nat) : (strOfNums (List.replicate n 0)).size = n := by rw [strOfNums_size, List.length_replicate]
theorem zeros_str {w : World} {b n : Nat} (h : Arr w 5 1 (some ⟨b, 0, none⟩) n n (madeCells (Value.int .u8 0).cells (n * 1)).toList) :
    (convert 62 9 (.slice (some ⟨b, 0, none⟩) n n)).run Try.prog w = .ok (.string (strOfNums (List.replicate n 0))) w :=
  run_convert_bytes_arg (P := Try.prog) _ 62 5 Try.underlying62 Try.underlying5 b 0 n n (List.replicate n 0) (List.length_replicate ..) (fun i hi => by
    rw [Nat.zero_add, arr_cell h i (by omega), Nat.mul_one, made1 _ _ rfl, List.getElem?_replicate, if_pos hi]
    simp [List.getD, List.getElem?_replicate, hi]) 9 Try.underlying9
theorem zeros_ints {w : World} {b n : Nat} (h : Arr w 3 1 (some ⟨b, 0, none⟩) n n (madeCells (Value.int .i64 0).cells (n * 1)).toList) : Rd eI w (some ⟨b, 0, none⟩) (List.replicate n 0) := by
  have e : (madeCells (Value.int .i64 0).cells (n * 1)).toList = Chain.ints (List.replicate n 0) := by
    rw [Nat.mul_one, made1 _ _ rfl]
    simp [Chain.ints]
  rw [e] at h
  exact ints_rd h
end Go.Proofs.Ytiminpcpnblppaa.Bpe

/- Steps collected into a slice behind a box: what the loop keeps. -/
namespace Go.Proofs.Ytiminpcpnblppaa.Bpe
open Go.RowKit Go.Proofs.Ytiminpcpnblppaa.Lib Go.Proofs.Ytiminpcpnblppaa.Sl Go.Proofs.Ytiminpcpnblppaa.Chain
set_option linter.unusedVariables false
set_option linter.unusedSimpArgs false

def ColI (W0 : World) (tb : Nat) (pre : List (Nat × Nat)) (O : Nat → Prop) (W : World) : Prop :=
  ∃ p c, Ext (fun k => k = tb) W0 W ∧ Boxed W tb 66 (.slice p pre.length c) ∧ Arr W 68 2 p pre.length c (flat eQ pre) ∧ (∀ k, blkOf p = some k → W0.heap.size ≤ k ∧ ¬ O k) ∧ (∀ k, O k → W0.heap.size ≤ k) ∧ tb < W0.heap.size
theorem colI_abide (W0 : World) (tb : Nat) : AbideW (ColI W0 tb) := by
  rintro s O O' A B ⟨p, c, x, bx, ar, fr, hO, lt⟩ h1 h2 hx
  have z := x.size
  have hO' : ∀ k, O' k → W0.heap.size ≤ k := fun k hk => by
    rcases h2 k hk with h | h
    · exact hO k h
    · omega
  have hp : ∀ k, blkOf p = some k → ¬ O' k := fun k hk h => by
    rcases h2 k h with h | h
    · exact (fr k hk).2 h
    · have := arr_lt ar hk; omega
  exact ⟨p, c, x.trans hx (fun i hi h => by have := hO' i h; omega), hx.obj bx (fun h => by have := hO' _ h; omega), arr_ext ar hx (fun k hk h => hp k hk h), fun k hk => ⟨(fr k hk).1, hp k hk⟩, hO', lt⟩
theorem colI_turn (W0 : World) (tb : Nat) : TurnW W0.heap.size (ColI W0 tb) := by
  rintro s O A l o o' ⟨p, c, x, bx, ar, fr, hO, lt⟩ hl nO ho hc
  have hx : Ext (fun k => k = l) A (A.putObj l o') := ext_putObj _ (Ext.refl _ _) (fun _ => rfl)
  refine ⟨p, c, x.trans hx (fun i hi h => by omega), hx.obj bx (fun h => by omega), arr_ext ar hx (fun k hk h => ?_), fr, hO, lt⟩
  obtain ⟨o2, h1, h2⟩ := arr_isCells ar hk
  rw [h, ho] at h1
  cases h1
  rw [hc] at h2
  cases h2
theorem colI_start {W0 W1 : World} {tb : Nat} (hx : W0 = W1) (bx : Boxed W0 tb 66 (.slice none 0 0)) : ColI W0 tb [] (fun _ => False) W1 := by
  subst hx
  exact ⟨none, 0, Ext.refl _ _, bx, arr_nil _ _ _, (fun k hk => by cases hk), (fun k h => False.elim h), bx.lt⟩
/-- A step that is appended. -/
theorem colI_push {W0 W w1 : World} {tb : Nat} {pre : List (Nat × Nat)} {O : Nat → Prop} {x : Nat × Nat} {p p1 : Option Addr} {c c1 : Nat} (hx : Ext (fun k => k = tb) W0 W) (bx : Boxed W tb 66 (.slice p pre.length c)) (ar : Arr W 68 2 p pre.length c (flat eQ pre))
    (fr : ∀ k, blkOf p = some k → W0.heap.size ≤ k ∧ ¬ O k) (hO : ∀ k, O k → W0.heap.size ≤ k ∧ k < W.heap.size) (lt : tb < W0.heap.size)
    (hA : Arr w1 68 2 p1 (pre.length + 1) c1 (flat eQ pre ++ [.int .i64 (x.1 : Int), .int .i64 (x.2 : Int)])) (h1 : Ext (fun k => blkOf p = some k) W w1) (hm : Moved W p p1) :
    let w2 := w1.setCell ⟨tb, 0, none⟩ (.slice p1 (pre.length + 1) c1)
    KeepsOthers W w2 ∧ Ext (Free (fun k => k = tb) O W0.heap.size) W w2 ∧ ColI W0 tb (pre ++ [x]) O w2 := by
  intro w2
  have z := hx.size
  have K1 : KeepsOthers W w1 := ⟨h1.size, fun k o hk ho => h1.obj hk (fun hS => by
    obtain ⟨o', h1', h2'⟩ := arr_isCells ar hS
    rw [hk] at h1'
    cases h1'
    rw [ho] at h2'
    cases h2')⟩
  have nt : ¬ O tb := fun h => by have := (hO _ h).1; omega
  have b1 : Boxed w1 tb 66 (.slice p pre.length c) := h1.obj bx (fun h => by have := (fr _ h).1; omega)
  have hfar : ∀ k, blkOf p1 = some k → W0.heap.size ≤ k ∧ ¬ O k := fun k hk => by
    rcases hm k hk with hh | hh
    · exact fr k hh
    · exact ⟨by omega, fun h => by have := (hO k h).2; omega⟩
  refine ⟨K1.trans (KeepsOthers.setCell _ _ _), (h1.mono (fun k h => ⟨(fr k h).2, .inl (fr k h).1⟩)).setCell (p := ⟨tb, 0, none⟩) (fun _ => ⟨nt, .inr rfl⟩) _, p1, c1, ?_, ?_, ?_, hfar, fun k hk => (hO k hk).1, lt⟩
  · exact (hx.trans h1 (fun i hi hS => by have := (fr i hS).1; omega)).setCell (p := ⟨tb, 0, none⟩) (fun _ => rfl) _
  · have := Boxed.set (.slice p1 (pre.length + 1) c1) b1
    simpa using this
  · have h1' := arr_far hA (q := ⟨tb, 0, none⟩) (fun h => by have := (hfar _ h).1; simp at this; omega) (.slice p1 (pre.length + 1) c1)
    have e : flat eQ (pre ++ [x]) = flat eQ pre ++ [.int .i64 (x.1 : Int), .int .i64 (x.2 : Int)] := by
      rw [flat_append]; rfl
    rw [e]
    simpa using h1'
end Go.Proofs.Ytiminpcpnblppaa.Bpe

/- For the laws that go over bpe's steps: a region that only reads, within a round; leaving over marks; a model beside a box that is written. -/
namespace Go.Proofs.Ytiminpcpnblppaa.Lib
open Go.RowKit Go.Proofs.Ytiminpcpnblppaa.Sl
set_option linter.unusedVariables false
set_option linter.unusedSimpArgs false
section
variable {P : Program} {n r : Nat} {Q : Exit → Act → World → Prop}
theorem quietR_ {id : Nat} {a : Act} {w : World} {l : List Oper} (hm : P.follows .mixedOrders = true) (hB : Region.lexB .any l.toArray = true) (hc : l.all noDefer = true) (hL : ¬ LetsOut Q)
    (h : wpQuiet P l.toArray (fun w' => ∃ n, w' = w.drewN n) (fun a' => ∀ w', (∃ n, w' = w.drewN n) → Q .normal a' w') l a) : (Code.region id l.toArray true).wpIn (Fence.wide.inRound r) n P Q a w := by
  simp only [Region.lexB, Bool.and_eq_true] at hB
  refine wpIn_region_any hm (any_in (fun i o ho c hd => ?_) hL _ _ _ _ (wpAny_of_quiet (C := fun w' => ∃ n, w' = w.drewN n) (Q := fun a' => ∀ w', (∃ n, w' = w.drewN n) → Q .normal a' w') (fun _ w' hw' h => h w' hw') _ _ _ _ ⟨1, rfl⟩ ?_))
  · have hmem : o ∈ l := by
      rw [List.getElem?_toArray] at ho
      exact List.mem_of_getElem? ho
    have := List.all_eq_true.1 hc o hmem
    unfold noDefer at this
    rw [hd] at this
    cases this
  · have := wpAnyQ_lex (P := P) (C := fun w' => ∃ n, w' = w.drewN n) (md := .any) (ops := l.toArray) hB.1 l 0 (Array.replicate l.length false) a (by simp) (by simpa using hB.2) h
    simpa using this
theorem leaves_markS {F : Fence} {n : Nat} {P : Program} {fn : Func} {tmps : Array Value} {R : Ending → World → Prop} {D : Nat} {w : World} {ds : List Deferred} (hD : w.heap[D]? = some (.deferred (some [])))
    (h : ∀ w', Ext (fun k => k = D) w w' → LeavesInM F n P fn tmps R ds .returning w') : LeavesInM F n P fn tmps R ({ target := .collected D, args := #[] } :: ds) .returning w :=
  ⟨by simp, .inl ⟨D, w.putObj D (.deferred none), rfl, run_takeDeferred hD, h _ (Ext.of_grown (grownBy_putObj' w D (.deferred none)) (fun k e _ => by cases e; rfl))⟩⟩
/-- A part of the code, its end told by seven things. -/
theorem wp_cut7 {c : Code} {K : Act → World → Prop} {Q' : Exit → Act → World → Prop} {a : Act} {w : World} (A : Option Addr → Nat → Option Addr → Nat → Nat → Option Addr → Nat → Act) (M : Option Addr → Nat → Option Addr → Nat → Nat → Option Addr → Nat → World → Prop)
    (h1 : c.wp P (Exit.then (fun a' w' => ∃ p c sp sc b q e, a' = A p c sp sc b q e ∧ M p c sp sc b q e w') (fun _ _ _ => False)) a w) (h2 : ∀ p c sp sc b q e w', M p c sp sc b q e w' → K (A p c sp sc b q e) w') : c.wp P (Exit.then K Q') a w := by
  refine wp_mono h1 (fun e a' w' h => ?_)
  cases e with
  | normal =>
    obtain ⟨p, c, sp, sc, b, q, e, rfl, hM⟩ := h
    exact h2 _ _ _ _ _ _ _ _ hM
  | _ => exact (h : False).elim
end
end Go.Proofs.Ytiminpcpnblppaa.Lib
namespace Go.Proofs.Ytiminpcpnblppaa.Sl
open Go.RowKit Go.Proofs.Ytiminpcpnblppaa.Lib
theorem Rd.box1 {α : Type} {E : En α} {W W' : World} {p : Option Addr} {l : List α} {b t : Nat} {v : Value} (h : Rd E W p l) (bx : Boxed W b t v) (hx : Ext (fun k => k = b) W W') (hE : 2 ≤ E.sz ∨ ∀ x, (E.enc x)[0]? ≠ some v) (hsz : 0 < E.sz) : Rd E W' p l := by
  cases hl : l with
  | nil => intro i x hi; simp at hi
  | cons y t' =>
    rw [← hl]
    refine h.ext hx (fun k hk _ e => ?_)
    subst e
    have h0 : l[0]? = some y := by rw [hl]; rfl
    obtain ⟨b', o, rfl, hb, hc⟩ := h 0 y h0
    have ek : b' = k := by
      have : (some b' : Option Nat) = some k := hk
      exact Option.some.inj this
    subst ek
    have bx' : W.heap[b']? = some (.cells #[v] t (0, 0)) := bx
    rcases hE with hE | hE
    · have h1 := hc 1 (by omega)
      have hn : (E.enc y)[1]? ≠ none := by
        rw [Ne, List.getElem?_eq_none_iff, E.len]
        omega
      have := blk_cell bx' (o + 0 * E.sz + 1)
      rw [h1] at this
      simp at this
      exact hn (by rw [List.getElem?_eq_none_iff]; exact this)
    · have h1 := hc 0 hsz
      have := blk_cell bx' (o + 0 * E.sz + 0)
      rw [h1] at this
      by_cases ho : o = 0
      · subst ho
        simp at this
        exact hE y (by simpa using this)
      · have hn : (E.enc y)[0]? ≠ none := by
          rw [Ne, List.getElem?_eq_none_iff, E.len]
          omega
        rw [this] at hn
        exact hn (by simp; omega)
theorem box_ne {W : World} {a b t t' : Nat} {v : Value} {cs : Array Value} {fr : Nat × Nat} (h : W.heap[a]? = some (.cells cs t' fr)) (bx : Boxed W b t v) (hn : cs.size ≠ 1) : a ≠ b := fun e => by
  subst e
  rw [show W.heap[a]? = _ from bx] at h
  cases h
  exact hn rfl
/-- A model beside a box of a number that is written. -/
theorem IsModel.box {W W' : World} {m b t : Nat} {d : Dat} {v : Value} (h : IsModel W m d) (bx : Boxed W b t v) (hx : Ext (fun k => k = b) W W') (hv : ∀ s, v ≠ .string s) : IsModel W' m d := by
  obtain ⟨L, tp, mp, q0, q1, q2, d0, d1, d2, ⟨hb, hr, ht, hm⟩⟩ := h
  have far : ∀ {α : Type} {E : En α} {p : Option Addr} {l : List α}, Rd E W p l → 2 ≤ E.sz → Rd E W' p l := fun h2 hE => h2.box1 bx hx (.inl hE) (by omega)
  refine ⟨L, tp, mp, q0, q1, q2, d0, d1, d2, hb.on hx (box_ne hb.blk bx (by simp)), { hr with r0 := hr.r0.box1 bx hx (.inr (fun x e => ?_)) (by decide), r1 := far hr.r1 (by decide), r2 := far hr.r2 (by decide), r3 := far hr.r3 (by decide), r4 := far hr.r4 (by decide) },
    { ht with blk := hx.obj ht.blk (box_ne ht.blk bx (by simp)), r0 := far ht.r0 (by decide), r1 := far ht.r1 (by decide), r2 := far ht.r2 (by decide) }, hm.ext hx (fun e => ?_)⟩
  · simp [eS] at e
    exact hv x e.symm
  · obtain ⟨es, c, h1, _⟩ := hm
    subst e
    rw [show W.heap[mp]? = _ from bx] at h1
    cases h1
end Go.Proofs.Ytiminpcpnblppaa.Sl
namespace Go.Proofs.Ytiminpcpnblppaa.Bpe
open Go.RowKit Go.Proofs.Ytiminpcpnblppaa.Lib Go.Proofs.Ytiminpcpnblppaa.Sl Go.Proofs.Ytiminpcpnblppaa.Chain
set_option linter.unusedVariables false
/-- Counting the rounds in a box. -/
structure RI (W0 : World) (b : Nat) (pre : List (Nat × Nat)) (O : Nat → Prop) (W : World) : Prop where
  ext : Ext (fun k => k = b) W0 W
  bx : Boxed W b 3 (.int .i64 (pre.length : Int))
  lt : b < W0.heap.size
  own : ∀ k, O k → W0.heap.size ≤ k
theorem ri_abide (W0 : World) (b : Nat) : AbideW (RI W0 b) := by
  rintro s O O' A B h h1 h2 hx
  have z := h.ext.size
  have lt := h.lt
  have hO' : ∀ k, O' k → W0.heap.size ≤ k := fun k hk => by
    rcases h2 k hk with h' | h'
    · exact h.own k h'
    · omega
  exact ⟨h.ext.trans hx (fun i hi h => by have := hO' i h; omega), hx.obj h.bx (fun h => by have := hO' _ h; omega), lt, hO'⟩
theorem ri_turn (W0 : World) (b : Nat) : TurnW W0.heap.size (RI W0 b) := by
  rintro s O A l o o' h hl nO ho hc
  have hx : Ext (fun k => k = l) A (A.putObj l o') := ext_putObj _ (Ext.refl _ _) (fun _ => rfl)
  have lt := h.lt
  exact ⟨h.ext.trans hx (fun i hi h => by omega), hx.obj h.bx (fun h => by omega), lt, h.own⟩
theorem ri_start {W0 : World} {b : Nat} (bx : Boxed W0 b 3 (.int .i64 0)) : RI W0 b [] (fun _ => False) W0 := ⟨Ext.refl _ _, bx, bx.lt, fun _ h => h.elim⟩
theorem ri_push {W0 W : World} {b : Nat} {pre : List (Nat × Nat)} {O : Nat → Prop} (h : RI W0 b pre O W) (x : Nat × Nat) (q : Nat) :
    KeepsOthers W ((W.drewN q).setCell ⟨b, 0, none⟩ (.int .i64 ((pre.length : Int) + 1))) ∧ Ext (Free (fun k => k = b) O W0.heap.size) W ((W.drewN q).setCell ⟨b, 0, none⟩ (.int .i64 ((pre.length : Int) + 1))) ∧ RI W0 b (pre ++ [x]) O ((W.drewN q).setCell ⟨b, 0, none⟩ (.int .i64 ((pre.length : Int) + 1))) := by
  have lt := h.lt
  have hd : Ext (fun _ => False) W (W.drewN q) := (Ext.refl _ _).drewN q
  have nO : ¬ O b := fun ho => by have := h.own _ ho; omega
  refine ⟨KeepsOthers.trans ⟨hd.size, fun k o hk _ => hd.obj hk (fun h => h)⟩ (KeepsOthers.setCell _ _ _), (hd.mono (fun _ h => h.elim)).setCell (p := ⟨b, 0, none⟩) (fun _ => ⟨nO, .inr rfl⟩) _, (h.ext.trans hd (fun _ _ h => h.elim)).setCell (p := ⟨b, 0, none⟩) (fun _ => rfl) _, ?_, lt, h.own⟩
  have := Boxed.set (.int .i64 ((pre.length : Int) + 1)) (hd.obj h.bx (fun h => h) : Boxed (W.drewN q) b 3 _)
  simpa using this
/-- The law has answered from within a round. -/
structure Left (W0 : World) (b b6 : Nat) (O : Nat → Prop) (W : World) : Prop where
  ext : Ext (fun k => k = b ∨ k = b6) W0 W
  bx : Boxed W b6 4 (.bool true)
  lt : b < W0.heap.size
  lt6 : b6 < W0.heap.size
  own : ∀ k, O k → W0.heap.size ≤ k
theorem Left.abide {W0 A B : World} {b b6 : Nat} {O O' : Nat → Prop} (h : Left W0 b b6 O A) (h1 : ∀ k, O k → O' k) (h2 : ∀ k, O' k → O k ∨ A.heap.size ≤ k) (hx : Ext O' A B) : Left W0 b b6 O' B := by
  have z := h.ext.size
  have lt := h.lt
  have lt6 := h.lt6
  have hO' : ∀ k, O' k → W0.heap.size ≤ k := fun k hk => by
    rcases h2 k hk with h' | h'
    · exact h.own k h'
    · omega
  exact ⟨h.ext.trans hx (fun i hi h => by have := hO' i h; omega), hx.obj h.bx (fun h => by have := hO' _ h; omega), lt, lt6, hO'⟩
theorem Left.turn {W0 A : World} {b b6 l : Nat} {O : Nat → Prop} {o o' : Obj} (h : Left W0 b b6 O A) (hl : W0.heap.size ≤ l) (ho : A.heap[l]? = some o) (hc : o.isCells = false) : Left W0 b b6 O (A.putObj l o') := by
  have hx : Ext (fun k => k = l) A (A.putObj l o') := ext_putObj _ (Ext.refl _ _) (fun _ => rfl)
  have lt := h.lt
  have lt6 := h.lt6
  exact ⟨h.ext.trans hx (fun i hi h => by omega), hx.obj h.bx (fun h => by omega), lt, lt6, h.own⟩
theorem left_made {W0 W W9 : World} {b b6 q : Nat} {pre : List (Nat × Nat)} {O : Nat → Prop} {v0 : Value} (h : RI W0 b pre O W) (hx : Ext (fun _ => False) (W.drewN q) W9) (bx : Boxed W9 b6 4 v0) (lt6 : b6 < W0.heap.size) :
    KeepsOthers W (W9.setCell ⟨b6, 0, none⟩ (.bool true)) ∧ Left W0 b b6 O (W9.setCell ⟨b6, 0, none⟩ (.bool true)) := by
  have hd : Ext (fun _ => False) W W9 := ((Ext.refl _ _).drewN q).trans hx (fun _ _ h => h)
  refine ⟨KeepsOthers.trans ⟨hd.size, fun k o hk _ => hd.obj hk (fun h => h)⟩ (KeepsOthers.setCell _ _ _), ((h.ext.mono (fun _ h => .inl h)).trans hd (fun _ _ h => h.elim)).setCell (p := ⟨b6, 0, none⟩) (fun _ => .inr rfl) _, Boxed.set _ bx, h.lt, lt6, h.own⟩
theorem pre_get {l pre : List (Nat × Nat)} {x : Nat × Nat} (h : pre ++ [x] <+: l) : pre.length < l.length ∧ l[pre.length]? = some x := by
  obtain ⟨t, rfl⟩ := h
  simp
end Go.Proofs.Ytiminpcpnblppaa.Bpe
