/- chain: the iterator All, where the loop's body keeps no more than what the iterator reads. -/
import Derived.Test.YtbepmbihonnkaaaChainAll
import Derived.RangeFuncFrom
import Derived.RangeFuncBox
namespace Go.Proofs.Ytbepmbihonnkaaa.Chain
open Go.RowKit Go.Shelf Go.Proofs.Ytbepmbihonnkaaa.Lib
set_option linter.unusedVariables false
set_option linter.unusedSimpArgs false
attribute [local go_sem] Oper.semAt_some

/-- The blocks of T stay. -/
structure Stay (T : Nat → Prop) (A B : World) : Prop where
  size : A.heap.size ≤ B.heap.size
  same : ∀ k, T k → k < A.heap.size → B.heap[k]? = A.heap[k]?
theorem Stay.refl (T : Nat → Prop) (A : World) : Stay T A A := ⟨Nat.le_refl _, fun _ _ _ => rfl⟩
theorem Stay.trans {T : Nat → Prop} {A B C : World} (h : Stay T A B) (k : Stay T B C) : Stay T A C := ⟨Nat.le_trans h.size k.size, fun i hi hl => (k.same i hi (Nat.lt_of_lt_of_le hl h.size)).trans (h.same i hi hl)⟩
theorem Stay.cell {T : Nat → Prop} {A B : World} (h : Stay T A B) {p : Addr} (hp : T p.block) (hl : p.block < A.heap.size) : B.cell? p = A.cell? p := World.cell?_of_block (h.same _ hp hl)
theorem Stay.ext {T S : Nat → Prop} {A B : World} (h : Ext S A B) (hT : ∀ k, T k → ¬ S k) : Stay T A B := ⟨h.size, fun k hk hl => h.block k hl (hT k hk)⟩
theorem stayK_b {T : Nat → Prop} {w : World} (hn : ∀ k, T k → k < w.heap.size) (W : World) (l : Nat) (o o' : Obj) (hl : w.heap.size ≤ l) (h : W.heap[l]? = some o) (_ : o.isCells = false) (_ : o.isWalk = false) : Stay T W (W.putObj l o') := by
  have hg := grownBy_putObj' W l o'
  exact ⟨hg.size, fun k hk hlk => hg.block k hlk (fun e => by cases e; have := hn _ hk; omega)⟩
/-- A chain as its iterator reads it. -/
structure ChT (T : Nat → Prop) (W : World) (g n : Nat) (p : Option Addr) (c : Nat) (al : Nat → Bool) : Prop where
  gl : T g ∧ g < W.heap.size
  first : W.cell? ⟨g, 2, none⟩ = some (.int .i64 (nextOf n al (-1)))
  row : W.cell? ⟨g, 0, none⟩ = some (.slice p n c)
  nx : ∀ i : Nat, i < n → al i = true → ∃ a, p = some ⟨a, 0, none⟩ ∧ T a ∧ a < W.heap.size ∧ W.cell? ⟨a, i, none⟩ = some (.int .i64 (nextOf n al i))
theorem ChT.stay {T : Nat → Prop} {A B : World} {g n c : Nat} {p : Option Addr} {al : Nat → Bool} (h : ChT T A g n p c al) (hb : Stay T A B) : ChT T B g n p c al :=
  ⟨⟨h.gl.1, Nat.lt_of_lt_of_le h.gl.2 hb.size⟩, (hb.cell (p := ⟨g, 2, none⟩) h.gl.1 h.gl.2).trans h.first, (hb.cell (p := ⟨g, 0, none⟩) h.gl.1 h.gl.2).trans h.row, fun i hi ha => by
    obtain ⟨a, e, ht, hl, hc⟩ := h.nx i hi ha
    exact ⟨a, e, ht, Nat.lt_of_lt_of_le hl hb.size, (hb.cell (p := ⟨a, i, none⟩) ht hl).trans hc⟩⟩
/-- The numbers that stand there. -/
abbrev In (n : Nat) (al : Nat → Bool) : Type := { x : Int // ∃ j : Nat, x = j ∧ j < n ∧ al j = true }
set_option maxRecDepth 100000 in
set_option maxHeartbeats 1000000 in
theorem all1_t (F : Fence) (N : Nat) (h6 : F.fn 87) (hro : F.round = none) (hn : 1 ≤ N) (l Bn g n c : Nat) (T : Nat → Prop) (p : Option Addr) (al : Nat → Bool) (J Jx : List (In n al) → World → Prop)
    (hY : ∀ (pre : List (In n al)) (x : In n al) W, J pre W → pre.length < (upTo al n).length → YieldAt F (N - 1) Try.prog l #[.int .i64 x.1] W fun e W' =>
      (e = .returned (.bool true) ∧ J (pre ++ [x]) W' ∧ Stay T W W') ∨ (e = .returned (.bool false) ∧ Jx (pre ++ [x]) W'))
    (W : World) (hBT : T Bn) (hBl : Bn < W.heap.size) (hBn : W.cell? ⟨Bn, 0, none⟩ = some (.pointer (some ⟨g, 0, none⟩))) (hL : ChT T W g n p c al) (h0 : J [] W) :
    CallsIn F N Try.prog 87 #[.func (.yield l) #[] #[], .pointer (some ⟨Bn, 0, none⟩)] W fun e W' => (∃ v, e = .returned v) ∧
      ((∃ ys : List (In n al), ys.map Subtype.val = upTo al n ∧ J ys W') ∨ (∃ pre : List (In n al), True ∧ Jx pre W')) := by
  refine callsIn_of_wp Try.func87 rfl h6 ?_ hro
  simp only [Try.ntmps87, List.size_toArray, List.length_cons, List.length_nil, Nat.reduceAdd, Nat.reduceSub, Array.replicate_succ, Array.replicate_zero, List.push_toArray, List.append_toArray, List.nil_append, List.cons_append]
  have f1 := hL.first
  gi_wp2
  gi_loopw [3] (fun i wr => ∃ (z : Int) (pre : List (In n al)), i = .int .i64 z ∧ At n al z (pre.map Subtype.val) ∧ ChT T wr g n p c al ∧ Bn < wr.heap.size ∧ wr.cell? ⟨Bn, 0, none⟩ = some (.pointer (some ⟨g, 0, none⟩)) ∧ J pre wr)
    (fun i wr => ms n i)
  case atStart => exact ⟨_, [], rfl, At.start n al, hL, hBl, hBn, h0⟩
  case round =>
    obtain ⟨z, pre, rfl, hat, hC, hbl, hB, hJ⟩ := hrel
    rcases hat with ⟨rfl, hp⟩ | ⟨j, rfl, hj, ha, hp⟩
    · have HP := Lib.hid hp
      clear hp
      gi_wp2
      refine ⟨fun f h => (by cases h), ?_⟩
      gi_wp2
      go_end0
      exact ⟨⟨_, rfl⟩, .inl ⟨_, HP.out, hJ⟩⟩
    · obtain ⟨fn, tmps, assign, body, hy, hR⟩ := hY pre ⟨(j : Int), j, rfl, hj, ha⟩ wr hJ (by have := upTo_len hj ha; rw [← hp, List.length_map] at this; exact this)
      have hne : ((j : Int) != -1) = true := by rw [bne_iff_ne]; omega
      have HP := Lib.hid hp
      clear hp
      gi_wp2
      refine hR.mono ?_
      rintro e W3 (⟨rfl, hJ3, hk3⟩ | ⟨rfl, hJx3⟩)
      · have C3 := hC.stay hk3
        have B3 := (hk3.cell (p := ⟨Bn, 0, none⟩) hBT hbl).trans hB
        have l3 := Nat.lt_of_lt_of_le hbl hk3.size
        have r3 := C3.row
        obtain ⟨a, rfl, _, hal, hc3⟩ := C3.nx j hj ha
        have i1 : (j : Int) < (n : Int) := by omega
        gi_wp2
        go_roundw
        case rel => exact ⟨_, _, rfl, (by rw [List.map_append, HP.out]; exact At.next hj ha), C3, l3, B3, hJ3⟩
        case measure =>
          have hr := (nextOf_is n al j).range (by omega)
          rw [ms_pos n (z := (j : Int)) (by omega)]
          rcases hr with e | ⟨e1, e2, e3, _⟩
          · rw [ms_neg n (show nextOf n al j < 0 by omega)]; omega
          · rw [ms_pos n e3]; omega
      · gi_wp2
        go_end0
        exact ⟨⟨_, rfl⟩, .inr ⟨_, trivial, hJx3⟩⟩
theorem all_stops_t (F : Fence) (N : Nat) (h6 : F.fn 87) (hro : F.round = none) (hn : 1 ≤ N) (Bn g n c : Nat) (T : Nat → Prop) (p : Option Addr) (al : Nat → Bool) (w : World) (hBT : T Bn) (hBl : Bn < w.heap.size)
    (hBn : w.cell? ⟨Bn, 0, none⟩ = some (.pointer (some ⟨g, 0, none⟩))) (hL : ChT T w g n p c al) :
    SeqStopsK F N Try.prog 87 #[.pointer (some ⟨Bn, 0, none⟩)] (fun x : In n al => #[Value.int .i64 x.1]) (Stay T) (fun ys => ys.map Subtype.val = upTo al n) (fun _ => True) (upTo al n).length w := fun l J Jx W hW _ _ hY h0 =>
  all1_t F N h6 hro hn l Bn g n c T p al J Jx hY W hBT (Nat.lt_of_lt_of_le hBl hW.size) ((hW.cell (p := ⟨Bn, 0, none⟩) hBl).trans hBn) (hL.stay ⟨hW.size, fun k _ hl => hW.block k hl⟩) h0
end Go.Proofs.Ytbepmbihonnkaaa.Chain
