/- Pieces for law10.BpeNumbers, BpeSteps, BpeMerges: Steps, Same of steps, the answers at an input too long or a model that is none; a region that does not draw, within a round. -/
import Derived.Test.YtiminpcpnblppaaBpeSteps1
import Derived.Test.YtiminpcpnblppaaBridgeW
import Derived.Test.YtiminpcpnblppaaKnown10
import Derived.Test.YtiminpcpnblppaaRef10J
import Derived.BigQuiet
import Derived.Deep.QuietTactic
import Derived.WalkLawsBesides
namespace Go.Proofs.Ytiminpcpnblppaa.Lib
open Go.RowKit Go.Proofs.Ytiminpcpnblppaa.Sl
set_option linter.unusedVariables false
set_option linter.unusedSimpArgs false
section
variable {P : Program} {n r : Nat} {Q : Exit → Act → World → Prop} {ops : Array Oper}
theorem list_in (hL : ¬ LetsOut Q) : ∀ (l : List Oper) (a : Act) (w : World), l.all noDefer = true → wpList P ops Q l a w → wpListIn (Fence.wide.inRound r) n P ops Q l a w := by
  intro l
  induction l with
  | nil => intro a w _ h; exact h
  | cons o l ih =>
    intro a w hc h
    simp only [List.all_cons, Bool.and_eq_true] at hc
    unfold wpList at h
    unfold wpListIn
    by_cases hw : Region.wanted o (yielded ops a.tmps) = true
    · rw [if_pos hw] at h ⊢
      rcases h with h | h
      · exact op_in (fun c hd => by
          have := hc.1
          unfold noDefer at this
          rw [hd] at this
          cases this) (fun a w h => ih a w hc.2 h) h
      · exact absurd h.2 hL
    · rw [if_neg hw] at h ⊢
      exact ⟨fun f _ => trivial, ih _ _ hc.2 h⟩
theorem startL_ {id : Nat} {l : List Oper} {a : Act} {w : World} (hc : l.all noDefer = true) (hL : ¬ LetsOut Q) (h : wpList P l.toArray Q l a w) : (Code.region id l.toArray false).wpIn (Fence.wide.inRound r) n P Q a w :=
  wpIn_region_lit (list_in hL l a w hc h)
end
end Go.Proofs.Ytiminpcpnblppaa.Lib
namespace Go.Proofs.Ytiminpcpnblppaa.Bpe
open Go.RowKit Go.Proofs.Ytiminpcpnblppaa.Lib Go.Proofs.Ytiminpcpnblppaa.Sl Go.Proofs.Ytiminpcpnblppaa.Chain
set_option linter.unusedVariables false
set_option linter.unusedSimpArgs false

/-! ### steps -/
theorem infoT : (Try.prog.info? 68).map (fun i => (i.zero, i.size, i.bytes)) = some (some (.agg #[.int .i64 0, .int .i64 0]), 2, 16) := by kernel_rfl
theorem stp_equalIn (d : Nat) (w : World) (x y : Nat × Nat) : (Op.equalIn (d + 2) 68 (.agg #[.int .i64 (x.1 : Int), .int .i64 (x.2 : Int)]) (.agg #[.int .i64 (y.1 : Int), .int .i64 (y.2 : Int)])).run Try.prog w = .ok (decide (x = y)) w := by
  have hu := Try.underlying68
  have hi0 := Try.underlying3
  rw [run_equalIn_struct w (d + 1) _ _ _ (by kernel_rfl) (by kernel_rfl)]
  obtain ⟨x1, x2⟩ := x
  obtain ⟨y1, y2⟩ := y
  by_cases e0 : x1 = y1
  · by_cases e1 : x2 = y2
    · subst e0 e1
      simp [go_sem, hu, hi0, run_equalIn_int, run_equalIn_string, run_equalIn_bool']
    · have e1' : ¬ ((x2 : Int) = (y2 : Int)) := by omega
      simp [go_sem, hu, hi0, run_equalIn_int, run_equalIn_string, run_equalIn_bool', e0, e1, e1']
  · have e0' : ¬ ((x1 : Int) = (y1 : Int)) := by omega
    simp [go_sem, hu, hi0, run_equalIn_int, run_equalIn_string, run_equalIn_bool', e0, e0']
theorem stp_neq (x y : Nat × Nat) (w : World) : (binOp .neq 68 (.agg #[.int .i64 (x.1 : Int), .int .i64 (x.2 : Int)]) (.agg #[.int .i64 (y.1 : Int), .int .i64 (y.2 : Int)])).run Try.prog w = .ok (.bool (!decide (x = y))) w := by
  have h := stp_equalIn 9998 w x y
  simp only [binOp]
  simp [Op.equal, Op.maxDepth, h]
theorem _root_.Go.Proofs.Ytiminpcpnblppaa.Sl.Rd.cellQ {w : World} {p : Option Addr} {l : List (Nat × Nat)} (h : Rd eQ w p l) {i : Nat} {x : Nat × Nat} (hi : l[i]? = some x) : ∃ b o, p = some ⟨b, o, none⟩ ∧ b < w.heap.size ∧
    w.cell? ⟨b, o + i * 2, none⟩ = some (.int .i64 (x.1 : Int)) ∧ w.cell? ⟨b, o + i * 2 + 1, none⟩ = some (.int .i64 (x.2 : Int)) := by
  obtain ⟨b, o, hp, hb, hc⟩ := h i x hi
  exact ⟨b, o, hp, hb, by simpa [eQ] using hc 0 (by decide), by simpa [eQ] using hc 1 (by decide)⟩
set_option maxRecDepth 100000 in
set_option maxHeartbeats 2000000 in
theorem sameT_any (w : World) (p q : Option Addr) (c c2 : Nat) (xs ys : List (Nat × Nat)) (hx : Rd eQ w p xs) (hy : Rd eQ w q ys) (hl : xs.length ≤ 1125899906842624) :
    Calls Try.prog 27 #[.slice p xs.length c, .slice q ys.length c2] w fun e w' => e = .returned (.bool (decide (xs = ys))) ∧ Ext (fun _ => False) w w' := by
  have HX := Lib.hid hx
  have HY := Lib.hid hy
  clear hx hy
  by_cases hlen : xs.length = ys.length
  · have LE := Lib.hid hlen
    rw [← hlen]
    clear hlen
    go_enter Try.func27, Try.ntmps27
    go_wp2_with fail
    go_loopw [5] (fun i wr => ∃ n : Nat, i = .int .i64 n ∧ n ≤ xs.length ∧ xs.take n = ys.take n ∧ Ext (fun _ => False) w wr) (fun i _ => xs.length - (intOf i).toNat)
    case atStart => exact ⟨0, rfl, Nat.zero_le _, rfl, Ext.refl _ _⟩
    case round =>
      obtain ⟨n, rfl, hn, hsame, hx⟩ := hrel
      have SM := Lib.hid hsame
      have EX := Lib.hid hx
      clear hsame hx
      by_cases hlt : n < xs.length
      · have i1 : (n : Int) < (xs.length : Int) := by omega
        obtain ⟨x, hx⟩ : ∃ x, xs[n]? = some x := ⟨_, List.getElem?_eq_getElem hlt⟩
        obtain ⟨y, hy⟩ : ∃ y, ys[n]? = some y := ⟨_, List.getElem?_eq_getElem (by have := LE.out; omega)⟩
        obtain ⟨b, o, hp, hb, cx0, cx1⟩ := (HX.out.on EX.out).cellQ hx
        obtain ⟨b', o', hq, hb', cy0, cy1⟩ := (HY.out.on EX.out).cellQ hy
        have XN := Lib.hid hx
        have YN := Lib.hid hy
        clear hx hy
        rw [hp, hq]
        by_cases he : x = y
        · subst he
          have hq := fun W => stp_neq x x W; simp only [decide_true, Bool.not_true] at hq
          have NX := Lib.hid (show xs.take (n + 1) = ys.take (n + 1) from by rw [List.take_add_one, List.take_add_one, SM.out, XN.out, YN.out])
          go_wp2_with fail
          go_quiet (fail)
          go_wp2_with fail
          go_roundw
          case rel => exact ⟨n + 1, by go_num, by omega, NX.out, EX.out.drewN _⟩
          case measure => simp [intOf]; omega
        · have hq := fun W => stp_neq x y W; simp only [decide_eq_false he, Bool.not_false] at hq
          have NE := Lib.hid (show decide (xs = ys) = false from decide_eq_false (fun h => by subst h; have := XN.out.symm.trans YN.out; injection this with h; exact he h))
          go_wp2_with fail
          go_quiet (fail)
          go_wp2_with fail
          go_ret
          exact ⟨by rw [NE.out]; rfl, EX.out.drewN _⟩
      · have i1 : ¬ ((n : Int) < (xs.length : Int)) := by omega
        have EQ := Lib.hid (show decide (xs = ys) = true from decide_eq_true (by
          have := SM.out
          rwa [List.take_of_length_le (by omega), List.take_of_length_le (by have := LE.out; omega)] at this))
        go_wp2_with fail
        go_ret
        exact ⟨by rw [EQ.out]; rfl, EX.out⟩
  · have NE := Lib.hid (show decide (xs = ys) = false from decide_eq_false (fun h => hlen (by rw [h])))
    have hne : (xs.length : Int) ≠ (ys.length : Int) := by omega
    go_enter Try.func27, Try.ntmps27
    go_wp2_with fail
    go_ret
    exact ⟨by rw [NE.out]; rfl, Ext.refl _ _⟩

def StepsEnd (w : World) (m : Nat) (s : ByteArray) (e : Ending) (w' : World) : Prop :=
  ∃ mb sb, e = .returned (.func (.func 40) #[] #[.pointer (some ⟨mb, 0, none⟩), .pointer (some ⟨sb, 0, none⟩)]) ∧ Boxed w' mb 28 (.pointer (some ⟨m, 0, none⟩)) ∧ Boxed w' sb 9 (.string s) ∧ w.heap.size ≤ mb ∧ w.heap.size ≤ sb ∧ Ext (fun _ => False) w w'
set_option maxRecDepth 100000 in
theorem stepsB_any (w : World) (m : Nat) (s : ByteArray) : Calls Try.prog 26 #[.pointer (some ⟨m, 0, none⟩), .string s] w fun e w' => StepsEnd w m s e w' := by
  go_enter Try.func26, Try.ntmps26
  go_wp2_with fail
  go_ret
  have b0 : Boxed (w.alloc (.cells #[.pointer (some ⟨m, 0, none⟩)] 28)) w.heap.size 28 (.pointer (some ⟨m, 0, none⟩)) := Boxed.new w _ _
  have b1 := Boxed.new (w.alloc (.cells #[.pointer (some ⟨m, 0, none⟩)] 28)) 9 (.string s)
  rw [World.size_alloc] at b1
  exact ⟨w.heap.size, w.heap.size + 1, rfl, b0.alloc _, b1, Nat.le_refl _, Nat.le_succ _, ((Ext.refl _ _).alloc _).alloc _⟩
theorem steps_nil (mb sb : Nat) (w : World) : (binOp .eql 64 (.func (.func 40) #[] #[.pointer (some ⟨mb, 0, none⟩), .pointer (some ⟨sb, 0, none⟩)]) Value.nilFunc).run Try.prog w = .ok (.bool false) w := by kernel_rfl

/-! ### what is answered where nothing is made -/
set_option maxRecDepth 100000 in
theorem merge_nil (w : World) (s : ByteArray) : Calls Try.prog 19 #[.pointer none, .string s] w fun e w' => e = .returned (.tuple #[.slice none 0 0, .int .i64 1]) ∧ w = w' := by
  go_enter Try.func19, Try.ntmps19
  go_wp2_with fail
  go_ret2
  exact ⟨rfl, rfl⟩
theorem zeros_size (n : Nat) : (strOfNums (List.replicate n 0)).size = n := by rw [strOfNums_size, List.length_replicate]
theorem zeros_str {w : World} {b n : Nat} (h : Arr w 5 1 (some ⟨b, 0, none⟩) n n (madeCells (Value.int .u8 0).cells (n * 1)).toList) :
    (convert 62 9 (.slice (some ⟨b, 0, none⟩) n n)).run Try.prog w = .ok (.string (strOfNums (List.replicate n 0))) w :=
  run_convert_bytes_arg (P := Try.prog) _ 62 5 Try.underlying62 Try.underlying5 b 0 n n (List.replicate n 0) (List.length_replicate ..) (fun i hi => by
    rw [Nat.zero_add, arr_cell h i (by omega), Nat.mul_one, made1 _ _ rfl, List.getElem?_replicate, if_pos hi]
    simp [List.getD, List.getElem?_replicate, hi]) 9 Try.underlying9
theorem zeros_ints {w : World} {b n : Nat} (h : Arr w 3 1 (some ⟨b, 0, none⟩) n n (madeCells (Value.int .i64 0).cells (n * 1)).toList) : Rd eI w (some ⟨b, 0, none⟩) (List.replicate n 0) := by
  have e : (madeCells (Value.int .i64 0).cells (n * 1)).toList = Chain.ints (List.replicate n 0) := by
    rw [Nat.mul_one, made1 _ _ rfl]
    simp [Chain.ints]
  rw [e] at h
  exact ints_rd h
end Go.Proofs.Ytiminpcpnblppaa.Bpe
