/- chain: the iterator All. -/
import Derived.Test.YtbepmbihonnkaaaChain
import Derived.RangeFuncKeeps
import Derived.RangeFuncLeaves
import Derived.Shelf.Abstract
import Derived.WalkKit
import Derived.OwnWalkIn
import Derived.TacticsInMore
import Derived.LoopNIn
import Derived.LoopIn
namespace Go.Proofs.Ytbepmbihonnkaaa.Chain
open Go.RowKit Go.Shelf Go.Proofs.Ytbepmbihonnkaaa.Lib
set_option linter.unusedVariables false
set_option linter.unusedSimpArgs false
attribute [local go_sem] Oper.semAt_some

/-- The numbers that stand there, below k. -/
def upTo (al : Nat → Bool) (k : Nat) : List Int := ((List.range k).filter al).map Int.ofNat
theorem upTo_gap {al : Nat → Bool} {j k : Nat} (h : al j = true) (hjk : j < k) (hg : ∀ i, j < i → i < k → al i = false) : upTo al k = upTo al j ++ [(j : Int)] := by
  induction k with
  | zero => omega
  | succ k ih =>
    by_cases hk : j = k
    · subst hk
      simp [upTo, List.range_succ, List.filter_append, h]
    · have := ih (by omega) (fun i h1 h2 => hg i h1 (by omega))
      rw [← this]
      simp [upTo, List.range_succ, List.filter_append, hg k (by omega) (by omega)]
theorem upTo_none {al : Nat → Bool} {k : Nat} (hg : ∀ i, i < k → al i = false) : upTo al k = [] := by
  simp [upTo]
  intro i hi
  simp [hg i hi]
theorem upTo_length (al : Nat → Bool) (n : Nat) : (upTo al n).length = cnt al n := by simp [upTo, cnt]
theorem upTo_sorted (al : Nat → Bool) (n : Nat) : (upTo al n).Pairwise (· < ·) := by
  unfold upTo
  rw [List.pairwise_map]
  refine List.Pairwise.filter _ ?_
  refine (List.pairwise_lt_range (n := n)).imp ?_
  intro a b h
  exact Int.ofNat_lt.2 h
theorem upTo_mem {al : Nat → Bool} {n : Nat} {x : Int} (h : x ∈ upTo al n) : ∃ j : Nat, x = j ∧ j < n ∧ al j = true := by
  unfold upTo at h
  obtain ⟨j, hj, rfl⟩ := List.mem_map.1 h
  obtain ⟨h1, h2⟩ := List.mem_filter.1 hj
  exact ⟨j, rfl, List.mem_range.1 h1, h2⟩
theorem upTo_next {al : Nat → Bool} {n : Nat} {pre : List Int} {x : Int} (h : pre ++ [x] <+: upTo al n) : pre.getLastD (-1) < x ∧ ∃ j : Nat, x = j ∧ j < n ∧ al j = true := by
  obtain ⟨j, rfl, h1, h2⟩ := upTo_mem (h.subset (by simp : x ∈ pre ++ [x]))
  refine ⟨?_, j, rfl, h1, h2⟩
  have hs := (upTo_sorted al n).sublist h.sublist
  rcases List.eq_nil_or_concat pre with rfl | ⟨q, y, rfl⟩
  · simp; omega
  · rw [List.pairwise_append] at hs
    have := hs.2.2 y (by simp) (j : Int) (by simp)
    simpa using this
/-- A chain as its iterator reads it; n₀: what lies below stays. -/
structure ChAt (n₀ : Nat) (W : World) (g n : Nat) (p : Option Addr) (c : Nat) (al : Nat → Bool) : Prop where
  gl : g < n₀
  first : W.cell? ⟨g, 2, none⟩ = some (.int .i64 (nextOf n al (-1)))
  row : W.cell? ⟨g, 0, none⟩ = some (.slice p n c)
  nx : ∀ i : Nat, i < n → al i = true → ∃ a, p = some ⟨a, 0, none⟩ ∧ a < n₀ ∧ W.cell? ⟨a, i, none⟩ = some (.int .i64 (nextOf n al i))
theorem ChAt.below {n₀ : Nat} {A B : World} {g n c : Nat} {p : Option Addr} {al : Nat → Bool} (h : ChAt n₀ A g n p c al) (hb : Below n₀ A B) : ChAt n₀ B g n p c al :=
  ⟨h.gl, (hb.cell (p := ⟨g, 2, none⟩) h.gl).trans h.first, (hb.cell (p := ⟨g, 0, none⟩) h.gl).trans h.row, fun i hi ha => by
    obtain ⟨a, e, hl, hc⟩ := h.nx i hi ha
    exact ⟨a, e, hl, (hb.cell (p := ⟨a, i, none⟩) hl).trans hc⟩⟩
def ms (n : Nat) (v : Value) : Nat := if intOf v < 0 then 0 else n - (intOf v).toNat
theorem ms_neg (n : Nat) {z : Int} (h : z < 0) : ms n (.int .i64 z) = 0 := if_pos h
theorem ms_pos (n : Nat) {z : Int} (h : 0 ≤ z) : ms n (.int .i64 z) = n - z.toNat := if_neg (show ¬ (z < 0) by omega)
/-- Where the loop stands: what has come, and what comes next. -/
def At (n : Nat) (al : Nat → Bool) (i : Int) (pre : List Int) : Prop := (i = -1 ∧ pre = upTo al n) ∨ ∃ j : Nat, i = j ∧ j < n ∧ al j = true ∧ pre = upTo al j
theorem At.start (n : Nat) (al : Nat → Bool) : At n al (nextOf n al (-1)) [] := by
  rcases nextOf_is n al (-1) with ⟨e, h⟩ | ⟨j, e, h1, h2, h3, h4⟩
  · exact .inl ⟨e, (upTo_none fun i hi => h i (by omega) hi).symm⟩
  · exact .inr ⟨j, e, h2, h3, (upTo_none fun i hi => h4 i (by omega) hi).symm⟩
theorem At.next {n : Nat} {al : Nat → Bool} {j : Nat} (hj : j < n) (ha : al j = true) : At n al (nextOf n al j) (upTo al j ++ [(j : Int)]) := by
  rcases nextOf_is n al j with ⟨e, h⟩ | ⟨k, e, h1, h2, h3, h4⟩
  · exact .inl ⟨e, (upTo_gap ha hj fun i h1 h2 => h i (by omega) h2).symm⟩
  · exact .inr ⟨k, e, h2, h3, (upTo_gap ha (by omega) fun i h5 h6 => h4 i (by omega) h6).symm⟩
theorem upTo_pre {al : Nat → Bool} {j n : Nat} (h : j ≤ n) : upTo al j <+: upTo al n := by
  obtain ⟨d, rfl⟩ := Nat.exists_eq_add_of_le h
  unfold upTo
  rw [List.range_add, List.filter_append, List.map_append]
  exact List.prefix_append _ _
theorem upTo_len {al : Nat → Bool} {j n : Nat} (h : j < n) (ha : al j = true) : (upTo al j).length < (upTo al n).length := by
  have h1 : (upTo al j ++ [(j : Int)]).length ≤ (upTo al n).length := by
    rw [← upTo_gap (k := j + 1) ha (by omega) (fun i h1 h2 => by omega)]
    exact (upTo_pre h).length_le
  simp at h1
  omega

set_option maxRecDepth 100000 in
set_option maxHeartbeats 1000000 in
theorem all1_in (F : Fence) (N : Nat) (h6 : F.fn 87) (hro : F.round = none) (hn : 1 ≤ N) (l Bn n₀ g n c : Nat) (p : Option Addr) (al : Nat → Bool) (J Jx : List Int → World → Prop)
    (hY : ∀ pre x W, J pre W → pre.length < (upTo al n).length → YieldAt F (N - 1) Try.prog l #[.int .i64 x] W fun e W' =>
      (e = .returned (.bool true) ∧ J (pre ++ [x]) W' ∧ Below n₀ W W') ∨ (e = .returned (.bool false) ∧ Jx (pre ++ [x]) W'))
    (W : World) (hBl : Bn < n₀) (hBn : W.cell? ⟨Bn, 0, none⟩ = some (.pointer (some ⟨g, 0, none⟩))) (hL : ChAt n₀ W g n p c al) (h0 : J [] W) :
    CallsIn F N Try.prog 87 #[.func (.yield l) #[] #[], .pointer (some ⟨Bn, 0, none⟩)] W fun e W' => (∃ v, e = .returned v) ∧
      ((∃ ys, ys = upTo al n ∧ J ys W') ∨ (∃ pre, pre <+: upTo al n ∧ Jx pre W')) := by
  refine callsIn_of_wp Try.func87 rfl h6 ?_ hro
  simp only [Try.ntmps87, List.size_toArray, List.length_cons, List.length_nil, Nat.reduceAdd, Nat.reduceSub, Array.replicate_succ, Array.replicate_zero, List.push_toArray, List.append_toArray, List.nil_append, List.cons_append]
  have f1 := hL.first
  gi_wp2
  gi_loopw [3] (fun i wr => ∃ (z : Int) (pre : List Int), i = .int .i64 z ∧ At n al z pre ∧ ChAt n₀ wr g n p c al ∧ wr.cell? ⟨Bn, 0, none⟩ = some (.pointer (some ⟨g, 0, none⟩)) ∧ J pre wr)
    (fun i wr => ms n i)
  case atStart => exact ⟨_, [], rfl, At.start n al, hL, hBn, h0⟩
  case round =>
    obtain ⟨z, pre, rfl, hat, hC, hB, hJ⟩ := hrel
    rcases hat with ⟨rfl, rfl⟩ | ⟨j, rfl, hj, ha, rfl⟩
    · gi_wp2
      refine ⟨fun f h => (by cases h), ?_⟩
      gi_wp2
      go_end0
      exact ⟨⟨_, rfl⟩, .inl ⟨_, rfl, hJ⟩⟩
    · obtain ⟨fn, tmps, assign, body, hy, hR⟩ := hY _ (j : Int) wr hJ (upTo_len hj ha)
      have hne : ((j : Int) != -1) = true := by rw [bne_iff_ne]; omega
      gi_wp2
      refine hR.mono ?_
      rintro e W3 (⟨rfl, hJ3, hk3⟩ | ⟨rfl, hJx3⟩)
      · have C3 := hC.below hk3
        have B3 := (hk3.cell (p := ⟨Bn, 0, none⟩) hBl).trans hB
        have r3 := C3.row
        obtain ⟨a, rfl, hal, hc3⟩ := C3.nx j hj ha
        have i1 : (j : Int) < (n : Int) := by omega
        gi_wp2
        go_roundw
        case rel => exact ⟨_, _, rfl, At.next hj ha, C3, B3, hJ3⟩
        case measure =>
          have hr := (nextOf_is n al j).range (by omega)
          rw [ms_pos n (z := (j : Int)) (by omega)]
          rcases hr with e | ⟨e1, e2, e3, _⟩
          · rw [ms_neg n (show nextOf n al j < 0 by omega)]; omega
          · rw [ms_pos n e3]; omega
      · gi_wp2
        go_end0
        exact ⟨⟨_, rfl⟩, .inr ⟨_, by rw [← upTo_gap (k := j + 1) ha (by omega) (fun i h1 h2 => by omega)]; exact upTo_pre hj, hJx3⟩⟩

theorem all_stops (F : Fence) (N : Nat) (h6 : F.fn 87) (hro : F.round = none) (hn : 1 ≤ N) (Bn n₀ g n c : Nat) (p : Option Addr) (al : Nat → Bool) (w : World) (hBl : Bn < n₀) (hn₀ : n₀ ≤ w.heap.size)
    (hBn : w.cell? ⟨Bn, 0, none⟩ = some (.pointer (some ⟨g, 0, none⟩))) (hL : ChAt n₀ w g n p c al) :
    SeqStopsK F N Try.prog 87 #[.pointer (some ⟨Bn, 0, none⟩)] (fun x : Int => #[Value.int .i64 x]) (Below n₀) (fun ys => ys = upTo al n) (fun pre => pre <+: upTo al n) (upTo al n).length w := fun l J Jx W hW _ _ hY h0 =>
  all1_in F N h6 hro hn l Bn n₀ g n c p al J Jx hY W hBl ((hW.cell (p := ⟨Bn, 0, none⟩) (Nat.lt_of_lt_of_le hBl hn₀)).trans hBn) (hL.below (hW.mono hn₀)) h0

set_option maxHeartbeats 1000000 in
/-- All: the receiver is boxed; the function value captures the box. -/
theorem all_in (F : Fence) (N : Nat) (h5 : F.fn 73) (hro : F.round = none) (p0 : Option Addr) (w : World) :
    CallsIn F N Try.prog 73 #[.pointer p0] w fun e w' => e = .returned (.func (.func 87) #[] #[.pointer (some ⟨w.heap.size, 0, none⟩)]) ∧ w' = w.alloc (.cells #[.pointer p0] 120) := by
  refine callsIn_of_wp Try.func73 rfl h5 ?_ hro
  simp only [Try.ntmps73, List.size_toArray, List.length_cons, List.length_nil, Nat.reduceAdd, Nat.reduceSub, Array.replicate_succ, Array.replicate_zero, List.push_toArray, List.append_toArray, List.nil_append, List.cons_append]
  gi_wp2
  go_ret
  exact ⟨rfl, rfl⟩
end Go.Proofs.Ytbepmbihonnkaaa.Chain
