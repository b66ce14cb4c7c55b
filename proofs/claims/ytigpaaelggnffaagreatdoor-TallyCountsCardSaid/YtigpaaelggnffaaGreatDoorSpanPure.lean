/- Merged of Lib, RowKit, Lib2, SpanPure. -/
import Derived.WalkKit
import Derived.Lib.Hide
import Derived.Deep.QuietTactic
import Derived.BigQuiet
import Derived.BigRegion
import Derived.WideLaws
import Derived.OneCell
import Derived.Maps.AppendAt
import Derived.Deep.AppendLies
import Derived.Deep.RegionLaw
import Derived.Laws.CopyRow
import Derived.OwnWalk
import Derived.ProofKit
import Derived.OpenShut
import Derived.ShutString
import Derived.ChangeOld
import Derived.Below
import Derived.SizedLaws
import Derived.ChangeSlices
import Derived.Test.YtigpaaelggnffaaGreatDoorProg
import Derived.WalkSpells
/- Small words on worlds and rows: what a call may have written (Ext), a slice of the call's own (Arr). -/
namespace Go.Proofs.YtigpaaelggnffaaGreatDoor.Lib
open Go.RowKit
set_option linter.unusedVariables false
set_option linter.unusedSimpArgs false

/-- w' is w with new blocks, and with writes to blocks of S alone. -/
structure Ext (S : Nat → Prop) (w w' : World) : Prop where
  os : w'.os = w.os
  tape : w'.tape = w.tape
  output : w'.output = w.output
  size : w.heap.size ≤ w'.heap.size
  block : ∀ k, k < w.heap.size → ¬ S k → w'.heap[k]? = w.heap[k]?

section
variable {S S' T : Nat → Prop} {w w' w1 w2 w3 : World}

theorem Ext.refl (S : Nat → Prop) (w : World) : Ext S w w := ⟨rfl, rfl, rfl, Nat.le_refl _, fun _ _ _ => rfl⟩
theorem Ext.mono (h : Ext S w w') (hs : ∀ k, S k → S' k) : Ext S' w w' := ⟨h.os, h.tape, h.output, h.size, fun k hk hn => h.block k hk (fun x => hn (hs k x))⟩
theorem Ext.mono_old (h : Ext S w w') (hs : ∀ k, k < w.heap.size → S k → S' k) : Ext S' w w' := ⟨h.os, h.tape, h.output, h.size, fun k hk hn => h.block k hk (fun x => hn (hs k hk x))⟩
/-- Two steps: what the second wrote is of S, or new since the first began. -/
theorem Ext.trans (h : Ext S w1 w2) (k : Ext T w2 w3) (hs : ∀ i, i < w1.heap.size → T i → S i) : Ext S w1 w3 :=
  ⟨k.os.trans h.os, k.tape.trans h.tape, k.output.trans h.output, Nat.le_trans h.size k.size,
   fun i hi hn => (k.block i (Nat.lt_of_lt_of_le hi h.size) (fun x => hn (hs i hi x))).trans (h.block i hi hn)⟩
theorem Ext.before (k : Ext (fun _ => False) w2 w3) (h : Ext (fun _ => False) w1 w2) : Ext (fun _ => False) w1 w3 := h.trans k (fun _ _ h => h)
theorem Ext.before2 {C : Prop} (k : Ext (fun _ => False) w2 w3) (h : C ∧ Ext (fun _ => False) w1 w2) : Ext (fun _ => False) w1 w3 := h.2.trans k (fun _ _ h => h)
theorem Ext.drew (h : Ext S w w') : Ext S w w'.drew := ⟨h.os, h.tape, h.output, h.size, h.block⟩
theorem Ext.drewN (h : Ext S w w') (n : Nat) : Ext S w (w'.drewN n) := ⟨h.os, h.tape, h.output, h.size, h.block⟩
theorem Ext.undrew (h : Ext S w.drew w') : Ext S w w' := ⟨h.os, h.tape, h.output, h.size, h.block⟩
theorem Ext.undrewN {n : Nat} (h : Ext S (w.drewN n) w') : Ext S w w' := ⟨h.os, h.tape, h.output, h.size, h.block⟩
theorem Ext.of_below (h : Below w.heap.size w w') : Ext S w w' := ⟨h.os, h.tape, h.output, h.size, fun k hk _ => h.block k hk⟩
theorem Ext.of_grown {row : Option Nat} (h : w.grownBy w' row) (hr : ∀ k, row = some k → k < w.heap.size → S k) : Ext S w w' :=
  ⟨h.os, h.tape, h.output, h.size, fun k hk hn => h.block k hk (fun e => hn (hr k e.symm hk))⟩
theorem Ext.alloc (h : Ext S w w') (o : Obj) : Ext S w (w'.alloc o) :=
  h.trans (T := fun _ => False) ⟨rfl, rfl, rfl, by simp, fun k hk _ => Below.heap_alloc _ _ _ hk⟩ (fun _ _ x => x.elim)
theorem Ext.setCell (h : Ext S w w') {p : Addr} (hp : p.block < w.heap.size → S p.block) (u : Value) : Ext S w (w'.setCell p u) :=
  h.trans (T := fun k => k = p.block) ⟨rfl, rfl, rfl, by simp [World.setCell], fun k _ hn => Below.heap_setCell _ _ _ _ hn⟩ (fun i hi e => by subst e; exact hp hi)
theorem Ext.grown {row : Option Nat} (h : Ext S w w') (hg : w'.grownBy w2 row) (hr : ∀ k, row = some k → k < w.heap.size → S k) : Ext S w w2 :=
  h.trans (T := fun k => row = some k) ⟨hg.os, hg.tape, hg.output, hg.size, fun k hk hn => hg.block k hk (fun e => hn e.symm)⟩ (fun i hi e => hr i e hi)
theorem Ext.below (h : Ext (fun _ => False) w w') : Below w.heap.size w w' := ⟨h.os, h.tape, h.output, h.size, fun k hk => h.block k hk (fun x => x)⟩
theorem Ext.cell (h : Ext S w w') {p : Addr} (hp : p.block < w.heap.size) (hn : ¬ S p.block) : w'.cell? p = w.cell? p := World.cell?_of_block (h.block _ hp hn)
theorem Ext.frozen (h : Ext S w w') {p : Addr} (hp : p.block < w.heap.size) (hn : ¬ S p.block) : w'.frozen? p = w.frozen? p := World.frozen?_of_block (h.block _ hp hn)
theorem Ext.obj (h : Ext S w w') {k : Nat} {o : Obj} (hb : w.heap[k]? = some o) (hn : ¬ S k) : w'.heap[k]? = some o :=
  (h.block k (Array.getElem?_eq_some_iff.1 hb).1 hn).trans hb
end

theorem blk_lt {w : World} {k : Nat} {o : Obj} (h : w.heap[k]? = some o) : k < w.heap.size := (Array.getElem?_eq_some_iff.1 h).1
theorem blk_cell {w : World} {k : Nat} {cs : Array Value} {e : TypeId} {fr : Nat × Nat} (h : w.heap[k]? = some (.cells cs e fr)) (i : Nat) : w.cell? ⟨k, i, none⟩ = cs[i]? := by simp [World.cell?, h]
theorem blk_frozen {w : World} {k : Nat} {cs : Array Value} {e : TypeId} (h : w.heap[k]? = some (.cells cs e (0, 0))) (i : Nat) : w.frozen? ⟨k, i, none⟩ = false := by simp [World.frozen?, h]
theorem blk_set {w : World} {k : Nat} {cs : Array Value} {e : TypeId} {fr : Nat × Nat} (h : w.heap[k]? = some (.cells cs e fr)) (i : Nat) (u : Value) :
    (w.setCell ⟨k, i, none⟩ u).heap[k]? = some (.cells (cs.setIfInBounds i u) e fr) := by
  simp [World.setCell, Array.getElem?_modify, h]
theorem blk_far {w : World} {k : Nat} {o : Obj} (h : w.heap[k]? = some o) {p : Addr} (hne : k ≠ p.block) (u : Value) : (w.setCell p u).heap[k]? = some o := (Below.heap_setCell w p u k hne).trans h
theorem blk_alloc {w : World} {k : Nat} {o : Obj} (h : w.heap[k]? = some o) (x : Obj) : (w.alloc x).heap[k]? = some o := (Below.heap_alloc w x k (blk_lt h)).trans h


theorem ret_int {k : IntKind} {a b : Int} (h : a = b) : Ending.returned (.int k a) = .returned (.int k b) := by rw [h]
theorem ret_bool {a b : Bool} (h : a = b) : Ending.returned (.bool a) = .returned (.bool b) := by rw [h]

/-! ### min, max of ints: by a name that the walk does not open -/
def mx (x y : Int) : Int := if x < y then y else x
def mn (x y : Int) : Int := if y < x then y else x
theorem mx_eq (x y : Int) : mx x y = max x y := by unfold mx; split <;> omega
theorem mn_eq (x y : Int) : mn x y = min x y := by unfold mn; split <;> omega
@[go_sem] theorem max2_int (k k' : IntKind) (x y : Int) : Builtin.max2 (.int k x) (.int k' y) = pure (.int k (mx x y)) := by simp only [Builtin.max2, gt_iff_lt, mx]
@[go_sem] theorem min2_int (k k' : IntKind) (x y : Int) : Builtin.min2 (.int k x) (.int k' y) = pure (.int k (mn x y)) := by simp only [Builtin.min2, mn]
@[go_sem] theorem max_two (ats : Array TypeId) (ty : TypeId) (a b : Value) : Builtin.max_ ats ty #[a, b] = (Builtin.max2 a b >>= fun s => pure s) := by simp only [Builtin.max_, List.foldlM_cons, List.foldlM_nil]
@[go_sem] theorem min_two (ats : Array TypeId) (ty : TypeId) (a b : Value) : Builtin.min_ ats ty #[a, b] = (Builtin.min2 a b >>= fun s => pure s) := by simp only [Builtin.min_, List.foldlM_cons, List.foldlM_nil]

/-- The block of a slice's row. -/
def blkOf : Option Addr → Option Nat
  | some a => some a.block
  | none => none
@[simp] theorem blkOf_some (a : Addr) : blkOf (some a) = some a.block := rfl
@[simp] theorem blkOf_none : blkOf none = none := rfl

/-- A slice that is read: element i's cells are R i; its row lies in a block that is there. -/
def Reads (w : World) (sz : Nat) (p : Option Addr) (n : Nat) (R : Nat → List Value) : Prop :=
  ∀ i, i < n → ∃ b o, p = some ⟨b, o, none⟩ ∧ b < w.heap.size ∧ ∀ j, j < sz → w.cell? ⟨b, o + i * sz + j, none⟩ = (R i)[j]?
theorem Reads.ext {w w' : World} {sz n : Nat} {p : Option Addr} {R : Nat → List Value} {S : Nat → Prop} (h : Reads w sz p n R) (hx : Ext S w w') (hn : ∀ k, blkOf p = some k → k < w.heap.size → ¬ S k) : Reads w' sz p n R := by
  intro i hi
  obtain ⟨b, o, hp, hb, hc⟩ := h i hi
  have hnb : ¬ S b := hn b (by rw [hp]; rfl) hb
  exact ⟨b, o, hp, Nat.lt_of_lt_of_le hb hx.size, fun j hj => (hx.cell (p := ⟨b, o + i * sz + j, none⟩) hb hnb).trans (hc j hj)⟩
theorem Reads.less {w : World} {sz n m : Nat} {p : Option Addr} {R : Nat → List Value} (h : Reads w sz p n R) (hm : m ≤ n) : Reads w sz p m R := fun i hi => h i (by omega)
theorem Reads.drew {w : World} {sz n : Nat} {p : Option Addr} {R : Nat → List Value} (h : Reads w sz p n R) : Reads w.drew sz p n R := h

/-- A slice of the call's own (address p, length n, capacity c): elements of type e, sz cells each; its cells are cs. -/
def Arr (w : World) (e sz : Nat) (p : Option Addr) (n c : Nat) (cs : List Value) : Prop := w.ownsRow 0 e sz (.slice p n c) n cs
/-- Where p1 lies: in p's row, or in a block that is new since W. -/
def Moved (W : World) (p p1 : Option Addr) : Prop := ∀ k, blkOf p1 = some k → blkOf p = some k ∨ W.heap.size ≤ k
theorem Moved.refl (W : World) (p : Option Addr) : Moved W p p := fun _ h => .inl h
theorem Moved.trans {W W1 : World} {p p1 p2 : Option Addr} (h : Moved W p p1) (k : Moved W1 p1 p2) (hs : W.heap.size ≤ W1.heap.size) : Moved W p p2 := fun i hi =>
  (k i hi).elim (fun x => h i x) (fun x => .inr (by omega))
theorem arr_nil (w : World) (e sz : Nat) : Arr w e sz none 0 0 [] := World.ownsRow_nil w 0 e sz

section
variable {w w' : World} {e sz n c : Nat} {p : Option Addr} {cs : List Value}
theorem arr_lt (h : Arr w e sz p n c cs) {k : Nat} (hk : blkOf p = some k) : k < w.heap.size := (World.ownsRow.lt h k (by cases p with | none => cases hk | some a => exact hk)).2
theorem arr_ext {S : Nat → Prop} (h : Arr w e sz p n c cs) (hx : Ext S w w') (hn : ∀ k, blkOf p = some k → ¬ S k) : Arr w' e sz p n c cs := by
  refine ⟨h.1, ?_⟩
  rcases h.2 with hn' | ⟨g, cap, cur, hv, hb, hgg, rest⟩
  · exact .inl hn'
  · injection hv with hv1 hv2 hv3
    subst hv1
    exact .inr ⟨g, cap, cur, by rw [hv3], hb, hx.obj hgg (hn g rfl), rest⟩
theorem arr_len (h : Arr w e sz p n c cs) : cs.length = n * sz := h.1
theorem arr_cap (h : Arr w e sz p n c cs) : n ≤ c ∧ c ≤ maxLen := by
  rcases h.2 with ⟨hv, h0⟩ | ⟨g, cap, cur, hv, _, _, h1, h2, _⟩
  · injection hv with _ h1 h2
    omega
  · injection hv with _ _ h3
    omega
theorem arr_some (h : Arr w e sz p n c cs) (hp : 0 < n) : ∃ a, p = some ⟨a, 0, none⟩ := by
  rcases h.2 with ⟨hv, h0⟩ | ⟨g, cap, cur, hv, _⟩
  · omega
  · injection hv with hv
    exact ⟨g, hv⟩
theorem arr_none (h : Arr w e sz none n c cs) : n = 0 ∧ c = 0 ∧ cs = [] := by
  rcases h.2 with ⟨hv, h0⟩ | ⟨g, cap, cur, hv, _⟩
  · injection hv with _ h1 h2
    refine ⟨h1, h2, List.eq_nil_of_length_eq_zero ?_⟩
    have := h.1
    rw [h1] at this
    simpa using this
  · cases hv
theorem arr_cases (h : Arr w e sz p n c cs) : (p = none ∧ n = 0 ∧ c = 0 ∧ cs = []) ∨ ∃ a, p = some ⟨a, 0, none⟩ := by
  cases p with
  | none => exact .inl ⟨rfl, arr_none h⟩
  | some x =>
    rcases h.2 with ⟨hv, h0⟩ | ⟨g, cap, cur, hv, _⟩
    · cases hv
    · injection hv with hv
      exact .inr ⟨g, hv⟩
theorem arr_cell {a : Nat} (h : Arr w e sz (some ⟨a, 0, none⟩) n c cs) (j : Nat) (hj : j < n * sz) : w.cell? ⟨a, j, none⟩ = cs[j]? := World.ownsRow.cellAt h j hj
theorem arr_frozen {a : Nat} (h : Arr w e sz (some ⟨a, 0, none⟩) n c cs) (j : Nat) : w.frozen? ⟨a, j, none⟩ = false := World.ownsRow.frozenAt h j
theorem arr_set {a : Nat} (h : Arr w e sz (some ⟨a, 0, none⟩) n c cs) (j : Nat) (u : Value) : Arr (w.setCell ⟨a, j, none⟩ u) e sz (some ⟨a, 0, none⟩) n c (cs.set j u) := (World.ownsRow.stored h j u).1
theorem arr_take (h : Arr w e sz p n c cs) {m : Nat} (hm : m ≤ n) : Arr w e sz p m c (cs.take (m * sz)) := by
  have hl := h.1
  refine ⟨by rw [List.length_take, hl]; exact Nat.min_eq_left (Nat.mul_le_mul_right _ hm), ?_⟩
  rcases h.2 with ⟨hv, h0⟩ | ⟨g, cap, cur, hv, hb, hgg, h1, h2, h3, h4⟩
  · injection hv with hv1 hv2 hv3
    subst hv1
    exact .inl ⟨by rw [show m = 0 by omega, hv3], by omega⟩
  · injection hv with hv1 hv2 hv3
    subst hv1
    refine .inr ⟨g, cap, cur, by rw [hv3], hb, hgg, by omega, h2, h3, ?_⟩
    rw [← h4, List.take_take, Nat.min_eq_left (Nat.mul_le_mul_right _ hm)]
theorem arr_far (h : Arr w e sz p n c cs) {q : Addr} (hq : blkOf p ≠ some q.block) (u : Value) : Arr (w.setCell q u) e sz p n c cs :=
  arr_ext h ((Ext.refl (fun k => k = q.block) w).setCell (fun _ => rfl) u) (fun k hk e => hq (e ▸ hk))
end

/-- What is owned is read. -/
theorem arr_reads {w : World} {e sz n c : Nat} {p : Option Addr} {cs : List Value} (h : Arr w e sz p n c cs) (hsz : 0 < sz) : Reads w sz p n (fun i => (cs.drop (i * sz)).take sz) := by
  intro i hi
  obtain ⟨a, rfl⟩ := arr_some h (by omega)
  refine ⟨a, 0, rfl, arr_lt h rfl, fun j hj => ?_⟩
  have hlt : i * sz + j < n * sz := by
    have : (i + 1) * sz ≤ n * sz := Nat.mul_le_mul_right _ hi
    rw [Nat.succ_mul] at this
    omega
  rw [Nat.zero_add, arr_cell h _ hlt, List.getElem?_take, if_pos hj, List.getElem?_drop]

section
variable {P : Program} {ops : Array Oper} {rest : List Oper} {o : Oper} {a : Act} {Q : Exit → Act → World → Prop}
/-- append(v, x), x of the cells ys. -/
theorem arr_append1 {W : World} (hgd : o.guard = none) (s x : Operand) (t e sz bytes : Nat) (z : Value)
    (ho : o.op = .call { callee := .builtin .append, args := #[s, x], argTypes := #[t, t] })
    (ht : P.underlying t = some (.slice e)) (hinfo : (P.info? e).map (fun i => (i.zero, i.size, i.bytes)) = some (some z, sz, bytes)) (hz : z.cells.size = sz) (hsz : 0 < sz) (hb0 : 0 < bytes)
    (p : Option Addr) (n c : Nat) (cs ys : List Value) (hs : a.eval s = .slice p n c) (N : Nat) (hx : a.eval x = .slice (some ⟨N, 0, none⟩) 1 1) (hN : N = W.heap.size) (hys : ys.length = sz) (h1 : ∀ u ∈ ys, u.oneCell' = true)
    (HO : Arr W e sz p n c cs) (hl : (n + 1) * bytes ≤ 140737488355328)
    (h : ∀ p1 c1 w1, Arr w1 e sz p1 (n + 1) c1 (cs ++ ys) → Ext (fun k => blkOf p = some k) W w1 → Moved W p p1 → wpList P ops Q rest (a.put o.dst (.slice p1 (n + 1) c1)) w1) :
    wpList P ops Q (o :: rest) a (W.alloc (.cells ys.toArray e)) := by
  subst hN
  obtain ⟨i0, hi, hzz⟩ := Option.map_eq_some_iff.1 hinfo
  simp only [Prod.mk.injEq] at hzz
  obtain ⟨hz0, hz1, hz2⟩ := hzz
  have hlen : n + 1 ≤ 140737488355328 := Nat.le_trans (Nat.le_mul_of_pos_right _ hb0) hl
  have hbo : (Value.slice p n c).ownBlock = blkOf p := by cases p <;> rfl
  refine wpList_append_own_at (W.alloc (.cells ys.toArray e)) hgd s x t ho 0 e i0 z sz bytes ht hi hz0 hz1 hz2 hz hsz (.slice p n c) n cs hs (World.ownsRow.alloc HO _) ⟨W.heap.size, 0, none⟩ 1 1 ys hx (by omega)
    (World.news_of_block (cs := ys.toArray) (t := e) (fr := (0, 0)) (heap_alloc_new W _)) h1 (by simp only [maxLen]; omega) hl (Nat.zero_le _) ?_
  intro v1 w1 hown hg _ hat
  obtain ⟨p1, c1, rfl⟩ : ∃ p1 c1, v1 = .slice p1 (n + 1) c1 := by
    rcases hown.2 with ⟨rfl, h0⟩ | ⟨g, cap, cur, rfl, _⟩
    · omega
    · exact ⟨_, cap, rfl⟩
  have hbo1 : (Value.slice p1 (n + 1) c1).ownBlock = blkOf p1 := by cases p1 <;> rfl
  rw [hbo] at hg hat
  rw [hbo1] at hat
  refine h p1 c1 w1 hown (((Ext.refl _ W).alloc _).grown hg (fun k hk _ => hk)) (fun k hk => ?_)
  rcases hat with hat | hat
  · exact .inl (hat ▸ hk)
  · rw [hat] at hk
    injection hk with hk
    exact .inr (by rw [← hk]; simp)

/-- The same as one step of a region that draws its order. -/
theorem arr_append1_step {W : World} {K : Act → World → Prop} (hw : Region.wanted o (yielded ops a.tmps) = true) (s x : Operand) (t e sz bytes : Nat) (z : Value)
    (ho : o.op = .call { callee := .builtin .append, args := #[s, x], argTypes := #[t, t] })
    (ht : P.underlying t = some (.slice e)) (hinfo : (P.info? e).map (fun i => (i.zero, i.size, i.bytes)) = some (some z, sz, bytes)) (hz : z.cells.size = sz) (hsz : 0 < sz) (hb0 : 0 < bytes)
    (p : Option Addr) (n c : Nat) (cs ys : List Value) (hs : a.eval s = .slice p n c) (N : Nat) (hx : a.eval x = .slice (some ⟨N, 0, none⟩) 1 1) (hN : N = W.heap.size) (hys : ys.length = sz) (h1 : ∀ u ∈ ys, u.oneCell' = true)
    (HO : Arr W e sz p n c cs) (hl : (n + 1) * bytes ≤ 140737488355328)
    (h : ∀ p1 c1 w1, Arr w1 e sz p1 (n + 1) c1 (cs ++ ys) → Ext (fun k => blkOf p = some k) W w1 → Moved W p p1 → K (a.put o.dst (.slice p1 (n + 1) c1)) w1) :
    if Region.wanted o (yielded ops a.tmps) = true then Oper.wp P o a (W.alloc (.cells ys.toArray e)) K Q else K (a.put o.dst undef) (W.alloc (.cells ys.toArray e)) := by
  subst hN
  obtain ⟨i0, hi, hzz⟩ := Option.map_eq_some_iff.1 hinfo
  simp only [Prod.mk.injEq] at hzz
  obtain ⟨hz0, hz1, hz2⟩ := hzz
  have hlen : n + 1 ≤ 140737488355328 := Nat.le_trans (Nat.le_mul_of_pos_right _ hb0) hl
  rw [if_pos hw]
  obtain ⟨v1, w1, hr, hown, hg, _, hat⟩ := run_append_own_at (P := P) (W.alloc (.cells ys.toArray e)) 0 t o.type e i0 z sz bytes ht hi hz0 hz1 hz2 hz hsz (.slice p n c) n cs (World.ownsRow.alloc HO _) ⟨W.heap.size, 0, none⟩ 1 1 ys (by omega)
    (World.news_of_block (cs := ys.toArray) (t := e) (fr := (0, 0)) (heap_alloc_new W _)) h1 (by simp only [maxLen]; omega) hl (Nat.zero_le _)
  unfold Oper.wp execOp
  simp only [ho, resolve, invoke, builtin, Sem.run_bind, Sem.run_pure, Result.andThen_ok, List.map_toArray, List.map_cons, List.map_nil, hs, hx, hr]
  have hbo : (Value.slice p n c).ownBlock = blkOf p := by cases p <;> rfl
  obtain ⟨p1, c1, rfl⟩ : ∃ p1 c1, v1 = .slice p1 (n + 1) c1 := by
    rcases hown.2 with ⟨rfl, h0⟩ | ⟨g, cap, cur, rfl, _⟩
    · omega
    · exact ⟨_, cap, rfl⟩
  have hbo1 : (Value.slice p1 (n + 1) c1).ownBlock = blkOf p1 := by cases p1 <;> rfl
  rw [hbo] at hg hat
  rw [hbo1] at hat
  refine h p1 c1 w1 hown (((Ext.refl _ W).alloc _).grown hg (fun k hk _ => hk)) (fun k hk => ?_)
  rcases hat with hat | hat
  · exact .inl (hat ▸ hk)
  · rw [hat] at hk
    injection hk with hk
    exact .inr (by rw [← hk]; simp)

/-- copy(d, s): d a row of the call's own, at least as long. -/
theorem arr_copy {w : World} (hgd : o.guard = none) (d s : Operand) (dT sT e sz bytes : Nat) (z : Value)
    (ho : o.op = .call { callee := .builtin .copy, args := #[d, s], argTypes := #[dT, sT] })
    (ht : P.underlying dT = some (.slice e)) (hinfo : (P.info? e).map (fun i => (i.zero, i.size, i.bytes)) = some (some z, sz, bytes))
    (b n c : Nat) (cs : List Value) (hd : a.eval d = .slice (some ⟨b, 0, none⟩) n c) (p : Option Addr) (m mc : Nat) (hs : a.eval s = .slice p m mc) (hm : m ≤ n)
    (news : List Value) (hl : news.length = m * sz) (hnews : ∀ ad, p = some ad → ∀ j u, news[j]? = some u → w.cell? (ad.add j) = some u) (h0 : p = none → m = 0) (h1 : ∀ u ∈ news, u.oneCell' = true)
    (HO : Arr w e sz (some ⟨b, 0, none⟩) n c cs)
    (h : ∀ w1, Arr w1 e sz (some ⟨b, 0, none⟩) n c (news ++ cs.drop (m * sz)) → Ext (fun k => k = b) w w1 → wpList P ops Q rest (a.put o.dst (goInt m)) w1) :
    wpList P ops Q (o :: rest) a w := by
  obtain ⟨i0, hi, hzz⟩ := Option.map_eq_some_iff.1 hinfo
  simp only [Prod.mk.injEq] at hzz
  obtain ⟨hz0, hz1, hz2⟩ := hzz
  refine wpList_plain hgd fun K hK => ?_
  have hmin : Nat.min m n = m := Nat.min_eq_left hm
  have hlen := HO.1
  rcases HO.2 with ⟨hv, _⟩ | ⟨g, cap, cur, hv, hb0, hgg, c1, c2, c3, c4⟩
  · cases hv
  injection hv with hv1 hv2 hv3
  injection hv1 with hv1
  injection hv1 with hv1
  subst hv1
  subst hv3
  have hfit : m * sz ≤ n * sz := Nat.mul_le_mul_right _ hm
  have hfit2 : n * sz ≤ c * sz := Nat.mul_le_mul_right _ c1
  have hfc : (Builtin.firstCells sz m (.slice p m mc)).run P w = .ok news.toArray w := by
    cases p with
    | some ad => exact run_firstCells_some w sz m ad m mc news hl (hnews ad rfl)
    | none =>
      have hm0 := h0 rfl
      subst hm0
      have : news = [] := List.eq_nil_of_length_eq_zero (by simpa using hl)
      subst this
      exact run_firstCells_none w sz 0 0 mc
  have hst := run_storeCells_at P b 0 e news 0 cur w hgg (by omega) h1
  simp only [Nat.add_zero, Nat.zero_add, List.take_zero, List.nil_append] at hst
  unfold Oper.wp execOp
  simp [ho, resolve, invoke, builtin, hd, hs, Builtin.copy_, run_underlying ht, sizeOf, typeInfo, hi, hz1, Builtin.lenOf, hmin, hfc, hst, Result.andThen]
  refine hK _ _ (h _ ?_ ⟨rfl, rfl, rfl, by simp [World.setRow], fun k hk hn => setRow_other w b k _ hn⟩)
  refine ⟨?_, .inr ⟨b, c, _, rfl, Nat.zero_le _, setRow_heap w b cur _ e _ hgg, c1, c2, ?_, ?_⟩⟩
  · rw [List.length_append, List.length_drop, hlen, hl]; omega
  · simp only [List.size_toArray, List.length_append, List.length_drop, Array.length_toList]; omega
  · have hcur : cur.toList.length = c * sz := by rw [Array.length_toList, c3]
    rw [List.toList_toArray, List.take_append, hl, ← c4]
    rw [List.take_of_length_le (by omega), List.drop_take]

/-- make([]T, n). -/
theorem arr_make {w : World} (hgd : o.guard = none) (l c : Operand) (t e sz bytes : Nat) (z : Value) (hop : o.op = Op.makeSlice t l c)
    (ht : P.underlying t = some (.slice e)) (hinfo : (P.info? e).map (fun i => (i.zero, i.size, i.bytes)) = some (some z, sz, bytes))
    (kl kc : IntKind) (L C : Int) (n : Nat) (hl : a.eval l = .int kl L) (hc : a.eval c = .int kc C) (hL : L = (n : Int)) (hC : C = (n : Int)) (hb : n * bytes ≤ 140737488355328) (hb1 : 0 < bytes) (hz : z.cells.size = sz)
    (h : ∀ w1, Arr w1 e sz (some ⟨w.heap.size, 0, none⟩) n n (madeCells z.cells (n * sz)).toList → Ext (fun _ => False) w w1 → wpList P ops Q rest (a.put o.dst (.slice (some ⟨w.heap.size, 0, none⟩) n n)) w1) :
    wpList P ops Q (o :: rest) a w := by
  obtain ⟨i0, hi, hzz⟩ := Option.map_eq_some_iff.1 hinfo
  simp only [Prod.mk.injEq] at hzz
  obtain ⟨hz0, hz1, hz2⟩ := hzz
  have hn : n ≤ 140737488355328 := Nat.le_trans (Nat.le_mul_of_pos_right _ hb1) hb
  refine wpList_make_full w hgd l c t hop 0 e i0 z sz ht hi hz0 hz1 kl kc L C n hl hc hL hC (by rw [hz2, Nat.mul_comm]; omega) (by unfold maxLen; omega) (Nat.zero_le _) ?_
  intro w1 hown hg
  exact h w1 hown ((Ext.refl _ w).grown hg (fun k hk _ => by cases hk))
end
end Go.Proofs.YtigpaaelggnffaaGreatDoor.Lib

/- For the rows: arguments opened. -/
namespace Go.Proofs.YtigpaaelggnffaaGreatDoor.RowK
open Go.ChangeShapes Go.WideShapes Go.ChangeAt Go.RowKit Go.Proofs.YtigpaaelggnffaaGreatDoor.Lib
set_option linter.unusedVariables false
set_option linter.unusedSimpArgs false

theorem laidOut : laidOutB Tryz.prog = true := by kernel_rfl
theorem own : ownKnob Tryz.prog.godebug = none := by kernel_rfl

/-- A slice of whole numbers that came in: its cells lie in blocks that were there. -/
def CameInts (k : IntKind) (W : World) (p : Option Addr) (len : Nat) (xs : Nat → Int) : Prop :=
  ∀ i, i < len → ∃ b o, p = some ⟨b, o, none⟩ ∧ b < W.heap.size ∧ W.cell? ⟨b, o + i, none⟩ = some (.int k (xs i))

/-- A row's slice of whole numbers is no longer than its weight allows. -/
theorem open_ints_row {H : Type} {enc : TypeId × Value → H} {P : Program} {W : World} {base : Nat} {spare : Nat → Bool} {held : Bool} {t e : TypeId} {k : IntKind} {a : Option Addr} {len cap : Nat} {d : DataW H} {ps : List MemPlace} {ts : List TypeId} {ds : List (DataW H)} {j : Nat}
    (hsz : (DataW.weightsEach P ts ds).all (· ≤ reachBytes) = true) (ht : ts[j]? = some t) (hd : ds[j]? = some d) (hu : P.underlying t = some (.slice e)) (he : P.underlying e = some (.int k)) (hc : P.cellsOf e = 1) {B : Nat} (hB : P.bytesOf e = B)
    (h : DataW.Trod enc P W base spare held t (.slice a len cap) d ps) : len * B ≤ 140737488351232 ∧ len ≤ cap ∧ cap ≤ maxLen ∧ ∃ xs, CameInts k W a len xs ∧ ∀ i, i < len → (Lit.int k (xs i)).wf = true := by
  obtain ⟨fuel, hf⟩ := h
  rcases open_ints hu he hc hf with ⟨hcs, _⟩ | ⟨x, l, c, zs, hcs, _, hl, hm, hz, hx, hcell, hwz⟩
  · simp [Value.cells] at hcs
    obtain ⟨rfl, rfl, rfl⟩ := hcs
    exact ⟨by simp, by omega, by simp [maxLen], fun _ => 0, fun i hi => absurd hi (Nat.not_lt_zero _), fun i hi => absurd hi (Nat.not_lt_zero _)⟩
  · simp [Value.cells] at hcs
    obtain ⟨rfl, rfl, rfl⟩ := hcs
    obtain ⟨hx, _⟩ := Prod.mk.inj hx
    subst hx
    have z := sized_slice hsz ht hd hu
    rw [hB] at z
    have hl2 : len ≤ zs.length := by
      rw [hz]
      split
      · exact hl
      · exact Nat.le_refl _
    have h1 : (lits (H := H) k (zs.take len)).length + (lits (H := H) k (zs.drop len)).length = zs.length := by
      simp [lits]
      omega
    rw [h1] at z
    refine ⟨Nat.le_trans (Nat.mul_le_mul_right _ hl2) z, hl, hm, fun i => zs.getD i 0, fun i hi => ?_, fun i hi => ?_⟩
    · have hci := hcell i (by omega)
      obtain ⟨b, o, s⟩ := x
      have hs : s = none := by
        cases s with
        | none => rfl
        | some y =>
          have h0 := hcell 0 (by omega)
          simp [Addr.add, World.cell?] at h0
          split at h0 <;> simp at h0
      subst hs
      have : (⟨b, o, none⟩ : Addr).add i = ⟨b, o + i, none⟩ := by unfold Addr.add; split <;> simp_all
      rw [this] at hci
      exact ⟨b, o, rfl, World.block_lt_of_cell? W ⟨b, o + i, none⟩ hci, hci⟩
    · exact hwz _ (by show zs.getD i 0 ∈ zs; rw [List.getD_eq_getElem?_getD, List.getElem?_eq_getElem (show i < zs.length by omega)]; simp)
end Go.Proofs.YtigpaaelggnffaaGreatDoor.RowK

/- append of a slice, whatever it is. -/
namespace Go.Proofs.YtigpaaelggnffaaGreatDoor.Lib
open Go.RowKit
set_option linter.unusedVariables false
set_option linter.unusedSimpArgs false

section
variable {P : Program} {ops : Array Oper} {rest : List Oper} {o : Oper} {a : Act} {Q : Exit → Act → World → Prop}
/-- append(v, x...), run. -/
theorem run_arr_append {W : World} (t ty e sz bytes : Nat) (z : Value) (ht : P.underlying t = some (.slice e)) (hinfo : (P.info? e).map (fun i => (i.zero, i.size, i.bytes)) = some (some z, sz, bytes)) (hz : z.cells.size = sz) (hsz : 0 < sz) (hb0 : 0 < bytes)
    (p : Option Addr) (n c : Nat) (cs : List Value) (HO : Arr W e sz p n c cs) (q : Option Addr) (m mc : Nat) (news : List Value) (hnl : news.length = m * sz) (hnews : ∀ ad, q = some ad → ∀ j u, news[j]? = some u → W.cell? (ad.add j) = some u) (h0 : q = none → m = 0) (h1 : ∀ u ∈ news, u.oneCell' = true)
    (hl : (n + m) * bytes ≤ 140737488355328) :
    ∃ p1 c1 w1, (Builtin.append_ #[t, t] ty #[.slice p n c, .slice q m mc]).run P W = .ok (.slice p1 (n + m) c1) w1 ∧ Arr w1 e sz p1 (n + m) c1 (cs ++ news) ∧ Ext (fun k => blkOf p = some k) W w1 ∧ Moved W p p1 := by
  obtain ⟨i0, hi, hzz⟩ := Option.map_eq_some_iff.1 hinfo
  simp only [Prod.mk.injEq] at hzz
  obtain ⟨hz0, hz1, hz2⟩ := hzz
  have hbo : (Value.slice p n c).ownBlock = blkOf p := by cases p <;> rfl
  cases q with
  | none =>
    have hm := h0 rfl
    subst hm
    have hn : news = [] := List.eq_nil_of_length_eq_zero (by simpa using hnl)
    subst hn
    refine ⟨p, c, W, ?_, by simpa using HO, Ext.refl _ _, Moved.refl _ _⟩
    have hc := (arr_cap HO).1
    cases p with
    | none =>
      obtain ⟨rfl, rfl, _⟩ := arr_none HO
      simp [Builtin.append_, run_underlying ht, sizeOf, typeInfo, hi, Builtin.lenOf, Builtin.firstCells, loadCells, loadCellsFrom]
    | some ad => simp [Builtin.append_, run_underlying ht, sizeOf, typeInfo, hi, Builtin.lenOf, Builtin.firstCells, loadCells, loadCellsFrom, hc, storeCells]
  | some ad =>
    have hnm : n + m ≤ 140737488355328 := Nat.le_trans (Nat.le_mul_of_pos_right _ hb0) hl
    obtain ⟨v1, w1, hr, hown, hg, _, hat⟩ := run_append_own_at (P := P) W 0 t ty e i0 z sz bytes ht hi hz0 hz1 hz2 hz hsz (.slice p n c) n cs HO ad m mc news hnl (hnews ad rfl) h1 (by simp only [maxLen]; omega) hl (Nat.zero_le _)
    obtain ⟨p1, c1, rfl⟩ : ∃ p1 c1, v1 = .slice p1 (n + m) c1 := by
      rcases hown.2 with ⟨rfl, h0⟩ | ⟨g, cap, cur, rfl, _⟩
      · exact ⟨none, 0, by rw [h0]⟩
      · exact ⟨_, cap, rfl⟩
    have hbo1 : (Value.slice p1 (n + m) c1).ownBlock = blkOf p1 := by cases p1 <;> rfl
    rw [hbo] at hg hat
    rw [hbo1] at hat
    refine ⟨p1, c1, w1, hr, hown, (Ext.refl _ W).grown hg (fun k hk _ => hk), fun k hk => ?_⟩
    rcases hat with hat | hat
    · exact .inl (hat ▸ hk)
    · rw [hat] at hk
      injection hk with hk
      exact .inr (by omega)
theorem arr_append {W : World} (hgd : o.guard = none) (s x : Operand) (t e sz bytes : Nat) (z : Value)
    (ho : o.op = .call { callee := .builtin .append, args := #[s, x], argTypes := #[t, t] })
    (ht : P.underlying t = some (.slice e)) (hinfo : (P.info? e).map (fun i => (i.zero, i.size, i.bytes)) = some (some z, sz, bytes)) (hz : z.cells.size = sz) (hsz : 0 < sz) (hb0 : 0 < bytes)
    (p : Option Addr) (n c : Nat) (cs : List Value) (hs : a.eval s = .slice p n c) (q : Option Addr) (m mc : Nat) (hx : a.eval x = .slice q m mc) (news : List Value) (hnl : news.length = m * sz) (hnews : ∀ ad, q = some ad → ∀ j u, news[j]? = some u → W.cell? (ad.add j) = some u) (h0 : q = none → m = 0) (h1 : ∀ u ∈ news, u.oneCell' = true)
    (HO : Arr W e sz p n c cs) (hl : (n + m) * bytes ≤ 140737488355328)
    (h : ∀ p1 c1 w1, Arr w1 e sz p1 (n + m) c1 (cs ++ news) → Ext (fun k => blkOf p = some k) W w1 → Moved W p p1 → wpList P ops Q rest (a.put o.dst (.slice p1 (n + m) c1)) w1) :
    wpList P ops Q (o :: rest) a W := by
  refine wpList_plain hgd fun K hK => ?_
  obtain ⟨p1, c1, w1, hr, hA, hx1, hm1⟩ := run_arr_append (P := P) t o.type e sz bytes z ht hinfo hz hsz hb0 p n c cs HO q m mc news hnl hnews h0 h1 hl
  unfold Oper.wp execOp
  simp only [ho, resolve, invoke, builtin, Sem.run_bind, Sem.run_pure, Result.andThen_ok, List.map_toArray, List.map_cons, List.map_nil, hs, hx, hr]
  exact hK _ _ (h p1 c1 w1 hA hx1 hm1)
theorem arr_append_step {W : World} {K : Act → World → Prop} {E : Prop} (hw : Region.wanted o (yielded ops a.tmps) = true) (s x : Operand) (t e sz bytes : Nat) (z : Value)
    (ho : o.op = .call { callee := .builtin .append, args := #[s, x], argTypes := #[t, t] })
    (ht : P.underlying t = some (.slice e)) (hinfo : (P.info? e).map (fun i => (i.zero, i.size, i.bytes)) = some (some z, sz, bytes)) (hz : z.cells.size = sz) (hsz : 0 < sz) (hb0 : 0 < bytes)
    (p : Option Addr) (n c : Nat) (cs : List Value) (hs : a.eval s = .slice p n c) (q : Option Addr) (m mc : Nat) (hx : a.eval x = .slice q m mc) (news : List Value) (hnl : news.length = m * sz) (hnews : ∀ ad, q = some ad → ∀ j u, news[j]? = some u → W.cell? (ad.add j) = some u) (h0 : q = none → m = 0) (h1 : ∀ u ∈ news, u.oneCell' = true)
    (HO : Arr W e sz p n c cs) (hl : (n + m) * bytes ≤ 140737488355328)
    (h : ∀ p1 c1 w1, Arr w1 e sz p1 (n + m) c1 (cs ++ news) → Ext (fun k => blkOf p = some k) W w1 → Moved W p p1 → K (a.put o.dst (.slice p1 (n + m) c1)) w1) :
    if Region.wanted o (yielded ops a.tmps) = true then Oper.wp P o a W K Q else E := by
  rw [if_pos hw]
  obtain ⟨p1, c1, w1, hr, hA, hx1, hm1⟩ := run_arr_append (P := P) t o.type e sz bytes z ht hinfo hz hsz hb0 p n c cs HO q m mc news hnl hnews h0 h1 hl
  unfold Oper.wp execOp
  simp only [ho, resolve, invoke, builtin, Sem.run_bind, Sem.run_pure, Result.andThen_ok, List.map_toArray, List.map_cons, List.map_nil, hs, hx, hr]
  exact h p1 c1 w1 hA hx1 hm1
end
end Go.Proofs.YtigpaaelggnffaaGreatDoor.Lib

/- Merged of Sl, Clone, SpanPure. -/
/- Slices that read as lists; the encodings of elements; a model's data. -/
namespace Go.Proofs.YtigpaaelggnffaaGreatDoor.Sl
open Go.RowKit Go.Proofs.YtigpaaelggnffaaGreatDoor.Lib
set_option linter.unusedVariables false
set_option linter.unusedSimpArgs false

instance : DecidableEq ByteArray := fun a b => decidable_of_iff (a.data = b.data) ⟨fun h => by cases a; cases b; simp_all, fun h => by rw [h]⟩
/-- How an element lies in cells. -/
structure En (α : Type) where
  sz : Nat
  enc : α → List Value
  pos : 0 < sz
  len : ∀ x, (enc x).length = sz
  one : ∀ x, ∀ u ∈ enc x, u.oneCell' = true
section
variable {α : Type} (E : En α)
def flat (l : List α) : List Value := l.flatMap E.enc
theorem flat_nil : flat E [] = [] := rfl
theorem flat_cons (x : α) (l : List α) : flat E (x :: l) = E.enc x ++ flat E l := rfl
theorem flat_append (l m : List α) : flat E (l ++ m) = flat E l ++ flat E m := by simp [flat]
theorem flat_one (x : α) : flat E [x] = E.enc x := by simp [flat]
theorem flat_cells (l : List α) : ∀ u ∈ flat E l, u.oneCell' = true := by
  intro u hu
  obtain ⟨x, _, h⟩ := List.mem_flatMap.1 hu
  exact E.one x u h
theorem flat_length (l : List α) : (flat E l).length = l.length * E.sz := by
  induction l with
  | nil => simp [flat]
  | cons x l ih => rw [flat_cons, List.length_append, ih, E.len, List.length_cons, Nat.succ_mul, Nat.add_comm]
theorem flat_get {l : List α} {i : Nat} {x : α} (h : l[i]? = some x) (j : Nat) (hj : j < E.sz) : (flat E l)[i * E.sz + j]? = (E.enc x)[j]? := by
  induction l generalizing i with
  | nil => simp at h
  | cons y l ih =>
    cases i with
    | zero =>
      simp at h
      subst h
      rw [flat_cons, Nat.zero_mul, Nat.zero_add, List.getElem?_append_left (by rw [E.len]; exact hj)]
    | succ i =>
      rw [flat_cons, List.getElem?_append_right (by rw [E.len, Nat.succ_mul]; omega), E.len, show (i + 1) * E.sz + j - E.sz = i * E.sz + j from by rw [Nat.succ_mul]; omega]
      exact ih (by simpa using h)
theorem flat_take (l : List α) (m : Nat) (hm : m ≤ l.length) : flat E (l.take m) = (flat E l).take (m * E.sz) := by
  have e := flat_append E (l.take m) (l.drop m)
  rw [List.take_append_drop] at e
  rw [e, List.take_left' (by rw [flat_length, List.length_take, Nat.min_eq_left hm])]

/-- A slice at p reads as l. -/
def Rd (w : World) (p : Option Addr) (l : List α) : Prop :=
  ∀ i x, l[i]? = some x → ∃ b o, p = some ⟨b, o, none⟩ ∧ b < w.heap.size ∧ ∀ j, j < E.sz → w.cell? ⟨b, o + i * E.sz + j, none⟩ = (E.enc x)[j]?
variable {E}
variable {w w' : World} {p : Option Addr} {l : List α}
theorem Rd.ext {S : Nat → Prop} (h : Rd E w p l) (hx : Ext S w w') (hn : ∀ k, blkOf p = some k → k < w.heap.size → ¬ S k) : Rd E w' p l := by
  intro i x hi
  obtain ⟨b, o, hp, hb, hc⟩ := h i x hi
  have hnb : ¬ S b := hn b (by rw [hp]; rfl) hb
  exact ⟨b, o, hp, Nat.lt_of_lt_of_le hb hx.size, fun j hj => (hx.cell (p := ⟨b, o + i * E.sz + j, none⟩) hb hnb).trans (hc j hj)⟩
theorem Rd.on (h : Rd E w p l) (hx : Ext (fun _ => False) w w') : Rd E w' p l := h.ext hx (fun _ _ _ h => h)
theorem Rd.nil : Rd E w p [] := fun i x h => by simp at h
theorem Rd.none_ (h : Rd E w none l) : l = [] := by
  cases l with
  | nil => rfl
  | cons x l =>
    obtain ⟨b, o, hp, _⟩ := h 0 x (by simp)
    cases hp
theorem Rd.take (h : Rd E w p l) (m : Nat) : Rd E w p (l.take m) := fun i x hi => by
  rw [List.getElem?_take] at hi
  split at hi
  · exact h i x hi
  · cases hi
theorem Rd.src (h : Rd E w p l) : ∀ ad, p = some ad → ∀ j u, (flat E l)[j]? = some u → w.cell? (ad.add j) = some u := by
  rintro ad rfl j u hu
  have hj : j < l.length * E.sz := by
    have := (List.getElem?_eq_some_iff.1 hu).1
    rwa [flat_length] at this
  have hpos := E.pos
  have hi : j / E.sz < l.length := by rw [Nat.div_lt_iff_lt_mul hpos]; exact hj
  obtain ⟨b, o, hp, hb, hc⟩ := h (j / E.sz) _ (List.getElem?_eq_getElem hi)
  obtain rfl := Option.some.inj hp
  have h1 := hc (j % E.sz) (Nat.mod_lt _ hpos)
  have h2 := flat_get E (List.getElem?_eq_getElem hi) (j % E.sz) (Nat.mod_lt _ hpos)
  have e : j / E.sz * E.sz + j % E.sz = j := by rw [Nat.mul_comm]; exact Nat.div_add_mod j E.sz
  rw [e] at h2
  rw [Nat.add_assoc, e] at h1
  rw [Addr.add_lit, h1, ← h2, hu]
/-- What is owned is read. -/
theorem Rd.of_arr {e c n : Nat} (h : Arr w e E.sz p n c (flat E l)) : Rd E w p l := by
  intro i x hi
  have hlt : i < l.length := (List.getElem?_eq_some_iff.1 hi).1
  have hn : n * E.sz = l.length * E.sz := by rw [← flat_length E l]; exact (arr_len h).symm
  have hn2 : n = l.length := Nat.eq_of_mul_eq_mul_right E.pos hn
  subst hn2
  obtain ⟨a, rfl⟩ := arr_some h (by omega)
  refine ⟨a, 0, rfl, arr_lt h rfl, fun j hj => ?_⟩
  have hlt2 : i * E.sz + j < l.length * E.sz := by
    have : (i + 1) * E.sz ≤ l.length * E.sz := Nat.mul_le_mul_right _ hlt
    rw [Nat.succ_mul] at this
    omega
  rw [Nat.zero_add, arr_cell h _ hlt2, flat_get E hi j hj]
end

/-! ### the elements -/
structure Mrg where
  l : Int
  r : Int
  i : Int
  deriving DecidableEq, Inhabited
structure Spn where
  lo : Int
  hi : Int
  deriving DecidableEq, Inhabited
def eS : En ByteArray := ⟨1, fun s => [.string s], by decide, fun _ => rfl, by simp [Value.oneCell']⟩
def eI : En Int := ⟨1, fun x => [.int .i64 x], by decide, fun _ => rfl, by simp [Value.oneCell']⟩
def eM : En Mrg := ⟨3, fun x => [.int .i64 x.l, .int .i64 x.r, .int .i64 x.i], by decide, fun _ => rfl, by simp [Value.oneCell']⟩
def eP : En Spn := ⟨2, fun x => [.int .i32 x.lo, .int .i32 x.hi], by decide, fun _ => rfl, by simp [Value.oneCell']⟩
section
variable {w : World} {p : Option Addr}
theorem Rd.cellS {l : List ByteArray} (h : Rd eS w p l) {i : Nat} {x : ByteArray} (hi : l[i]? = some x) : ∃ b o, p = some ⟨b, o, none⟩ ∧ b < w.heap.size ∧ w.cell? ⟨b, o + i, none⟩ = some (.string x) := by
  obtain ⟨b, o, hp, hb, hc⟩ := h i x hi
  exact ⟨b, o, hp, hb, by simpa [eS] using hc 0 (by decide)⟩
theorem Rd.cellI {l : List Int} (h : Rd eI w p l) {i : Nat} {x : Int} (hi : l[i]? = some x) : ∃ b o, p = some ⟨b, o, none⟩ ∧ b < w.heap.size ∧ w.cell? ⟨b, o + i, none⟩ = some (.int .i64 x) := by
  obtain ⟨b, o, hp, hb, hc⟩ := h i x hi
  exact ⟨b, o, hp, hb, by simpa [eI] using hc 0 (by decide)⟩
theorem Rd.cellM {l : List Mrg} (h : Rd eM w p l) {i : Nat} {x : Mrg} (hi : l[i]? = some x) : ∃ b o, p = some ⟨b, o, none⟩ ∧ b < w.heap.size ∧
    w.cell? ⟨b, o + i * 3, none⟩ = some (.int .i64 x.l) ∧ w.cell? ⟨b, o + i * 3 + 1, none⟩ = some (.int .i64 x.r) ∧ w.cell? ⟨b, o + i * 3 + 2, none⟩ = some (.int .i64 x.i) := by
  obtain ⟨b, o, hp, hb, hc⟩ := h i x hi
  exact ⟨b, o, hp, hb, by simpa [eM] using hc 0 (by decide), by simpa [eM] using hc 1 (by decide), by simpa [eM] using hc 2 (by decide)⟩
theorem Rd.cellP {l : List Spn} (h : Rd eP w p l) {i : Nat} {x : Spn} (hi : l[i]? = some x) : ∃ b o, p = some ⟨b, o, none⟩ ∧ b < w.heap.size ∧
    w.cell? ⟨b, o + i * 2, none⟩ = some (.int .i32 x.lo) ∧ w.cell? ⟨b, o + i * 2 + 1, none⟩ = some (.int .i32 x.hi) := by
  obtain ⟨b, o, hp, hb, hc⟩ := h i x hi
  exact ⟨b, o, hp, hb, by simpa [eP] using hc 0 (by decide), by simpa [eP] using hc 1 (by decide)⟩
end

/-! ### a model's data -/
structure Dat where
  ws : List ByteArray
  ms : List Mrg
  ls : List Spn
  ns : List Spn
  ss : List Spn
/-- Where five lists lie. -/
structure Pl where
  p0 : Option Addr
  c0 : Nat
  p1 : Option Addr
  c1 : Nat
  p2 : Option Addr
  c2 : Nat
  p3 : Option Addr
  c3 : Nat
  p4 : Option Addr
  c4 : Nat
/-- An int of 64 bits. -/
def inI (n : Int) : Prop := -9223372036854775808 ≤ n ∧ n ≤ 9223372036854775807
/-- Data that are read. -/
structure DR (w : World) (L : Pl) (d : Dat) : Prop where
  r0 : Rd eS w L.p0 d.ws
  r1 : Rd eM w L.p1 d.ms
  r2 : Rd eP w L.p2 d.ls
  r3 : Rd eP w L.p3 d.ns
  r4 : Rd eP w L.p4 d.ss
  k0 : d.ws.length ≤ L.c0
  k1 : d.ms.length ≤ L.c1
  k2 : d.ls.length ≤ L.c2
  k3 : d.ns.length ≤ L.c3
  k4 : d.ss.length ≤ L.c4
  b0 : d.ws.length * 16 ≤ 140737488351232
  b1 : d.ms.length * 24 ≤ 140737488351232
  b2 : d.ls.length * 8 ≤ 140737488351232
  b3 : d.ns.length * 8 ≤ 140737488351232
  b4 : d.ss.length * 8 ≤ 140737488351232
  z0 : ∀ s ∈ d.ws, s.size ≤ 140737488351232
  f1 : ∀ x ∈ d.ms, inI x.l ∧ inI x.r ∧ inI x.i
theorem DR.on {w w' : World} {L : Pl} {d : Dat} (h : DR w L d) (hx : Ext (fun _ => False) w w') : DR w' L d :=
  { h with r0 := h.r0.on hx, r1 := h.r1.on hx, r2 := h.r2.on hx, r3 := h.r3.on hx, r4 := h.r4.on hx }
theorem infoS : (Tryz.prog.info? 9).map (fun i => (i.zero, i.size, i.bytes)) = some (some (.string ⟨#[]⟩), 1, 16) := by kernel_rfl
theorem infoI : (Tryz.prog.info? 3).map (fun i => (i.zero, i.size, i.bytes)) = some (some (.int .i64 0), 1, 8) := by kernel_rfl
theorem infoM : (Tryz.prog.info? 125).map (fun i => (i.zero, i.size, i.bytes)) = some (some (.agg #[.int .i64 0, .int .i64 0, .int .i64 0]), 3, 24) := by kernel_rfl
theorem infoP : (Tryz.prog.info? 127).map (fun i => (i.zero, i.size, i.bytes)) = some (some (.agg #[.int .i32 0, .int .i32 0]), 2, 8) := by kernel_rfl
theorem infoB : (Tryz.prog.info? 4).map (fun i => (i.zero, i.size, i.bytes)) = some (some (.bool false), 1, 1) := by kernel_rfl
end Go.Proofs.YtigpaaelggnffaaGreatDoor.Sl

/- slices.Clone at the lists of a model's data, and at ints: a copy in new memory. -/
namespace Go.Proofs.YtigpaaelggnffaaGreatDoor.Sl
open Go.RowKit Go.Proofs.YtigpaaelggnffaaGreatDoor.Lib
set_option linter.unusedVariables false
set_option linter.unusedSimpArgs false

/-- A copy: new memory, the same list. -/
def Cloned {α : Type} (E : En α) (t : Nat) (w : World) (p : Option Addr) (l : List α) (e : Ending) (w' : World) : Prop :=
  ∃ p1 c1, e = .returned (.slice p1 l.length c1) ∧ Arr w' t E.sz p1 l.length c1 (flat E l) ∧ Ext (fun _ => False) w w' ∧ ∀ k, blkOf p1 = some k → w.heap.size ≤ k
theorem Cloned.nil_ {α : Type} {E : En α} {t : Nat} {w : World} : Cloned E t w none [] (.returned (.slice none 0 0)) w :=
  ⟨none, 0, rfl, arr_nil _ _ _, Ext.refl _ _, fun k h => by cases h⟩
theorem Cloned.some_ {α : Type} {E : En α} {t e : Nat} {w w1 : World} {p1 : Option Addr} {c1 : Nat} {ad : Addr} {l : List α} (hA0 : Arr w1 t E.sz p1 (0 + l.length) c1 ([] ++ flat E l)) (hx : Ext (fun k => blkOf (some ⟨w.heap.size, 0, none⟩) = some k) (w.alloc (.cells #[] e)) w1) (hm : Moved (w.alloc (.cells #[] e)) (some ⟨w.heap.size, 0, none⟩) p1) :
    Cloned E t w (some ad) l (.returned (.slice p1 l.length c1)) w1 := by
  have hA : Arr w1 t E.sz p1 l.length c1 (flat E l) := by simpa using hA0
  refine ⟨p1, c1, rfl, hA, ((Ext.refl (fun _ => False) w).alloc _).trans hx (fun i hi h => by simp at h; omega), fun k hk => ?_⟩
  rcases hm k hk with h | h
  · simp at h; omega
  · simp at h; omega
theorem arr_empty (w : World) (t sz : Nat) : Arr (w.alloc (.cells #[] t)) t sz (some ⟨w.heap.size, 0, none⟩) 0 0 [] :=
  ⟨by simp, .inr ⟨w.heap.size, 0, #[], rfl, Nat.zero_le _, heap_alloc_new w _, by omega, by simp [maxLen], by simp, by simp⟩⟩

set_option maxHeartbeats 400000 in
theorem cloneS (w : World) (p : Option Addr) (c : Nat) (l : List ByteArray) (h : Rd eS w p l) (hb : l.length * 16 ≤ 140737488351232) :
    Calls Tryz.prog 85 #[.slice p l.length c] w fun e w' => Cloned eS 9 w p l e w' := by
  have hnil := fun W : World => Lib.run_eql_slice_nil (P := Tryz.prog) W 22 9 p l.length c 0 0 Tryz.underlying22
  have H := Lib.hid h
  cases p with
  | none =>
    have hl : l = [] := H.out.none_
    clear h H hb
    subst hl
    simp only [List.length_nil] at hnil ⊢
    go_enter Tryz.func85, Tryz.ntmps85
    go_wp2_with fail
    go_ret
    exact Cloned.nil_
  | some ad =>
    clear h
    go_enter Tryz.func85, Tryz.ntmps85
    go_wp2_with ((refine arr_append rfl (.tmp 5) (.tmp 6) 22 9 1 16 (.string ⟨#[]⟩) rfl Tryz.underlying22 infoS rfl (by decide) (by decide) (some ⟨w.heap.size, 0, none⟩) 0 0 [] rfl (some ad) l.length c rfl (flat eS l) (flat_length eS l) (H.out.on ((Ext.refl _ w).alloc _)).src (fun h => by cases h) (flat_cells eS l) (arr_empty w 9 1) (by omega) ?_); intro p1 c1 w1 hA hx hm)
    exact bodyPost_ret (v := .slice p1 l.length c1) (by simp [results, Tryz.f85, go_sem]) rfl (Cloned.some_ hA hx hm)


set_option maxHeartbeats 400000 in
theorem cloneM (w : World) (p : Option Addr) (c : Nat) (l : List Mrg) (h : Rd eM w p l) (hb : l.length * 24 ≤ 140737488351232) :
    Calls Tryz.prog 86 #[.slice p l.length c] w fun e w' => Cloned eM 125 w p l e w' := by
  have hnil := fun W : World => Lib.run_eql_slice_nil (P := Tryz.prog) W 23 125 p l.length c 0 0 Tryz.underlying23
  have H := Lib.hid h
  cases p with
  | none =>
    have hl : l = [] := H.out.none_
    clear h H hb
    subst hl
    simp only [List.length_nil] at hnil ⊢
    go_enter Tryz.func86, Tryz.ntmps86
    go_wp2_with fail
    go_ret
    exact Cloned.nil_
  | some ad =>
    clear h
    go_enter Tryz.func86, Tryz.ntmps86
    go_wp2_with ((refine arr_append rfl (.tmp 5) (.tmp 6) 23 125 3 24 (.agg #[.int .i64 0, .int .i64 0, .int .i64 0]) rfl Tryz.underlying23 infoM rfl (by decide) (by decide) (some ⟨w.heap.size, 0, none⟩) 0 0 [] rfl (some ad) l.length c rfl (flat eM l) (flat_length eM l) (H.out.on ((Ext.refl _ w).alloc _)).src (fun h => by cases h) (flat_cells eM l) (arr_empty w 125 3) (by omega) ?_); intro p1 c1 w1 hA hx hm)
    exact bodyPost_ret (v := .slice p1 l.length c1) (by simp [results, Tryz.f86, go_sem]) rfl (Cloned.some_ hA hx hm)


set_option maxHeartbeats 400000 in
theorem cloneP (w : World) (p : Option Addr) (c : Nat) (l : List Spn) (h : Rd eP w p l) (hb : l.length * 8 ≤ 140737488351232) :
    Calls Tryz.prog 81 #[.slice p l.length c] w fun e w' => Cloned eP 127 w p l e w' := by
  have hnil := fun W : World => Lib.run_eql_slice_nil (P := Tryz.prog) W 24 127 p l.length c 0 0 Tryz.underlying24
  have H := Lib.hid h
  cases p with
  | none =>
    have hl : l = [] := H.out.none_
    clear h H hb
    subst hl
    simp only [List.length_nil] at hnil ⊢
    go_enter Tryz.func81, Tryz.ntmps81
    go_wp2_with fail
    go_ret
    exact Cloned.nil_
  | some ad =>
    clear h
    go_enter Tryz.func81, Tryz.ntmps81
    go_wp2_with ((refine arr_append rfl (.tmp 5) (.tmp 6) 24 127 2 8 (.agg #[.int .i32 0, .int .i32 0]) rfl Tryz.underlying24 infoP rfl (by decide) (by decide) (some ⟨w.heap.size, 0, none⟩) 0 0 [] rfl (some ad) l.length c rfl (flat eP l) (flat_length eP l) (H.out.on ((Ext.refl _ w).alloc _)).src (fun h => by cases h) (flat_cells eP l) (arr_empty w 127 2) (by omega) ?_); intro p1 c1 w1 hA hx hm)
    exact bodyPost_ret (v := .slice p1 l.length c1) (by simp [results, Tryz.f81, go_sem]) rfl (Cloned.some_ hA hx hm)

end Go.Proofs.YtigpaaelggnffaaGreatDoor.Sl

/- Spans, pure: right lists, what lies in them, where two meet, what is wrong with three. -/
namespace Go.Proofs.YtigpaaelggnffaaGreatDoor.Sl
set_option linter.unusedVariables false
set_option linter.unusedSimpArgs false

def valid (r : Int) : Bool := decide (0 ≤ r) && decide (r ≤ 1114111) && (decide (r < 55296) || decide (57343 < r))
theorem valid_iff {r : Int} : valid r = true ↔ 0 ≤ r ∧ r ≤ 1114111 ∧ (r < 55296 ∨ 57343 < r) := by
  simp [valid, and_assoc]
/-- What is wrong with a span behind another. -/
def bad1 (prev : Option Int) (x : Spn) : Int :=
  if valid x.lo && valid x.hi then (if x.hi < x.lo then 15 else match prev with
    | some h => if x.lo ≤ h then 15 else 0
    | none => 0) else 14
def rightGo : Nat → Option Int → List Spn → Int × Int
  | _, _, [] => (0, 0)
  | i, prev, x :: t => if bad1 prev x = 0 then rightGo (i + 1) (some x.hi) t else ((i : Int), bad1 prev x)
def right (l : List Spn) : Int × Int := rightGo 0 none l
/-- The lists that are right. -/
def Ok (l : List Spn) : Prop := (∀ x ∈ l, valid x.lo = true ∧ valid x.hi = true ∧ x.lo ≤ x.hi) ∧ l.Pairwise (fun x y => x.hi < y.lo)
theorem rightGo_ok {i : Nat} {prev : Option Int} {l : List Spn} (h : (rightGo i prev l).2 = 0) : Ok l ∧ ∀ p, prev = some p → ∀ x ∈ l, p < x.lo := by
  induction l generalizing i prev with
  | nil => exact ⟨⟨by simp, by simp⟩, by simp⟩
  | cons x t ih =>
    unfold rightGo at h
    by_cases hb : bad1 prev x = 0
    · rw [if_pos hb] at h
      obtain ⟨⟨h1, h2⟩, h3⟩ := ih h
      have h3 := h3 _ rfl
      unfold bad1 at hb
      by_cases hv : (valid x.lo && valid x.hi) = true
      · rw [if_pos hv] at hb
        have hv' := Bool.and_eq_true_iff.1 hv
        by_cases hh : x.hi < x.lo
        · rw [if_pos hh] at hb; omega
        · rw [if_neg hh] at hb
          have hp : ∀ p, prev = some p → p < x.lo := by
            rintro p rfl
            by_cases hq : x.lo ≤ p
            · simp [hq] at hb
            · omega
          refine ⟨⟨fun y hy => ?_, List.pairwise_cons.2 ⟨fun y hy => h3 y hy, h2⟩⟩, fun p hp' y hy => ?_⟩
          · rcases List.mem_cons.1 hy with rfl | hy
            · exact ⟨hv'.1, hv'.2, by omega⟩
            · exact h1 y hy
          · have := hp p hp'
            rcases List.mem_cons.1 hy with rfl | hy
            · exact this
            · have := h3 y hy; omega
      · rw [if_neg hv] at hb; omega
    · rw [if_neg hb] at h
      exact absurd h hb
theorem right_ok {l : List Spn} (h : (right l).2 = 0) : Ok l := (rightGo_ok h).1
theorem bad1_cases (prev : Option Int) (x : Spn) : bad1 prev x = 0 ∨ bad1 prev x = 14 ∨ bad1 prev x = 15 := by
  unfold bad1
  split
  · split
    · exact .inr (.inr rfl)
    · split
      · split
        · exact .inr (.inr rfl)
        · exact .inl rfl
      · exact .inl rfl
  · exact .inr (.inl rfl)
theorem rightGo_row {i : Nat} {prev : Option Int} {l : List Spn} (h : (rightGo i prev l).2 = 0) : rightGo i prev l = (0, 0) := by
  induction l generalizing i prev with
  | nil => rfl
  | cons x t ih =>
    unfold rightGo at h ⊢
    by_cases hb : bad1 prev x = 0
    · rw [if_pos hb] at h ⊢; exact ih h
    · rw [if_neg hb] at h; exact absurd h hb
theorem rightGo_why {i : Nat} {prev : Option Int} {l : List Spn} : (rightGo i prev l).2 = 0 ∨ (rightGo i prev l).2 = 14 ∨ (rightGo i prev l).2 = 15 := by
  induction l generalizing i prev with
  | nil => exact .inl rfl
  | cons x t ih =>
    unfold rightGo
    by_cases hb : bad1 prev x = 0
    · rw [if_pos hb]; exact ih
    · rw [if_neg hb]; exact bad1_cases prev x

def inn (l : List Spn) (r : Int) : Bool := valid r && l.any fun x => decide (x.lo ≤ r) && decide (r ≤ x.hi)
def touch (x y : Spn) : Bool := decide (x.lo ≤ y.hi) && decide (y.lo ≤ x.hi)
def firstGo (f : Spn → Bool) : Nat → List Spn → Int × Bool
  | _, [] => (0, false)
  | i, x :: t => if f x then ((i : Int), true) else firstGo f (i + 1) t
def meet (a b : List Spn) : Int × Bool := firstGo (fun x => b.any (touch x)) 0 a
/-- The first span that doesn't lie below r. -/
def find (l : List Spn) (r : Int) : Nat := l.findIdx fun x => decide (r ≤ x.hi)
theorem find_le (l : List Spn) (r : Int) : find l r ≤ l.length := List.findIdx_le_length
theorem find_lt {l : List Spn} {r : Int} {i : Nat} {x : Spn} (hi : i < find l r) (hx : l[i]? = some x) : x.hi < r := by
  have := List.not_of_lt_findIdx (p := fun x : Spn => decide (r ≤ x.hi)) (xs := l) hi
  obtain ⟨hl, rfl⟩ := List.getElem?_eq_some_iff.1 hx
  simpa using this
theorem find_at {l : List Spn} {r : Int} {x : Spn} (hx : l[find l r]? = some x) : r ≤ x.hi := by
  obtain ⟨hl, rfl⟩ := List.getElem?_eq_some_iff.1 hx
  have := List.findIdx_getElem (p := fun x : Spn => decide (r ≤ x.hi)) (xs := l) (w := hl)
  exact of_decide_eq_true this
theorem ok_mono {l : List Spn} (h : Ok l) {i j : Nat} {x y : Spn} (hij : i ≤ j) (hx : l[i]? = some x) (hy : l[j]? = some y) : x.hi ≤ y.hi ∧ x.lo ≤ y.lo ∧ (i < j → x.hi < y.lo) := by
  obtain ⟨hi, rfl⟩ := List.getElem?_eq_some_iff.1 hx
  obtain ⟨hj, rfl⟩ := List.getElem?_eq_some_iff.1 hy
  have ox := h.1 _ (List.getElem_mem hi)
  have oy := h.1 _ (List.getElem_mem hj)
  rcases Nat.eq_or_lt_of_le hij with rfl | hlt
  · exact ⟨by omega, by omega, fun h => by omega⟩
  · have := List.pairwise_iff_getElem.1 h.2 i j hi hj hlt
    exact ⟨by omega, by omega, fun _ => this⟩
/-- In a right list a span touches x, just where the first that doesn't lie below x does. -/
theorem touch_find {l : List Spn} (h : Ok l) (x : Spn) : l.any (touch x) = match l[find l x.lo]? with
    | some y => decide (y.lo ≤ x.hi)
    | none => false := by
  cases e : l[find l x.lo]? with
  | some y =>
    have h1 := find_at e
    by_cases hy : y.lo ≤ x.hi
    · simp only [hy, decide_true]
      rw [List.any_eq_true]
      exact ⟨y, List.mem_of_getElem? e, by simp [touch, h1, hy]⟩
    · simp only [hy, decide_false]
      rw [List.any_eq_false]
      intro z hz
      obtain ⟨i, hi, rfl⟩ := List.getElem_of_mem hz
      have ez := List.getElem?_eq_getElem hi
      by_cases hlt : i < find l x.lo
      · have := find_lt hlt ez
        simp [touch]; omega
      · have := (ok_mono h (by omega) e ez).2.1
        simp [touch]; omega
  | none =>
    rw [List.any_eq_false]
    intro z hz
    obtain ⟨i, hi, rfl⟩ := List.getElem_of_mem hz
    have := List.getElem?_eq_none_iff.1 e
    have := find_lt (l := l) (r := x.lo) (i := i) (by omega) (List.getElem?_eq_getElem hi)
    simp [touch]; omega
theorem inn_find {l : List Spn} (h : Ok l) (r : Int) : inn l r = (valid r && match l[find l r]? with
    | some y => decide (y.lo ≤ r)
    | none => false) := by
  have := touch_find h ⟨r, r⟩
  simp only [touch] at this
  unfold inn
  rw [← this]
  congr 1
  congr 1
  funext x
  exact Bool.and_comm _ _
theorem firstGo_none {f : Spn → Bool} {i : Nat} {l : List Spn} (h : ∀ x ∈ l, f x = false) : firstGo f i l = (0, false) := by
  induction l generalizing i with
  | nil => rfl
  | cons x t ih => unfold firstGo; rw [if_neg (by simp [h x (by simp)])]; exact ih (fun y hy => h y (by simp [hy]))
theorem firstGo_at {f : Spn → Bool} {i k : Nat} {l : List Spn} {x : Spn} (hk : l[k]? = some x) (hx : f x = true) (h : ∀ j y, j < k → l[j]? = some y → f y = false) : firstGo f i l = (((i + k : Nat) : Int), true) := by
  induction l generalizing i k with
  | nil => simp at hk
  | cons y t ih =>
    unfold firstGo
    cases k with
    | zero =>
      simp at hk
      subst hk
      rw [if_pos hx]; rfl
    | succ k =>
      rw [if_neg (by simp [h 0 y (by omega) (by simp)])]
      rw [ih (by simpa using hk) (fun j z hj hz => h (j + 1) z (by omega) (by simpa using hz))]
      rw [show i + 1 + k = i + (k + 1) by omega]
theorem firstGo_cases (f : Spn → Bool) (i : Nat) (l : List Spn) : firstGo f i l = (0, false) ∨ ∃ k, k < l.length ∧ firstGo f i l = (((i + k : Nat) : Int), true) := by
  induction l generalizing i with
  | nil => exact .inl rfl
  | cons x t ih =>
    unfold firstGo
    split
    · exact .inr ⟨0, by simp, rfl⟩
    · rcases ih (i + 1) with h | ⟨k, hk, h⟩
      · exact .inl h
      · exact .inr ⟨k + 1, by simpa using hk, by rw [h, show i + 1 + k = i + (k + 1) by omega]⟩

/-- What is wrong with three lists: why, list, row. -/
def check4 (ls ns ss : List Spn) : Int × Int × Int :=
  if 512 < ls.length then (4, 1, 512) else if 512 < ns.length then (4, 2, 512) else if 512 < ss.length then (4, 3, 512)
  else if (right ls).2 ≠ 0 then ((right ls).2, 1, (right ls).1) else if (right ns).2 ≠ 0 then ((right ns).2, 2, (right ns).1) else if (right ss).2 ≠ 0 then ((right ss).2, 3, (right ss).1)
  else if (meet ns ls).2 = true then (16, 2, (meet ns ls).1)
  else if (meet ss ls).2 = true then (if (meet ss ns).2 = true then (16, 3, min (meet ss ls).1 (meet ss ns).1) else (16, 3, (meet ss ls).1))
  else if (meet ss ns).2 = true then (16, 3, (meet ss ns).1)
  else if inn ss 32 = false ∨ inn ls 39 = true ∨ inn ns 39 = true ∨ inn ss 39 = true then (20, 3, 0) else (0, 0, 0)
end Go.Proofs.YtigpaaelggnffaaGreatDoor.Sl
