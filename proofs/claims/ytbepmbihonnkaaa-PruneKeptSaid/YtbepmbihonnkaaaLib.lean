/- Small words on worlds and rows: what a call may have written (Ext), a slice of the call's own (Arr). -/
import Derived.WalkKit
import Derived.Lib.Hide
import Derived.Deep.QuietTactic
import Derived.BigQuiet
import Derived.BigRegion
import Derived.WideLaws
import Derived.OneCell
import Derived.Maps.AppendAt
import Derived.Deep.AppendLies
import Derived.Deep.RegionLaw
import Derived.Laws.CopyRow
import Derived.OwnWalk
namespace Go.Proofs.Ytbepmbihonnkaaa.Lib
open Go.RowKit
set_option linter.unusedVariables false
set_option linter.unusedSimpArgs false

/-- w' is w with new blocks, and with writes to blocks of S alone. -/
structure Ext (S : Nat → Prop) (w w' : World) : Prop where
  os : w'.os = w.os
  tape : w'.tape = w.tape
  output : w'.output = w.output
  size : w.heap.size ≤ w'.heap.size
  block : ∀ k, k < w.heap.size → ¬ S k → w'.heap[k]? = w.heap[k]?

section
variable {S S' T : Nat → Prop} {w w' w1 w2 w3 : World}

theorem Ext.refl (S : Nat → Prop) (w : World) : Ext S w w := ⟨rfl, rfl, rfl, Nat.le_refl _, fun _ _ _ => rfl⟩
theorem Ext.mono (h : Ext S w w') (hs : ∀ k, S k → S' k) : Ext S' w w' := ⟨h.os, h.tape, h.output, h.size, fun k hk hn => h.block k hk (fun x => hn (hs k x))⟩
theorem Ext.mono_old (h : Ext S w w') (hs : ∀ k, k < w.heap.size → S k → S' k) : Ext S' w w' := ⟨h.os, h.tape, h.output, h.size, fun k hk hn => h.block k hk (fun x => hn (hs k hk x))⟩
/-- Two steps: what the second wrote is of S, or new since the first began. -/
theorem Ext.trans (h : Ext S w1 w2) (k : Ext T w2 w3) (hs : ∀ i, i < w1.heap.size → T i → S i) : Ext S w1 w3 :=
  ⟨k.os.trans h.os, k.tape.trans h.tape, k.output.trans h.output, Nat.le_trans h.size k.size,
   fun i hi hn => (k.block i (Nat.lt_of_lt_of_le hi h.size) (fun x => hn (hs i hi x))).trans (h.block i hi hn)⟩
theorem Ext.before (k : Ext (fun _ => False) w2 w3) (h : Ext (fun _ => False) w1 w2) : Ext (fun _ => False) w1 w3 := h.trans k (fun _ _ h => h)
theorem Ext.before2 {C : Prop} (k : Ext (fun _ => False) w2 w3) (h : C ∧ Ext (fun _ => False) w1 w2) : Ext (fun _ => False) w1 w3 := h.2.trans k (fun _ _ h => h)
theorem Ext.drew (h : Ext S w w') : Ext S w w'.drew := ⟨h.os, h.tape, h.output, h.size, h.block⟩
theorem Ext.drewN (h : Ext S w w') (n : Nat) : Ext S w (w'.drewN n) := ⟨h.os, h.tape, h.output, h.size, h.block⟩
theorem Ext.undrew (h : Ext S w.drew w') : Ext S w w' := ⟨h.os, h.tape, h.output, h.size, h.block⟩
theorem Ext.undrewN {n : Nat} (h : Ext S (w.drewN n) w') : Ext S w w' := ⟨h.os, h.tape, h.output, h.size, h.block⟩
theorem Ext.of_below (h : Below w.heap.size w w') : Ext S w w' := ⟨h.os, h.tape, h.output, h.size, fun k hk _ => h.block k hk⟩
theorem Ext.of_grown {row : Option Nat} (h : w.grownBy w' row) (hr : ∀ k, row = some k → k < w.heap.size → S k) : Ext S w w' :=
  ⟨h.os, h.tape, h.output, h.size, fun k hk hn => h.block k hk (fun e => hn (hr k e.symm hk))⟩
theorem Ext.alloc (h : Ext S w w') (o : Obj) : Ext S w (w'.alloc o) :=
  h.trans (T := fun _ => False) ⟨rfl, rfl, rfl, by simp, fun k hk _ => Below.heap_alloc _ _ _ hk⟩ (fun _ _ x => x.elim)
theorem Ext.setCell (h : Ext S w w') {p : Addr} (hp : p.block < w.heap.size → S p.block) (u : Value) : Ext S w (w'.setCell p u) :=
  h.trans (T := fun k => k = p.block) ⟨rfl, rfl, rfl, by simp [World.setCell], fun k _ hn => Below.heap_setCell _ _ _ _ hn⟩ (fun i hi e => by subst e; exact hp hi)
theorem Ext.grown {row : Option Nat} (h : Ext S w w') (hg : w'.grownBy w2 row) (hr : ∀ k, row = some k → k < w.heap.size → S k) : Ext S w w2 :=
  h.trans (T := fun k => row = some k) ⟨hg.os, hg.tape, hg.output, hg.size, fun k hk hn => hg.block k hk (fun e => hn e.symm)⟩ (fun i hi e => hr i e hi)
theorem Ext.below (h : Ext (fun _ => False) w w') : Below w.heap.size w w' := ⟨h.os, h.tape, h.output, h.size, fun k hk => h.block k hk (fun x => x)⟩
theorem Ext.cell (h : Ext S w w') {p : Addr} (hp : p.block < w.heap.size) (hn : ¬ S p.block) : w'.cell? p = w.cell? p := World.cell?_of_block (h.block _ hp hn)
theorem Ext.frozen (h : Ext S w w') {p : Addr} (hp : p.block < w.heap.size) (hn : ¬ S p.block) : w'.frozen? p = w.frozen? p := World.frozen?_of_block (h.block _ hp hn)
theorem Ext.obj (h : Ext S w w') {k : Nat} {o : Obj} (hb : w.heap[k]? = some o) (hn : ¬ S k) : w'.heap[k]? = some o :=
  (h.block k (Array.getElem?_eq_some_iff.1 hb).1 hn).trans hb
end

theorem blk_lt {w : World} {k : Nat} {o : Obj} (h : w.heap[k]? = some o) : k < w.heap.size := (Array.getElem?_eq_some_iff.1 h).1
theorem blk_cell {w : World} {k : Nat} {cs : Array Value} {e : TypeId} {fr : Nat × Nat} (h : w.heap[k]? = some (.cells cs e fr)) (i : Nat) : w.cell? ⟨k, i, none⟩ = cs[i]? := by simp [World.cell?, h]
theorem blk_frozen {w : World} {k : Nat} {cs : Array Value} {e : TypeId} (h : w.heap[k]? = some (.cells cs e (0, 0))) (i : Nat) : w.frozen? ⟨k, i, none⟩ = false := by simp [World.frozen?, h]
theorem blk_set {w : World} {k : Nat} {cs : Array Value} {e : TypeId} {fr : Nat × Nat} (h : w.heap[k]? = some (.cells cs e fr)) (i : Nat) (u : Value) :
    (w.setCell ⟨k, i, none⟩ u).heap[k]? = some (.cells (cs.setIfInBounds i u) e fr) := by
  simp [World.setCell, Array.getElem?_modify, h]
theorem blk_far {w : World} {k : Nat} {o : Obj} (h : w.heap[k]? = some o) {p : Addr} (hne : k ≠ p.block) (u : Value) : (w.setCell p u).heap[k]? = some o := (Below.heap_setCell w p u k hne).trans h
theorem blk_alloc {w : World} {k : Nat} {o : Obj} (h : w.heap[k]? = some o) (x : Obj) : (w.alloc x).heap[k]? = some o := (Below.heap_alloc w x k (blk_lt h)).trans h


theorem ret_int {k : IntKind} {a b : Int} (h : a = b) : Ending.returned (.int k a) = .returned (.int k b) := by rw [h]
theorem ret_bool {a b : Bool} (h : a = b) : Ending.returned (.bool a) = .returned (.bool b) := by rw [h]

/-! ### min, max of ints: by a name that the walk does not open -/
def mx (x y : Int) : Int := if x < y then y else x
def mn (x y : Int) : Int := if y < x then y else x
theorem mx_eq (x y : Int) : mx x y = max x y := by unfold mx; split <;> omega
theorem mn_eq (x y : Int) : mn x y = min x y := by unfold mn; split <;> omega
@[go_sem] theorem max2_int (k k' : IntKind) (x y : Int) : Builtin.max2 (.int k x) (.int k' y) = pure (.int k (mx x y)) := by simp only [Builtin.max2, gt_iff_lt, mx]
@[go_sem] theorem min2_int (k k' : IntKind) (x y : Int) : Builtin.min2 (.int k x) (.int k' y) = pure (.int k (mn x y)) := by simp only [Builtin.min2, mn]
@[go_sem] theorem max_two (ats : Array TypeId) (ty : TypeId) (a b : Value) : Builtin.max_ ats ty #[a, b] = (Builtin.max2 a b >>= fun s => pure s) := by simp only [Builtin.max_, List.foldlM_cons, List.foldlM_nil]
@[go_sem] theorem min_two (ats : Array TypeId) (ty : TypeId) (a b : Value) : Builtin.min_ ats ty #[a, b] = (Builtin.min2 a b >>= fun s => pure s) := by simp only [Builtin.min_, List.foldlM_cons, List.foldlM_nil]

/-- The block of a slice's row. -/
def blkOf : Option Addr → Option Nat
  | some a => some a.block
  | none => none
@[simp] theorem blkOf_some (a : Addr) : blkOf (some a) = some a.block := rfl
@[simp] theorem blkOf_none : blkOf none = none := rfl

/-- A slice that is read: element i's cells are R i; its row lies in a block that is there. -/
def Reads (w : World) (sz : Nat) (p : Option Addr) (n : Nat) (R : Nat → List Value) : Prop :=
  ∀ i, i < n → ∃ b o, p = some ⟨b, o, none⟩ ∧ b < w.heap.size ∧ ∀ j, j < sz → w.cell? ⟨b, o + i * sz + j, none⟩ = (R i)[j]?
theorem Reads.ext {w w' : World} {sz n : Nat} {p : Option Addr} {R : Nat → List Value} {S : Nat → Prop} (h : Reads w sz p n R) (hx : Ext S w w') (hn : ∀ k, blkOf p = some k → k < w.heap.size → ¬ S k) : Reads w' sz p n R := by
  intro i hi
  obtain ⟨b, o, hp, hb, hc⟩ := h i hi
  have hnb : ¬ S b := hn b (by rw [hp]; rfl) hb
  exact ⟨b, o, hp, Nat.lt_of_lt_of_le hb hx.size, fun j hj => (hx.cell (p := ⟨b, o + i * sz + j, none⟩) hb hnb).trans (hc j hj)⟩
theorem Reads.less {w : World} {sz n m : Nat} {p : Option Addr} {R : Nat → List Value} (h : Reads w sz p n R) (hm : m ≤ n) : Reads w sz p m R := fun i hi => h i (by omega)
theorem Reads.drew {w : World} {sz n : Nat} {p : Option Addr} {R : Nat → List Value} (h : Reads w sz p n R) : Reads w.drew sz p n R := h

/-- A slice of the call's own (address p, length n, capacity c): elements of type e, sz cells each; its cells are cs. -/
def Arr (w : World) (e sz : Nat) (p : Option Addr) (n c : Nat) (cs : List Value) : Prop := w.ownsRow 0 e sz (.slice p n c) n cs
/-- Where p1 lies: in p's row, or in a block that is new since W. -/
def Moved (W : World) (p p1 : Option Addr) : Prop := ∀ k, blkOf p1 = some k → blkOf p = some k ∨ W.heap.size ≤ k
theorem Moved.refl (W : World) (p : Option Addr) : Moved W p p := fun _ h => .inl h
theorem Moved.trans {W W1 : World} {p p1 p2 : Option Addr} (h : Moved W p p1) (k : Moved W1 p1 p2) (hs : W.heap.size ≤ W1.heap.size) : Moved W p p2 := fun i hi =>
  (k i hi).elim (fun x => h i x) (fun x => .inr (by omega))
theorem arr_nil (w : World) (e sz : Nat) : Arr w e sz none 0 0 [] := World.ownsRow_nil w 0 e sz

section
variable {w w' : World} {e sz n c : Nat} {p : Option Addr} {cs : List Value}
theorem arr_lt (h : Arr w e sz p n c cs) {k : Nat} (hk : blkOf p = some k) : k < w.heap.size := (World.ownsRow.lt h k (by cases p with | none => cases hk | some a => exact hk)).2
theorem arr_ext {S : Nat → Prop} (h : Arr w e sz p n c cs) (hx : Ext S w w') (hn : ∀ k, blkOf p = some k → ¬ S k) : Arr w' e sz p n c cs := by
  refine ⟨h.1, ?_⟩
  rcases h.2 with hn' | ⟨g, cap, cur, hv, hb, hgg, rest⟩
  · exact .inl hn'
  · injection hv with hv1 hv2 hv3
    subst hv1
    exact .inr ⟨g, cap, cur, by rw [hv3], hb, hx.obj hgg (hn g rfl), rest⟩
theorem arr_len (h : Arr w e sz p n c cs) : cs.length = n * sz := h.1
theorem arr_cap (h : Arr w e sz p n c cs) : n ≤ c ∧ c ≤ maxLen := by
  rcases h.2 with ⟨hv, h0⟩ | ⟨g, cap, cur, hv, _, _, h1, h2, _⟩
  · injection hv with _ h1 h2
    omega
  · injection hv with _ _ h3
    omega
theorem arr_some (h : Arr w e sz p n c cs) (hp : 0 < n) : ∃ a, p = some ⟨a, 0, none⟩ := by
  rcases h.2 with ⟨hv, h0⟩ | ⟨g, cap, cur, hv, _⟩
  · omega
  · injection hv with hv
    exact ⟨g, hv⟩
theorem arr_none (h : Arr w e sz none n c cs) : n = 0 ∧ c = 0 ∧ cs = [] := by
  rcases h.2 with ⟨hv, h0⟩ | ⟨g, cap, cur, hv, _⟩
  · injection hv with _ h1 h2
    refine ⟨h1, h2, List.eq_nil_of_length_eq_zero ?_⟩
    have := h.1
    rw [h1] at this
    simpa using this
  · cases hv
theorem arr_cases (h : Arr w e sz p n c cs) : (p = none ∧ n = 0 ∧ c = 0 ∧ cs = []) ∨ ∃ a, p = some ⟨a, 0, none⟩ := by
  cases p with
  | none => exact .inl ⟨rfl, arr_none h⟩
  | some x =>
    rcases h.2 with ⟨hv, h0⟩ | ⟨g, cap, cur, hv, _⟩
    · cases hv
    · injection hv with hv
      exact .inr ⟨g, hv⟩
theorem arr_cell {a : Nat} (h : Arr w e sz (some ⟨a, 0, none⟩) n c cs) (j : Nat) (hj : j < n * sz) : w.cell? ⟨a, j, none⟩ = cs[j]? := World.ownsRow.cellAt h j hj
theorem arr_frozen {a : Nat} (h : Arr w e sz (some ⟨a, 0, none⟩) n c cs) (j : Nat) : w.frozen? ⟨a, j, none⟩ = false := World.ownsRow.frozenAt h j
theorem arr_set {a : Nat} (h : Arr w e sz (some ⟨a, 0, none⟩) n c cs) (j : Nat) (u : Value) : Arr (w.setCell ⟨a, j, none⟩ u) e sz (some ⟨a, 0, none⟩) n c (cs.set j u) := (World.ownsRow.stored h j u).1
theorem arr_take (h : Arr w e sz p n c cs) {m : Nat} (hm : m ≤ n) : Arr w e sz p m c (cs.take (m * sz)) := by
  have hl := h.1
  refine ⟨by rw [List.length_take, hl]; exact Nat.min_eq_left (Nat.mul_le_mul_right _ hm), ?_⟩
  rcases h.2 with ⟨hv, h0⟩ | ⟨g, cap, cur, hv, hb, hgg, h1, h2, h3, h4⟩
  · injection hv with hv1 hv2 hv3
    subst hv1
    exact .inl ⟨by rw [show m = 0 by omega, hv3], by omega⟩
  · injection hv with hv1 hv2 hv3
    subst hv1
    refine .inr ⟨g, cap, cur, by rw [hv3], hb, hgg, by omega, h2, h3, ?_⟩
    rw [← h4, List.take_take, Nat.min_eq_left (Nat.mul_le_mul_right _ hm)]
theorem arr_far (h : Arr w e sz p n c cs) {q : Addr} (hq : blkOf p ≠ some q.block) (u : Value) : Arr (w.setCell q u) e sz p n c cs :=
  arr_ext h ((Ext.refl (fun k => k = q.block) w).setCell (fun _ => rfl) u) (fun k hk e => hq (e ▸ hk))
end

/-- What is owned is read. -/
theorem arr_reads {w : World} {e sz n c : Nat} {p : Option Addr} {cs : List Value} (h : Arr w e sz p n c cs) (hsz : 0 < sz) : Reads w sz p n (fun i => (cs.drop (i * sz)).take sz) := by
  intro i hi
  obtain ⟨a, rfl⟩ := arr_some h (by omega)
  refine ⟨a, 0, rfl, arr_lt h rfl, fun j hj => ?_⟩
  have hlt : i * sz + j < n * sz := by
    have : (i + 1) * sz ≤ n * sz := Nat.mul_le_mul_right _ hi
    rw [Nat.succ_mul] at this
    omega
  rw [Nat.zero_add, arr_cell h _ hlt, List.getElem?_take, if_pos hj, List.getElem?_drop]

section
variable {P : Program} {ops : Array Oper} {rest : List Oper} {o : Oper} {a : Act} {Q : Exit → Act → World → Prop}
/-- append(v, x), x of the cells ys. -/
theorem arr_append1 {W : World} (hgd : o.guard = none) (s x : Operand) (t e sz bytes : Nat) (z : Value)
    (ho : o.op = .call { callee := .builtin .append, args := #[s, x], argTypes := #[t, t] })
    (ht : P.underlying t = some (.slice e)) (hinfo : (P.info? e).map (fun i => (i.zero, i.size, i.bytes)) = some (some z, sz, bytes)) (hz : z.cells.size = sz) (hsz : 0 < sz) (hb0 : 0 < bytes)
    (p : Option Addr) (n c : Nat) (cs ys : List Value) (hs : a.eval s = .slice p n c) (N : Nat) (hx : a.eval x = .slice (some ⟨N, 0, none⟩) 1 1) (hN : N = W.heap.size) (hys : ys.length = sz) (h1 : ∀ u ∈ ys, u.oneCell' = true)
    (HO : Arr W e sz p n c cs) (hl : (n + 1) * bytes ≤ 140737488355328)
    (h : ∀ p1 c1 w1, Arr w1 e sz p1 (n + 1) c1 (cs ++ ys) → Ext (fun k => blkOf p = some k) W w1 → Moved W p p1 → wpList P ops Q rest (a.put o.dst (.slice p1 (n + 1) c1)) w1) :
    wpList P ops Q (o :: rest) a (W.alloc (.cells ys.toArray e)) := by
  subst hN
  obtain ⟨i0, hi, hzz⟩ := Option.map_eq_some_iff.1 hinfo
  simp only [Prod.mk.injEq] at hzz
  obtain ⟨hz0, hz1, hz2⟩ := hzz
  have hlen : n + 1 ≤ 140737488355328 := Nat.le_trans (Nat.le_mul_of_pos_right _ hb0) hl
  have hbo : (Value.slice p n c).ownBlock = blkOf p := by cases p <;> rfl
  refine wpList_append_own_at (W.alloc (.cells ys.toArray e)) hgd s x t ho 0 e i0 z sz bytes ht hi hz0 hz1 hz2 hz hsz (.slice p n c) n cs hs (World.ownsRow.alloc HO _) ⟨W.heap.size, 0, none⟩ 1 1 ys hx (by omega)
    (World.news_of_block (cs := ys.toArray) (t := e) (fr := (0, 0)) (heap_alloc_new W _)) h1 (by simp only [maxLen]; omega) hl (Nat.zero_le _) ?_
  intro v1 w1 hown hg _ hat
  obtain ⟨p1, c1, rfl⟩ : ∃ p1 c1, v1 = .slice p1 (n + 1) c1 := by
    rcases hown.2 with ⟨rfl, h0⟩ | ⟨g, cap, cur, rfl, _⟩
    · omega
    · exact ⟨_, cap, rfl⟩
  have hbo1 : (Value.slice p1 (n + 1) c1).ownBlock = blkOf p1 := by cases p1 <;> rfl
  rw [hbo] at hg hat
  rw [hbo1] at hat
  refine h p1 c1 w1 hown (((Ext.refl _ W).alloc _).grown hg (fun k hk _ => hk)) (fun k hk => ?_)
  rcases hat with hat | hat
  · exact .inl (hat ▸ hk)
  · rw [hat] at hk
    injection hk with hk
    exact .inr (by rw [← hk]; simp)

/-- The same as one step of a region that draws its order. -/
theorem arr_append1_step {W : World} {K : Act → World → Prop} (hw : Region.wanted o (yielded ops a.tmps) = true) (s x : Operand) (t e sz bytes : Nat) (z : Value)
    (ho : o.op = .call { callee := .builtin .append, args := #[s, x], argTypes := #[t, t] })
    (ht : P.underlying t = some (.slice e)) (hinfo : (P.info? e).map (fun i => (i.zero, i.size, i.bytes)) = some (some z, sz, bytes)) (hz : z.cells.size = sz) (hsz : 0 < sz) (hb0 : 0 < bytes)
    (p : Option Addr) (n c : Nat) (cs ys : List Value) (hs : a.eval s = .slice p n c) (N : Nat) (hx : a.eval x = .slice (some ⟨N, 0, none⟩) 1 1) (hN : N = W.heap.size) (hys : ys.length = sz) (h1 : ∀ u ∈ ys, u.oneCell' = true)
    (HO : Arr W e sz p n c cs) (hl : (n + 1) * bytes ≤ 140737488355328)
    (h : ∀ p1 c1 w1, Arr w1 e sz p1 (n + 1) c1 (cs ++ ys) → Ext (fun k => blkOf p = some k) W w1 → Moved W p p1 → K (a.put o.dst (.slice p1 (n + 1) c1)) w1) :
    if Region.wanted o (yielded ops a.tmps) = true then Oper.wp P o a (W.alloc (.cells ys.toArray e)) K Q else K (a.put o.dst undef) (W.alloc (.cells ys.toArray e)) := by
  subst hN
  obtain ⟨i0, hi, hzz⟩ := Option.map_eq_some_iff.1 hinfo
  simp only [Prod.mk.injEq] at hzz
  obtain ⟨hz0, hz1, hz2⟩ := hzz
  have hlen : n + 1 ≤ 140737488355328 := Nat.le_trans (Nat.le_mul_of_pos_right _ hb0) hl
  rw [if_pos hw]
  obtain ⟨v1, w1, hr, hown, hg, _, hat⟩ := run_append_own_at (P := P) (W.alloc (.cells ys.toArray e)) 0 t o.type e i0 z sz bytes ht hi hz0 hz1 hz2 hz hsz (.slice p n c) n cs (World.ownsRow.alloc HO _) ⟨W.heap.size, 0, none⟩ 1 1 ys (by omega)
    (World.news_of_block (cs := ys.toArray) (t := e) (fr := (0, 0)) (heap_alloc_new W _)) h1 (by simp only [maxLen]; omega) hl (Nat.zero_le _)
  unfold Oper.wp execOp
  simp only [ho, resolve, invoke, builtin, Sem.run_bind, Sem.run_pure, Result.andThen_ok, List.map_toArray, List.map_cons, List.map_nil, hs, hx, hr]
  have hbo : (Value.slice p n c).ownBlock = blkOf p := by cases p <;> rfl
  obtain ⟨p1, c1, rfl⟩ : ∃ p1 c1, v1 = .slice p1 (n + 1) c1 := by
    rcases hown.2 with ⟨rfl, h0⟩ | ⟨g, cap, cur, rfl, _⟩
    · omega
    · exact ⟨_, cap, rfl⟩
  have hbo1 : (Value.slice p1 (n + 1) c1).ownBlock = blkOf p1 := by cases p1 <;> rfl
  rw [hbo] at hg hat
  rw [hbo1] at hat
  refine h p1 c1 w1 hown (((Ext.refl _ W).alloc _).grown hg (fun k hk _ => hk)) (fun k hk => ?_)
  rcases hat with hat | hat
  · exact .inl (hat ▸ hk)
  · rw [hat] at hk
    injection hk with hk
    exact .inr (by rw [← hk]; simp)

/-- copy(d, s): d a row of the call's own, at least as long. -/
theorem arr_copy {w : World} (hgd : o.guard = none) (d s : Operand) (dT sT e sz bytes : Nat) (z : Value)
    (ho : o.op = .call { callee := .builtin .copy, args := #[d, s], argTypes := #[dT, sT] })
    (ht : P.underlying dT = some (.slice e)) (hinfo : (P.info? e).map (fun i => (i.zero, i.size, i.bytes)) = some (some z, sz, bytes))
    (b n c : Nat) (cs : List Value) (hd : a.eval d = .slice (some ⟨b, 0, none⟩) n c) (p : Option Addr) (m mc : Nat) (hs : a.eval s = .slice p m mc) (hm : m ≤ n)
    (news : List Value) (hl : news.length = m * sz) (hnews : ∀ ad, p = some ad → ∀ j u, news[j]? = some u → w.cell? (ad.add j) = some u) (h0 : p = none → m = 0) (h1 : ∀ u ∈ news, u.oneCell' = true)
    (HO : Arr w e sz (some ⟨b, 0, none⟩) n c cs)
    (h : ∀ w1, Arr w1 e sz (some ⟨b, 0, none⟩) n c (news ++ cs.drop (m * sz)) → Ext (fun k => k = b) w w1 → wpList P ops Q rest (a.put o.dst (goInt m)) w1) :
    wpList P ops Q (o :: rest) a w := by
  obtain ⟨i0, hi, hzz⟩ := Option.map_eq_some_iff.1 hinfo
  simp only [Prod.mk.injEq] at hzz
  obtain ⟨hz0, hz1, hz2⟩ := hzz
  refine wpList_plain hgd fun K hK => ?_
  have hmin : Nat.min m n = m := Nat.min_eq_left hm
  have hlen := HO.1
  rcases HO.2 with ⟨hv, _⟩ | ⟨g, cap, cur, hv, hb0, hgg, c1, c2, c3, c4⟩
  · cases hv
  injection hv with hv1 hv2 hv3
  injection hv1 with hv1
  injection hv1 with hv1
  subst hv1
  subst hv3
  have hfit : m * sz ≤ n * sz := Nat.mul_le_mul_right _ hm
  have hfit2 : n * sz ≤ c * sz := Nat.mul_le_mul_right _ c1
  have hfc : (Builtin.firstCells sz m (.slice p m mc)).run P w = .ok news.toArray w := by
    cases p with
    | some ad => exact run_firstCells_some w sz m ad m mc news hl (hnews ad rfl)
    | none =>
      have hm0 := h0 rfl
      subst hm0
      have : news = [] := List.eq_nil_of_length_eq_zero (by simpa using hl)
      subst this
      exact run_firstCells_none w sz 0 0 mc
  have hst := run_storeCells_at P b 0 e news 0 cur w hgg (by omega) h1
  simp only [Nat.add_zero, Nat.zero_add, List.take_zero, List.nil_append] at hst
  unfold Oper.wp execOp
  simp [ho, resolve, invoke, builtin, hd, hs, Builtin.copy_, run_underlying ht, sizeOf, typeInfo, hi, hz1, Builtin.lenOf, hmin, hfc, hst, Result.andThen]
  refine hK _ _ (h _ ?_ ⟨rfl, rfl, rfl, by simp [World.setRow], fun k hk hn => setRow_other w b k _ hn⟩)
  refine ⟨?_, .inr ⟨b, c, _, rfl, Nat.zero_le _, setRow_heap w b cur _ e _ hgg, c1, c2, ?_, ?_⟩⟩
  · rw [List.length_append, List.length_drop, hlen, hl]; omega
  · simp only [List.size_toArray, List.length_append, List.length_drop, Array.length_toList]; omega
  · have hcur : cur.toList.length = c * sz := by rw [Array.length_toList, c3]
    rw [List.toList_toArray, List.take_append, hl, ← c4]
    rw [List.take_of_length_le (by omega), List.drop_take]

/-- make([]T, n). -/
theorem arr_make {w : World} (hgd : o.guard = none) (l c : Operand) (t e sz bytes : Nat) (z : Value) (hop : o.op = Op.makeSlice t l c)
    (ht : P.underlying t = some (.slice e)) (hinfo : (P.info? e).map (fun i => (i.zero, i.size, i.bytes)) = some (some z, sz, bytes))
    (kl kc : IntKind) (L C : Int) (n : Nat) (hl : a.eval l = .int kl L) (hc : a.eval c = .int kc C) (hL : L = (n : Int)) (hC : C = (n : Int)) (hb : n * bytes ≤ 140737488355328) (hb1 : 0 < bytes) (hz : z.cells.size = sz)
    (h : ∀ w1, Arr w1 e sz (some ⟨w.heap.size, 0, none⟩) n n (madeCells z.cells (n * sz)).toList → Ext (fun _ => False) w w1 → wpList P ops Q rest (a.put o.dst (.slice (some ⟨w.heap.size, 0, none⟩) n n)) w1) :
    wpList P ops Q (o :: rest) a w := by
  obtain ⟨i0, hi, hzz⟩ := Option.map_eq_some_iff.1 hinfo
  simp only [Prod.mk.injEq] at hzz
  obtain ⟨hz0, hz1, hz2⟩ := hzz
  have hn : n ≤ 140737488355328 := Nat.le_trans (Nat.le_mul_of_pos_right _ hb1) hb
  refine wpList_make_full w hgd l c t hop 0 e i0 z sz ht hi hz0 hz1 kl kc L C n hl hc hL hC (by rw [hz2, Nat.mul_comm]; omega) (by unfold maxLen; omega) (Nat.zero_le _) ?_
  intro w1 hown hg
  exact h w1 hown ((Ext.refl _ w).grown hg (fun k hk _ => by cases hk))
end
end Go.Proofs.Ytbepmbihonnkaaa.Lib
