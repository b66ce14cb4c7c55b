/- Elements of the type tessera/tally.Row: their cells, rows of them. -/
import Derived.Test.YtigpaaelggnffaaGreatDoorSpanPure
import Derived.Test.YtigpaaelggnffaaGreatDoorProg
import Derived.Test.YtigpaaelggnffaaGreatDoorHeapBa
import Derived.Laws.StructEq
namespace Go.Proofs.YtigpaaelggnffaaGreatDoor.ElTal
open Go.RowKit Go.Proofs.YtigpaaelggnffaaGreatDoor.Lib Go.Proofs.YtigpaaelggnffaaGreatDoor.HeapPure
set_option linter.unusedVariables false
set_option linter.unusedSimpArgs false

structure El where
  f0 : Int
  f1 : Int
  deriving DecidableEq
def El.cells (x : El) : List Value := [.int .i64 x.f0, .int .i64 x.f1]
instance : Inhabited El := ⟨⟨0, 0⟩⟩
theorem infoE : (Tryz.prog.info? 45).map (fun i => (i.zero, i.size, i.bytes)) = some (some (.agg #[.int .i64 0, .int .i64 0]), 2, 16) := by kernel_rfl
theorem cells_inj {x y : El} (h : x.cells = y.cells) : x = y := by
  cases x; cases y; simpa [El.cells] using h
theorem cells_one (x : El) : ∀ u ∈ x.cells, u.oneCell' = true := by simp [El.cells, Value.oneCell']

def flat (xs : List El) : List Value := xs.flatMap El.cells
theorem flat_append (xs ys : List El) : flat (xs ++ ys) = flat xs ++ flat ys := by simp [flat]
theorem flat_one (x : El) : flat [x] = x.cells := by simp [flat]
theorem flat_one_cell (xs : List El) : ∀ u ∈ flat xs, u.oneCell' = true := by
  intro u hu
  obtain ⟨x, _, h⟩ := List.mem_flatMap.1 hu
  exact cells_one x u h
theorem flat_length (xs : List El) : (flat xs).length = xs.length * 2 := by
  induction xs with
  | nil => rfl
  | cons x xs ih => simp [flat, El.cells] at *; omega
theorem flat_get (xs : List El) (i j : Nat) (hi : i < xs.length) (hj : j < 2) : (flat xs)[i * 2 + j]? = (at_ xs i).cells[j]? := by
  induction xs generalizing i with
  | nil => exact absurd hi (Nat.not_lt_zero _)
  | cons x xs ih =>
    cases i with
    | zero =>
      rw [show flat (x :: xs) = x.cells ++ flat xs from rfl, Nat.zero_mul, Nat.zero_add, List.getElem?_append_left (by simpa [El.cells] using hj)]
      rfl
    | succ i =>
      rw [show flat (x :: xs) = x.cells ++ flat xs from rfl, List.getElem?_append_right (by simp [El.cells] <;> omega), show (i + 1) * 2 + j - x.cells.length = i * 2 + j from by simp [El.cells] <;> omega]
      rw [ih i (by simpa using hi)]
      rfl
theorem flat_set (ys : List El) (k : Nat) (Y : El) : flat (ys.set k Y) = ((flat ys).set (k * 2) (.int .i64 Y.f0)).set (k * 2 + 1) (.int .i64 Y.f1) := by
  induction ys generalizing k with
  | nil => simp [flat]
  | cons x xs ih =>
    cases k with
    | zero => simp [flat, El.cells]
    | succ k =>
      rw [List.set_cons_succ, show flat (x :: xs.set k Y) = x.cells ++ flat (xs.set k Y) from rfl, ih k, show flat (x :: xs) = x.cells ++ flat xs from rfl]
      rw [List.set_append_right _ _ (by simp [El.cells] <;> omega), List.set_append_right _ _ (by simp [El.cells] <;> omega)]
      rw [show (k + 1) * 2 - x.cells.length = k * 2 from by simp [El.cells] <;> omega, show (k + 1) * 2 + 1 - x.cells.length = k * 2 + 1 from by simp [El.cells] <;> omega]
theorem flat_take (ys : List El) (m : Nat) (hm : m ≤ ys.length) : flat (ys.take m) = (flat ys).take (m * 2) := by
  have hl : (ys.take m).length = m := by simp; omega
  have e := flat_append (ys.take m) (ys.drop m)
  rw [List.take_append_drop] at e
  rw [e, List.take_left' (by rw [flat_length, hl])]
/-- The next element's cells written behind those that stand. -/
theorem flat_fill (A : List El) (R : List Value) (Y : El) (hR : 2 ≤ R.length) : (((flat A ++ R).set (A.length * 2) (.int .i64 Y.f0)).set (A.length * 2 + 1) (.int .i64 Y.f1)) = flat (A ++ [Y]) ++ R.drop 2 := by
  induction A with
  | nil =>
    match R, hR with
    | r0 :: r1 :: R', _ => simp [flat, El.cells]
  | cons x A ih =>
    rw [show flat (x :: A) = x.cells ++ flat A from rfl, List.append_assoc, List.length_cons]
    rw [List.set_append_right _ _ (by simp [El.cells] <;> omega), List.set_append_right _ _ (by simp [El.cells] <;> omega)]
    rw [show (A.length + 1) * 2 - x.cells.length = A.length * 2 from by simp [El.cells] <;> omega, show (A.length + 1) * 2 + 1 - x.cells.length = A.length * 2 + 1 from by simp [El.cells] <;> omega, ih, List.cons_append, show flat (x :: (A ++ [Y])) = x.cells ++ flat (A ++ [Y]) from rfl, List.append_assoc]

/-- A row of the call's own. -/
abbrev Row (w : World) (p : Option Addr) (c : Nat) (xs : List El) : Prop := Arr w 45 2 p xs.length c (flat xs)
/-- A row that is read. -/
def RowR (w : World) (p : Option Addr) (xs : List El) : Prop := Reads w 2 p xs.length (fun i => (at_ xs i).cells)
theorem RowR.elem {w : World} {p : Option Addr} {xs : List El} (h : RowR w p xs) (k : Nat) (hk : k < xs.length) (Y : El) (hY : at_ xs k = Y) :
    ∃ b o, p = some ⟨b, o, none⟩ ∧ b < w.heap.size ∧ w.cell? ⟨b, o + k * 2, none⟩ = some (.int .i64 Y.f0) ∧ w.cell? ⟨b, o + k * 2 + 1, none⟩ = some (.int .i64 Y.f1) := by
  obtain ⟨b, o, hp, hb, hc⟩ := h k hk
  simp only [hY] at hc
  refine ⟨b, o, hp, hb, by simpa [El.cells] using (hc 0 (by omega)), by simpa [El.cells] using (hc 1 (by omega))⟩
theorem RowR.ext {w w' : World} {p : Option Addr} {xs : List El} {S : Nat → Prop} (h : RowR w p xs) (hx : Ext S w w') (hn : ∀ k, blkOf p = some k → k < w.heap.size → ¬ S k) : RowR w' p xs := Reads.ext h hx hn
theorem Row.reads {w : World} {p : Option Addr} {c : Nat} {xs : List El} (h : Row w p c xs) : RowR w p xs := by
  intro i hi
  obtain ⟨b, o, hp, hb, hc⟩ := arr_reads h (by omega) i hi
  refine ⟨b, o, hp, hb, fun j hj => (hc j hj).trans ?_⟩
  rw [List.getElem?_take, if_pos hj, List.getElem?_drop, flat_get xs i j hi hj]
theorem RowR.take {w : World} {p : Option Addr} {xs : List El} (h : RowR w p xs) (m : Nat) (hm : m ≤ xs.length) : RowR w p (xs.take m) := by
  have hl : (xs.take m).length = m := by simp; omega
  intro i hi
  rw [hl] at hi
  obtain ⟨b, o, hp, hb, hc⟩ := h i (by omega)
  refine ⟨b, o, hp, hb, fun j hj => (hc j hj).trans ?_⟩
  have : at_ (xs.take m) i = at_ xs i := by unfold at_; rw [List.getD_eq_getElem?_getD, List.getD_eq_getElem?_getD, List.getElem?_take, if_pos hi]
  show (at_ xs i).cells[j]? = (at_ (xs.take m) i).cells[j]?
  rw [this]
/-- The cells of element k. -/
theorem Row.elem {w : World} {a n c : Nat} {ys : List El} (h : Arr w 45 2 (some ⟨a, 0, none⟩) n c (flat ys)) (hn : n = ys.length) (k : Nat) (hk : k < ys.length) (Y : El) (hY : at_ ys k = Y) :
    w.cell? ⟨a, k * 2, none⟩ = some (.int .i64 Y.f0) ∧ w.cell? ⟨a, k * 2 + 1, none⟩ = some (.int .i64 Y.f1) ∧ w.frozen? ⟨a, k * 2, none⟩ = false ∧ w.frozen? ⟨a, k * 2 + 1, none⟩ = false := by
  subst hn
  have e := fun j (hj : j < 2) => (arr_cell h (k * 2 + j) (by omega)).trans (flat_get _ _ _ hk hj)
  rw [hY] at e
  exact ⟨by simpa [El.cells] using e 0 (by omega), by simpa [El.cells] using e 1 (by omega), arr_frozen h _, arr_frozen h _⟩
/-- Element k written. -/
theorem Row.set {w : World} {a n c : Nat} {ys : List El} (h : Arr w 45 2 (some ⟨a, 0, none⟩) n c (flat ys)) (k : Nat) (Y : El) :
    Arr ((w.setCell ⟨a, k * 2, none⟩ (.int .i64 Y.f0)).setCell ⟨a, k * 2 + 1, none⟩ (.int .i64 Y.f1)) 45 2 (some ⟨a, 0, none⟩) n c (flat (ys.set k Y)) := by
  have := arr_set (arr_set (h) (k * 2) (.int .i64 Y.f0)) (k * 2 + 1) (.int .i64 Y.f1)
  rw [flat_set]
  exact this
theorem ext_set {S : Nat → Prop} {w w' : World} (h : Ext S w w') {a : Nat} (ha : a < w.heap.size → S a) (k : Nat) (Y : El) :
    Ext S w ((w'.setCell ⟨a, k * 2, none⟩ (.int .i64 Y.f0)).setCell ⟨a, k * 2 + 1, none⟩ (.int .i64 Y.f1)) := ((h.setCell (p := ⟨a, k * 2, none⟩) ha _).setCell (p := ⟨a, k * 2 + 1, none⟩) ha _)
theorem blk_set' {w : World} {g a : Nat} {o : Obj} (h : w.heap[g]? = some o) (hne : g ≠ a) (k : Nat) (Y : El) : ((w.setCell ⟨a, k * 2, none⟩ (.int .i64 Y.f0)).setCell ⟨a, k * 2 + 1, none⟩ (.int .i64 Y.f1)).heap[g]? = some o := blk_far (blk_far (h) (p := ⟨a, k * 2, none⟩) hne _) (p := ⟨a, k * 2 + 1, none⟩) hne _
theorem arr_set' {w : World} {e sz n c : Nat} {p : Option Addr} {cs : List Value} (h : Arr w e sz p n c cs) {a : Nat} (hne : blkOf p ≠ some a) (k : Nat) (Y : El) : Arr ((w.setCell ⟨a, k * 2, none⟩ (.int .i64 Y.f0)).setCell ⟨a, k * 2 + 1, none⟩ (.int .i64 Y.f1)) e sz p n c cs := arr_far (arr_far (h) (q := ⟨a, k * 2, none⟩) hne _) (q := ⟨a, k * 2 + 1, none⟩) hne _
/-- '==' of two elements. -/
theorem el_equalIn (d : Nat) (w : World) (x y : El) : (Op.equalIn (d + 2) 45 (.agg #[.int .i64 x.f0, .int .i64 x.f1]) (.agg #[.int .i64 y.f0, .int .i64 y.f1])).run Tryz.prog w = .ok (decide (x = y)) w := by
  have hu := Tryz.underlying45
  have hi0 := Tryz.underlying3
  rw [run_equalIn_struct w (d + 1) _ _ _ (by kernel_rfl) (by kernel_rfl)]
  by_cases e0 : x.f0 = y.f0
  · by_cases e1 : x.f1 = y.f1
    · obtain rfl : x = y := by cases x; cases y; simp_all
      simp [go_sem, hu, hi0, run_equalIn_int, run_equalIn_string, run_equalIn_bool']
    · have hne : x ≠ y := fun h => e1 (by rw [h])
      simp [go_sem, hu, hi0, run_equalIn_int, run_equalIn_string, run_equalIn_bool', ← beq_toListBytes, e0, e1, hne]
  · have hne : x ≠ y := fun h => e0 (by rw [h])
    simp [go_sem, hu, hi0, run_equalIn_int, run_equalIn_string, run_equalIn_bool', ← beq_toListBytes, e0, hne]
theorem el_eql (x y : El) (w : World) : (binOp .eql 45 (.agg #[.int .i64 x.f0, .int .i64 x.f1]) (.agg #[.int .i64 y.f0, .int .i64 y.f1])).run Tryz.prog w = .ok (.bool (decide (x = y))) w := by
  have h := el_equalIn 9998 w x y
  simp only [binOp]
  simp [Op.equal, Op.maxDepth, h]
theorem el_neq (x y : El) (w : World) : (binOp .neq 45 (.agg #[.int .i64 x.f0, .int .i64 x.f1]) (.agg #[.int .i64 y.f0, .int .i64 y.f1])).run Tryz.prog w = .ok (.bool (!decide (x = y))) w := by
  have h := el_equalIn 9998 w x y
  simp only [binOp]
  simp [Op.equal, Op.maxDepth, h]
end Go.Proofs.YtigpaaelggnffaaGreatDoor.ElTal
