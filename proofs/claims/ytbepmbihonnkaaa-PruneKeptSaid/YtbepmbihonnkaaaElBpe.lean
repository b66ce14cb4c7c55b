/- Elements of the type tessera/bpe.pair: their cells, rows of them. -/
import Derived.Test.YtbepmbihonnkaaaLib
import Derived.Test.YtbepmbihonnkaaaProg
import Derived.Test.YtbepmbihonnkaaaHeapPure
import Derived.Laws.StructEq
namespace Go.Proofs.Ytbepmbihonnkaaa.ElBpe
open Go.RowKit Go.Proofs.Ytbepmbihonnkaaa.Lib Go.Proofs.Ytbepmbihonnkaaa.HeapPure
set_option linter.unusedVariables false
set_option linter.unusedSimpArgs false

structure El where
  f0 : Int
  f1 : Int
  f2 : Int
  f3 : Int
  f4 : Int
  f5 : Int
  deriving DecidableEq
def El.cells (x : El) : List Value := [.int .i64 x.f0, .int .i64 x.f1, .int .i64 x.f2, .int .i64 x.f3, .int .i64 x.f4, .int .i64 x.f5]
instance : Inhabited El := ⟨⟨0, 0, 0, 0, 0, 0⟩⟩
theorem infoE : (Try.prog.info? 104).map (fun i => (i.zero, i.size, i.bytes)) = some (some (.agg #[.int .i64 0, .int .i64 0, .int .i64 0, .int .i64 0, .int .i64 0, .int .i64 0]), 6, 48) := by kernel_rfl
theorem cells_inj {x y : El} (h : x.cells = y.cells) : x = y := by
  cases x; cases y; simpa [El.cells] using h
theorem cells_one (x : El) : ∀ u ∈ x.cells, u.oneCell' = true := by simp [El.cells, Value.oneCell']

def flat (xs : List El) : List Value := xs.flatMap El.cells
theorem flat_append (xs ys : List El) : flat (xs ++ ys) = flat xs ++ flat ys := by simp [flat]
theorem flat_one (x : El) : flat [x] = x.cells := by simp [flat]
theorem flat_one_cell (xs : List El) : ∀ u ∈ flat xs, u.oneCell' = true := by
  intro u hu
  obtain ⟨x, _, h⟩ := List.mem_flatMap.1 hu
  exact cells_one x u h
theorem flat_length (xs : List El) : (flat xs).length = xs.length * 6 := by
  induction xs with
  | nil => rfl
  | cons x xs ih => simp [flat, El.cells] at *; omega
theorem flat_get (xs : List El) (i j : Nat) (hi : i < xs.length) (hj : j < 6) : (flat xs)[i * 6 + j]? = (at_ xs i).cells[j]? := by
  induction xs generalizing i with
  | nil => exact absurd hi (Nat.not_lt_zero _)
  | cons x xs ih =>
    cases i with
    | zero =>
      rw [show flat (x :: xs) = x.cells ++ flat xs from rfl, Nat.zero_mul, Nat.zero_add, List.getElem?_append_left (by simpa [El.cells] using hj)]
      rfl
    | succ i =>
      rw [show flat (x :: xs) = x.cells ++ flat xs from rfl, List.getElem?_append_right (by simp [El.cells] <;> omega), show (i + 1) * 6 + j - x.cells.length = i * 6 + j from by simp [El.cells] <;> omega]
      rw [ih i (by simpa using hi)]
      rfl
theorem flat_set (ys : List El) (k : Nat) (Y : El) : flat (ys.set k Y) = ((((((flat ys).set (k * 6) (.int .i64 Y.f0)).set (k * 6 + 1) (.int .i64 Y.f1)).set (k * 6 + 2) (.int .i64 Y.f2)).set (k * 6 + 3) (.int .i64 Y.f3)).set (k * 6 + 4) (.int .i64 Y.f4)).set (k * 6 + 5) (.int .i64 Y.f5) := by
  induction ys generalizing k with
  | nil => simp [flat]
  | cons x xs ih =>
    cases k with
    | zero => simp [flat, El.cells]
    | succ k =>
      rw [List.set_cons_succ, show flat (x :: xs.set k Y) = x.cells ++ flat (xs.set k Y) from rfl, ih k, show flat (x :: xs) = x.cells ++ flat xs from rfl]
      rw [List.set_append_right _ _ (by simp [El.cells] <;> omega), List.set_append_right _ _ (by simp [El.cells] <;> omega), List.set_append_right _ _ (by simp [El.cells] <;> omega), List.set_append_right _ _ (by simp [El.cells] <;> omega), List.set_append_right _ _ (by simp [El.cells] <;> omega), List.set_append_right _ _ (by simp [El.cells] <;> omega)]
      rw [show (k + 1) * 6 - x.cells.length = k * 6 from by simp [El.cells] <;> omega, show (k + 1) * 6 + 1 - x.cells.length = k * 6 + 1 from by simp [El.cells] <;> omega, show (k + 1) * 6 + 2 - x.cells.length = k * 6 + 2 from by simp [El.cells] <;> omega, show (k + 1) * 6 + 3 - x.cells.length = k * 6 + 3 from by simp [El.cells] <;> omega, show (k + 1) * 6 + 4 - x.cells.length = k * 6 + 4 from by simp [El.cells] <;> omega, show (k + 1) * 6 + 5 - x.cells.length = k * 6 + 5 from by simp [El.cells] <;> omega]
theorem flat_take (ys : List El) (m : Nat) (hm : m ≤ ys.length) : flat (ys.take m) = (flat ys).take (m * 6) := by
  have hl : (ys.take m).length = m := by simp; omega
  have e := flat_append (ys.take m) (ys.drop m)
  rw [List.take_append_drop] at e
  rw [e, List.take_left' (by rw [flat_length, hl])]
/-- The next element's cells written behind those that stand. -/
theorem flat_fill (A : List El) (R : List Value) (Y : El) (hR : 6 ≤ R.length) : (((((((flat A ++ R).set (A.length * 6) (.int .i64 Y.f0)).set (A.length * 6 + 1) (.int .i64 Y.f1)).set (A.length * 6 + 2) (.int .i64 Y.f2)).set (A.length * 6 + 3) (.int .i64 Y.f3)).set (A.length * 6 + 4) (.int .i64 Y.f4)).set (A.length * 6 + 5) (.int .i64 Y.f5)) = flat (A ++ [Y]) ++ R.drop 6 := by
  induction A with
  | nil =>
    match R, hR with
    | r0 :: r1 :: r2 :: r3 :: r4 :: r5 :: R', _ => simp [flat, El.cells]
  | cons x A ih =>
    rw [show flat (x :: A) = x.cells ++ flat A from rfl, List.append_assoc, List.length_cons]
    rw [List.set_append_right _ _ (by simp [El.cells] <;> omega), List.set_append_right _ _ (by simp [El.cells] <;> omega), List.set_append_right _ _ (by simp [El.cells] <;> omega), List.set_append_right _ _ (by simp [El.cells] <;> omega), List.set_append_right _ _ (by simp [El.cells] <;> omega), List.set_append_right _ _ (by simp [El.cells] <;> omega)]
    rw [show (A.length + 1) * 6 - x.cells.length = A.length * 6 from by simp [El.cells] <;> omega, show (A.length + 1) * 6 + 1 - x.cells.length = A.length * 6 + 1 from by simp [El.cells] <;> omega, show (A.length + 1) * 6 + 2 - x.cells.length = A.length * 6 + 2 from by simp [El.cells] <;> omega, show (A.length + 1) * 6 + 3 - x.cells.length = A.length * 6 + 3 from by simp [El.cells] <;> omega, show (A.length + 1) * 6 + 4 - x.cells.length = A.length * 6 + 4 from by simp [El.cells] <;> omega, show (A.length + 1) * 6 + 5 - x.cells.length = A.length * 6 + 5 from by simp [El.cells] <;> omega, ih, List.cons_append, show flat (x :: (A ++ [Y])) = x.cells ++ flat (A ++ [Y]) from rfl, List.append_assoc]

/-- A row of the call's own. -/
abbrev Row (w : World) (p : Option Addr) (c : Nat) (xs : List El) : Prop := Arr w 104 6 p xs.length c (flat xs)
/-- A row that is read. -/
def RowR (w : World) (p : Option Addr) (xs : List El) : Prop := Reads w 6 p xs.length (fun i => (at_ xs i).cells)
theorem RowR.elem {w : World} {p : Option Addr} {xs : List El} (h : RowR w p xs) (k : Nat) (hk : k < xs.length) (Y : El) (hY : at_ xs k = Y) :
    ∃ b o, p = some ⟨b, o, none⟩ ∧ b < w.heap.size ∧ w.cell? ⟨b, o + k * 6, none⟩ = some (.int .i64 Y.f0) ∧ w.cell? ⟨b, o + k * 6 + 1, none⟩ = some (.int .i64 Y.f1) ∧ w.cell? ⟨b, o + k * 6 + 2, none⟩ = some (.int .i64 Y.f2) ∧ w.cell? ⟨b, o + k * 6 + 3, none⟩ = some (.int .i64 Y.f3) ∧ w.cell? ⟨b, o + k * 6 + 4, none⟩ = some (.int .i64 Y.f4) ∧ w.cell? ⟨b, o + k * 6 + 5, none⟩ = some (.int .i64 Y.f5) := by
  obtain ⟨b, o, hp, hb, hc⟩ := h k hk
  simp only [hY] at hc
  refine ⟨b, o, hp, hb, by simpa [El.cells] using (hc 0 (by omega)), by simpa [El.cells] using (hc 1 (by omega)), by simpa [El.cells] using (hc 2 (by omega)), by simpa [El.cells] using (hc 3 (by omega)), by simpa [El.cells] using (hc 4 (by omega)), by simpa [El.cells] using (hc 5 (by omega))⟩
theorem RowR.ext {w w' : World} {p : Option Addr} {xs : List El} {S : Nat → Prop} (h : RowR w p xs) (hx : Ext S w w') (hn : ∀ k, blkOf p = some k → k < w.heap.size → ¬ S k) : RowR w' p xs := Reads.ext h hx hn
theorem Row.reads {w : World} {p : Option Addr} {c : Nat} {xs : List El} (h : Row w p c xs) : RowR w p xs := by
  intro i hi
  obtain ⟨b, o, hp, hb, hc⟩ := arr_reads h (by omega) i hi
  refine ⟨b, o, hp, hb, fun j hj => (hc j hj).trans ?_⟩
  rw [List.getElem?_take, if_pos hj, List.getElem?_drop, flat_get xs i j hi hj]
theorem RowR.take {w : World} {p : Option Addr} {xs : List El} (h : RowR w p xs) (m : Nat) (hm : m ≤ xs.length) : RowR w p (xs.take m) := by
  have hl : (xs.take m).length = m := by simp; omega
  intro i hi
  rw [hl] at hi
  obtain ⟨b, o, hp, hb, hc⟩ := h i (by omega)
  refine ⟨b, o, hp, hb, fun j hj => (hc j hj).trans ?_⟩
  have : at_ (xs.take m) i = at_ xs i := by unfold at_; rw [List.getD_eq_getElem?_getD, List.getD_eq_getElem?_getD, List.getElem?_take, if_pos hi]
  show (at_ xs i).cells[j]? = (at_ (xs.take m) i).cells[j]?
  rw [this]
/-- The cells of element k. -/
theorem Row.elem {w : World} {a n c : Nat} {ys : List El} (h : Arr w 104 6 (some ⟨a, 0, none⟩) n c (flat ys)) (hn : n = ys.length) (k : Nat) (hk : k < ys.length) (Y : El) (hY : at_ ys k = Y) :
    w.cell? ⟨a, k * 6, none⟩ = some (.int .i64 Y.f0) ∧ w.cell? ⟨a, k * 6 + 1, none⟩ = some (.int .i64 Y.f1) ∧ w.cell? ⟨a, k * 6 + 2, none⟩ = some (.int .i64 Y.f2) ∧ w.cell? ⟨a, k * 6 + 3, none⟩ = some (.int .i64 Y.f3) ∧ w.cell? ⟨a, k * 6 + 4, none⟩ = some (.int .i64 Y.f4) ∧ w.cell? ⟨a, k * 6 + 5, none⟩ = some (.int .i64 Y.f5) ∧ w.frozen? ⟨a, k * 6, none⟩ = false ∧ w.frozen? ⟨a, k * 6 + 1, none⟩ = false ∧ w.frozen? ⟨a, k * 6 + 2, none⟩ = false ∧ w.frozen? ⟨a, k * 6 + 3, none⟩ = false ∧ w.frozen? ⟨a, k * 6 + 4, none⟩ = false ∧ w.frozen? ⟨a, k * 6 + 5, none⟩ = false := by
  subst hn
  have e := fun j (hj : j < 6) => (arr_cell h (k * 6 + j) (by omega)).trans (flat_get _ _ _ hk hj)
  rw [hY] at e
  exact ⟨by simpa [El.cells] using e 0 (by omega), by simpa [El.cells] using e 1 (by omega), by simpa [El.cells] using e 2 (by omega), by simpa [El.cells] using e 3 (by omega), by simpa [El.cells] using e 4 (by omega), by simpa [El.cells] using e 5 (by omega), arr_frozen h _, arr_frozen h _, arr_frozen h _, arr_frozen h _, arr_frozen h _, arr_frozen h _⟩
/-- Element k written. -/
theorem Row.set {w : World} {a n c : Nat} {ys : List El} (h : Arr w 104 6 (some ⟨a, 0, none⟩) n c (flat ys)) (k : Nat) (Y : El) :
    Arr ((((((w.setCell ⟨a, k * 6, none⟩ (.int .i64 Y.f0)).setCell ⟨a, k * 6 + 1, none⟩ (.int .i64 Y.f1)).setCell ⟨a, k * 6 + 2, none⟩ (.int .i64 Y.f2)).setCell ⟨a, k * 6 + 3, none⟩ (.int .i64 Y.f3)).setCell ⟨a, k * 6 + 4, none⟩ (.int .i64 Y.f4)).setCell ⟨a, k * 6 + 5, none⟩ (.int .i64 Y.f5)) 104 6 (some ⟨a, 0, none⟩) n c (flat (ys.set k Y)) := by
  have := arr_set (arr_set (arr_set (arr_set (arr_set (arr_set (h) (k * 6) (.int .i64 Y.f0)) (k * 6 + 1) (.int .i64 Y.f1)) (k * 6 + 2) (.int .i64 Y.f2)) (k * 6 + 3) (.int .i64 Y.f3)) (k * 6 + 4) (.int .i64 Y.f4)) (k * 6 + 5) (.int .i64 Y.f5)
  rw [flat_set]
  exact this
theorem ext_set {S : Nat → Prop} {w w' : World} (h : Ext S w w') {a : Nat} (ha : a < w.heap.size → S a) (k : Nat) (Y : El) :
    Ext S w ((((((w'.setCell ⟨a, k * 6, none⟩ (.int .i64 Y.f0)).setCell ⟨a, k * 6 + 1, none⟩ (.int .i64 Y.f1)).setCell ⟨a, k * 6 + 2, none⟩ (.int .i64 Y.f2)).setCell ⟨a, k * 6 + 3, none⟩ (.int .i64 Y.f3)).setCell ⟨a, k * 6 + 4, none⟩ (.int .i64 Y.f4)).setCell ⟨a, k * 6 + 5, none⟩ (.int .i64 Y.f5)) := ((((((h.setCell (p := ⟨a, k * 6, none⟩) ha _).setCell (p := ⟨a, k * 6 + 1, none⟩) ha _).setCell (p := ⟨a, k * 6 + 2, none⟩) ha _).setCell (p := ⟨a, k * 6 + 3, none⟩) ha _).setCell (p := ⟨a, k * 6 + 4, none⟩) ha _).setCell (p := ⟨a, k * 6 + 5, none⟩) ha _)
theorem blk_set' {w : World} {g a : Nat} {o : Obj} (h : w.heap[g]? = some o) (hne : g ≠ a) (k : Nat) (Y : El) : ((((((w.setCell ⟨a, k * 6, none⟩ (.int .i64 Y.f0)).setCell ⟨a, k * 6 + 1, none⟩ (.int .i64 Y.f1)).setCell ⟨a, k * 6 + 2, none⟩ (.int .i64 Y.f2)).setCell ⟨a, k * 6 + 3, none⟩ (.int .i64 Y.f3)).setCell ⟨a, k * 6 + 4, none⟩ (.int .i64 Y.f4)).setCell ⟨a, k * 6 + 5, none⟩ (.int .i64 Y.f5)).heap[g]? = some o := blk_far (blk_far (blk_far (blk_far (blk_far (blk_far (h) (p := ⟨a, k * 6, none⟩) hne _) (p := ⟨a, k * 6 + 1, none⟩) hne _) (p := ⟨a, k * 6 + 2, none⟩) hne _) (p := ⟨a, k * 6 + 3, none⟩) hne _) (p := ⟨a, k * 6 + 4, none⟩) hne _) (p := ⟨a, k * 6 + 5, none⟩) hne _
theorem arr_set' {w : World} {e sz n c : Nat} {p : Option Addr} {cs : List Value} (h : Arr w e sz p n c cs) {a : Nat} (hne : blkOf p ≠ some a) (k : Nat) (Y : El) : Arr ((((((w.setCell ⟨a, k * 6, none⟩ (.int .i64 Y.f0)).setCell ⟨a, k * 6 + 1, none⟩ (.int .i64 Y.f1)).setCell ⟨a, k * 6 + 2, none⟩ (.int .i64 Y.f2)).setCell ⟨a, k * 6 + 3, none⟩ (.int .i64 Y.f3)).setCell ⟨a, k * 6 + 4, none⟩ (.int .i64 Y.f4)).setCell ⟨a, k * 6 + 5, none⟩ (.int .i64 Y.f5)) e sz p n c cs := arr_far (arr_far (arr_far (arr_far (arr_far (arr_far (h) (q := ⟨a, k * 6, none⟩) hne _) (q := ⟨a, k * 6 + 1, none⟩) hne _) (q := ⟨a, k * 6 + 2, none⟩) hne _) (q := ⟨a, k * 6 + 3, none⟩) hne _) (q := ⟨a, k * 6 + 4, none⟩) hne _) (q := ⟨a, k * 6 + 5, none⟩) hne _
end Go.Proofs.Ytbepmbihonnkaaa.ElBpe
