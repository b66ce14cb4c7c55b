/- Merged of Of, House, Right. -/
import Derived.Test.YtbepmbihonnkaaaRef5M
/- tesserakeep.Of: the model of some data, where these are right. -/
namespace Go.Proofs.Ytbepmbihonnkaaa.Sl
open Go.Proofs.Ytbepmbihonnkaaa.Lib
open Go.RowKit
set_option linter.unusedVariables false
set_option linter.unusedSimpArgs false

/-- Data of which a model is made here. -/
def good (d : Dat) : Bool := !large d && decide ((check5 d).1 = 0)
def OfEnd (w : World) (d : Dat) (e : Ending) (w' : World) : Prop :=
  Ext (fun _ => False) w w' ∧ ((good d = false ∧ e = .returned (.tuple #[.pointer none, .bool false, .bool true])) ∨
    (good d = true ∧ ∃ a, e = .returned (.tuple #[.pointer (some ⟨a, 0, none⟩), .bool true, .bool true]) ∧ IsModel w' a d ∧ w.heap.size ≤ a))

set_option maxRecDepth 100000 in
set_option maxHeartbeats 2000000 in
theorem of5_any (w : World) (L : Pl) (d : Dat) (h : DR w L d) :
    Calls Try.prog 11 #[.agg #[.slice L.p0 d.ws.length L.c0, .slice L.p1 d.ms.length L.c1, .slice L.p2 d.ls.length L.c2, .slice L.p3 d.ns.length L.c3, .slice L.p4 d.ss.length L.c4]] w fun e w' => OfEnd w d e w' := by
  have R := Lib.hid h
  clear h
  have hb : (w.alloc (.cells #[.slice L.p0 d.ws.length L.c0, .slice L.p1 d.ms.length L.c1, .slice L.p2 d.ls.length L.c2, .slice L.p3 d.ns.length L.c3, .slice L.p4 d.ss.length L.c4] 26)).heap[w.heap.size]? = _ := heap_alloc_new w _
  have X0 := Lib.hid (((Ext.refl (fun _ => False) w).alloc (.cells #[.slice L.p0 d.ws.length L.c0, .slice L.p1 d.ms.length L.c1, .slice L.p2 d.ls.length L.c2, .slice L.p3 d.ns.length L.c3, .slice L.p4 d.ss.length L.c4] 26)))
  have HB := Lib.hid hb
  have CL := Lib.hid (large_any _ L d (R.out.on X0.out))
  clear hb
  have hq : ∀ W, (binOp .neq 72 (.agg #[.int .i64 0, .int .i64 0, .int .i64 0]) (.agg #[.int .i64 0, .int .i64 0, .int .i64 0])).run Try.prog W = .ok (.bool false) W := fun W => by kernel_rfl
  cases hL : large d with
  | true =>
    rw [hL] at CL
    have G := Lib.hid (show good d = false from by unfold good; rw [hL]; rfl)
    clear hL
    go_enter Try.func11, Try.ntmps11
    go_wp2_with fail
    refine CL.out.mono ?_
    rintro e W1 ⟨rfl, hx⟩
    have X1 := Lib.hid (X0.out.trans hx (fun _ _ h => h))
    clear hx
    go_wp2_with fail
    go_ret3
    exact ⟨X1.out, .inl ⟨G.out, rfl⟩⟩
  | false =>
    rw [hL] at CL
    have HL := Lib.hid hL
    clear hL
    go_enter Try.func11, Try.ntmps11
    go_wp2_with fail
    refine CL.out.mono ?_
    rintro e W1 ⟨rfl, hx⟩
    have X1 := Lib.hid (X0.out.trans hx (fun _ _ h => h))
    have B1 := Lib.hid (hx.obj HB.out (fun h => h))
    have e0 := blk_cell B1.out 0
    have e1 := blk_cell B1.out 1
    have e2 := blk_cell B1.out 2
    have e3 := blk_cell B1.out 3
    have e4 := blk_cell B1.out 4
    simp at e0 e1 e2 e3 e4
    clear hx CL
    have CN := Lib.hid (new5_any W1 L d (R.out.on X1.out))
    go_wp2_with fail
    refine CN.out.mono ?_
    rintro e W2 ⟨hx, ⟨hy, rfl⟩ | ⟨hy, a, rfl, hM, hnew⟩⟩
    · have X2 := Lib.hid (X1.out.trans hx (fun _ _ h => h))
      have B2 := Lib.hid (hx.obj B1.out (fun h => h))
      obtain ⟨y, hy1⟩ : ∃ y, (check5 d).1 = y := ⟨_, rfl⟩
      obtain ⟨l, hl1⟩ : ∃ y, (check5 d).2.1 = y := ⟨_, rfl⟩
      obtain ⟨r, hr1⟩ : ∃ y, (check5 d).2.2 = y := ⟨_, rfl⟩
      rw [hy1] at hy ⊢
      rw [hl1, hr1]
      have HY := Lib.hid (And.intro hy1 (And.intro hl1 hr1))
      have G := Lib.hid (show good d = false from by unfold good; rw [hy1, decide_eq_false hy]; simp)
      have hne : (y != 0) = true := by simpa using hy
      have l2 := blk_lt B2.out
      clear hx hy1 hl1 hr1 e0 e1 e2 e3 e4 CN hy
      have e0 := blk_cell B2.out 0
      have e1 := blk_cell B2.out 1
      have e2 := blk_cell B2.out 2
      have e3 := blk_cell B2.out 3
      have e4 := blk_cell B2.out 4
      simp at e0 e1 e2 e3 e4
      go_wp2_with fail
      obtain ⟨W3, hW3⟩ : ∃ W3, W2.alloc (.cells #[.int .i64 y, .int .i64 l, .int .i64 r] 72) = W3 := ⟨_, rfl⟩
      have X3 := Lib.hid (show Ext (fun _ => False) w W3 from by rw [← hW3]; exact X2.out.alloc _)
      have F3 := Lib.hid (show W3.heap[W2.heap.size]? = some (.cells #[.int .i64 y, .int .i64 l, .int .i64 r] 72 (0, 0)) from by rw [← hW3]; exact heap_alloc_new _ _)
      rw [hW3]
      clear hW3 e0 e1 e2 e3 e4
      have CC := Lib.hid (ref5check_any W3 L d (R.out.on X3.out))
      refine CC.out.mono ?_
      rintro e W4 ⟨rfl, hx⟩
      have X4 := Lib.hid (X3.out.trans hx (fun _ _ h => h))
      have F4 := Lib.hid (hx.obj F3.out (fun h => h))
      rw [HY.out.1, HY.out.2.1, HY.out.2.2]
      clear hx CC
      have l4 := blk_lt F4.out
      have f0 := blk_cell F4.out 0
      have f1 := blk_cell F4.out 1
      have f2 := blk_cell F4.out 2
      simp at f0 f1 f2
      go_wp2_with fail
      go_quiet (fail)
      go_wp2_with fail
      go_ret3
      exact ⟨(X4.out.alloc _).drewN _, .inl ⟨G.out, rfl⟩⟩
    · have X2 := Lib.hid (X1.out.trans hx (fun _ _ h => h))
      have B2 := Lib.hid (hx.obj B1.out (fun h => h))
      have HY := Lib.hid hy
      have G := Lib.hid (show good d = true from by unfold good; rw [HL.out, hy]; simp)
      have M2 := Lib.hid hM
      have NW := Lib.hid (show w.heap.size ≤ a from by have := X1.out.size; omega)
      have l2 := blk_lt B2.out
      clear hx hy hM hnew e0 e1 e2 e3 e4 CN
      have e0 := blk_cell B2.out 0
      have e1 := blk_cell B2.out 1
      have e2 := blk_cell B2.out 2
      have e3 := blk_cell B2.out 3
      have e4 := blk_cell B2.out 4
      simp at e0 e1 e2 e3 e4
      go_wp2_with fail
      obtain ⟨W3, hW3⟩ : ∃ W3, W2.alloc (.cells #[.int .i64 0, .int .i64 0, .int .i64 0] 72) = W3 := ⟨_, rfl⟩
      have X23 : Ext (fun _ => False) W2 W3 := by rw [← hW3]; exact (Ext.refl _ _).alloc _
      have X3 := Lib.hid (X2.out.trans X23 (fun _ _ h => h))
      have M3 := Lib.hid (M2.out.on X23)
      have F3 := Lib.hid (show W3.heap[W2.heap.size]? = some (.cells #[.int .i64 0, .int .i64 0, .int .i64 0] 72 (0, 0)) from by rw [← hW3]; exact heap_alloc_new _ _)
      rw [hW3]
      clear hW3 e0 e1 e2 e3 e4 X23
      have CC := Lib.hid (ref5check_any W3 L d (R.out.on X3.out))
      refine CC.out.mono ?_
      rintro e W4 ⟨rfl, hx⟩
      have X4 := Lib.hid (X3.out.trans hx (fun _ _ h => h))
      have F4 := Lib.hid (hx.obj F3.out (fun h => h))
      have M4 := Lib.hid (M3.out.on hx)
      rw [HY.out]
      clear hx CC
      have l4 := blk_lt F4.out
      have f0 := blk_cell F4.out 0
      have f1 := blk_cell F4.out 1
      have f2 := blk_cell F4.out 2
      simp at f0 f1 f2
      go_wp2_with fail
      go_ret3
      exact ⟨X4.out.alloc _, .inr ⟨G.out, a, rfl, M4.out.on ((Ext.refl _ _).alloc _), NW.out⟩⟩
end Go.Proofs.Ytbepmbihonnkaaa.Sl

/- tesserabook.House: the small model. -/
namespace Go.Proofs.Ytbepmbihonnkaaa.Sl
open Go.Proofs.Ytbepmbihonnkaaa.Lib
open Go.RowKit
set_option linter.unusedVariables false
set_option linter.unusedSimpArgs false

def houseDat : Dat :=
  ⟨[⟨#[97, 98]⟩, ⟨#[32, 97]⟩, ⟨#[116, 104]⟩, ⟨#[116, 104, 101]⟩, ⟨#[104, 101]⟩, ⟨#[195, 169]⟩],
   [⟨97, 98, 256⟩, ⟨32, 97, 257⟩, ⟨116, 104, 258⟩, ⟨258, 101, 259⟩, ⟨104, 101, 260⟩, ⟨195, 169, 261⟩],
   [⟨97, 122⟩, ⟨233, 233⟩], [⟨48, 57⟩], [⟨9, 10⟩, ⟨32, 32⟩]⟩
theorem house_good : good houseDat = true := by decide +kernel
/-- A literal's row is read. -/
theorem Rd.lit {α : Type} {E : En α} {w : World} {b t : Nat} {l : List α} {fr : Nat × Nat} (h : w.heap[b]? = some (.cells (flat E l).toArray t fr)) : Rd E w (some ⟨b, 0, none⟩) l := by
  intro i x hi
  refine ⟨b, 0, rfl, blk_lt h, fun j hj => ?_⟩
  rw [Nat.zero_add, blk_cell h]
  simp only [List.getElem?_toArray]
  exact flat_get E hi j hj
theorem alloc_at (w : World) (o : Obj) (k : Nat) (h : k = w.heap.size) : (w.alloc o).heap[k]? = some o := by subst h; exact heap_alloc_new w o
def HouseEnd (w : World) (e : Ending) (w' : World) : Prop := ∃ L : Pl, e = .returned (.agg #[.slice L.p0 houseDat.ws.length L.c0, .slice L.p1 houseDat.ms.length L.c1, .slice L.p2 houseDat.ls.length L.c2, .slice L.p3 houseDat.ns.length L.c3, .slice L.p4 houseDat.ss.length L.c4]) ∧ DR w' L houseDat ∧ Ext (fun _ => False) w w'

set_option maxRecDepth 100000 in
set_option maxHeartbeats 1000000 in
theorem house_any (w : World) : Calls Try.prog 24 #[] w fun e w' => HouseEnd w e w' := by
  go_enter Try.func24, Try.ntmps24
  go_wp2_with fail
  refine bodyPost_ret (v := .agg #[.slice (Pl.mk (some ⟨w.heap.size + 1, 0, none⟩) 6 (some ⟨w.heap.size + 1 + 1, 0, none⟩) 6 (some ⟨w.heap.size + 1 + 1 + 1, 0, none⟩) 2 (some ⟨w.heap.size + 1 + 1 + 1 + 1, 0, none⟩) 1 (some ⟨w.heap.size + 1 + 1 + 1 + 1 + 1, 0, none⟩) 2).p0 houseDat.ws.length (Pl.mk (some ⟨w.heap.size + 1, 0, none⟩) 6 (some ⟨w.heap.size + 1 + 1, 0, none⟩) 6 (some ⟨w.heap.size + 1 + 1 + 1, 0, none⟩) 2 (some ⟨w.heap.size + 1 + 1 + 1 + 1, 0, none⟩) 1 (some ⟨w.heap.size + 1 + 1 + 1 + 1 + 1, 0, none⟩) 2).c0, .slice (Pl.mk (some ⟨w.heap.size + 1, 0, none⟩) 6 (some ⟨w.heap.size + 1 + 1, 0, none⟩) 6 (some ⟨w.heap.size + 1 + 1 + 1, 0, none⟩) 2 (some ⟨w.heap.size + 1 + 1 + 1 + 1, 0, none⟩) 1 (some ⟨w.heap.size + 1 + 1 + 1 + 1 + 1, 0, none⟩) 2).p1 houseDat.ms.length (Pl.mk (some ⟨w.heap.size + 1, 0, none⟩) 6 (some ⟨w.heap.size + 1 + 1, 0, none⟩) 6 (some ⟨w.heap.size + 1 + 1 + 1, 0, none⟩) 2 (some ⟨w.heap.size + 1 + 1 + 1 + 1, 0, none⟩) 1 (some ⟨w.heap.size + 1 + 1 + 1 + 1 + 1, 0, none⟩) 2).c1, .slice (Pl.mk (some ⟨w.heap.size + 1, 0, none⟩) 6 (some ⟨w.heap.size + 1 + 1, 0, none⟩) 6 (some ⟨w.heap.size + 1 + 1 + 1, 0, none⟩) 2 (some ⟨w.heap.size + 1 + 1 + 1 + 1, 0, none⟩) 1 (some ⟨w.heap.size + 1 + 1 + 1 + 1 + 1, 0, none⟩) 2).p2 houseDat.ls.length (Pl.mk (some ⟨w.heap.size + 1, 0, none⟩) 6 (some ⟨w.heap.size + 1 + 1, 0, none⟩) 6 (some ⟨w.heap.size + 1 + 1 + 1, 0, none⟩) 2 (some ⟨w.heap.size + 1 + 1 + 1 + 1, 0, none⟩) 1 (some ⟨w.heap.size + 1 + 1 + 1 + 1 + 1, 0, none⟩) 2).c2, .slice (Pl.mk (some ⟨w.heap.size + 1, 0, none⟩) 6 (some ⟨w.heap.size + 1 + 1, 0, none⟩) 6 (some ⟨w.heap.size + 1 + 1 + 1, 0, none⟩) 2 (some ⟨w.heap.size + 1 + 1 + 1 + 1, 0, none⟩) 1 (some ⟨w.heap.size + 1 + 1 + 1 + 1 + 1, 0, none⟩) 2).p3 houseDat.ns.length (Pl.mk (some ⟨w.heap.size + 1, 0, none⟩) 6 (some ⟨w.heap.size + 1 + 1, 0, none⟩) 6 (some ⟨w.heap.size + 1 + 1 + 1, 0, none⟩) 2 (some ⟨w.heap.size + 1 + 1 + 1 + 1, 0, none⟩) 1 (some ⟨w.heap.size + 1 + 1 + 1 + 1 + 1, 0, none⟩) 2).c3, .slice (Pl.mk (some ⟨w.heap.size + 1, 0, none⟩) 6 (some ⟨w.heap.size + 1 + 1, 0, none⟩) 6 (some ⟨w.heap.size + 1 + 1 + 1, 0, none⟩) 2 (some ⟨w.heap.size + 1 + 1 + 1 + 1, 0, none⟩) 1 (some ⟨w.heap.size + 1 + 1 + 1 + 1 + 1, 0, none⟩) 2).p4 houseDat.ss.length (Pl.mk (some ⟨w.heap.size + 1, 0, none⟩) 6 (some ⟨w.heap.size + 1 + 1, 0, none⟩) 6 (some ⟨w.heap.size + 1 + 1 + 1, 0, none⟩) 2 (some ⟨w.heap.size + 1 + 1 + 1 + 1, 0, none⟩) 1 (some ⟨w.heap.size + 1 + 1 + 1 + 1 + 1, 0, none⟩) 2).c4]) (by simp [results, Try.f24, go_sem, houseDat]) rfl ⟨_, rfl, ?_, ?_⟩
  · refine ⟨Rd.lit (t := 9) (fr := (0, 0)) ?_, Rd.lit (t := 35) (fr := (0, 0)) ?_, Rd.lit (t := 94) (fr := (0, 0)) ?_, Rd.lit (t := 94) (fr := (0, 0)) ?_, Rd.lit (t := 94) (fr := (0, 0)) ?_, Nat.le_refl 6, Nat.le_refl 6, Nat.le_refl 2, Nat.le_refl 1, Nat.le_refl 2, by decide, by decide, by decide, by decide, by decide, ?_, ?_⟩
    · exact blk_alloc (blk_alloc (blk_alloc (blk_alloc (alloc_at _ _ _ (by simp)) _) _) _) _
    · exact blk_alloc (blk_alloc (blk_alloc (alloc_at _ _ _ (by simp)) _) _) _
    · exact blk_alloc (blk_alloc (alloc_at _ _ _ (by simp)) _) _
    · exact blk_alloc (alloc_at _ _ _ (by simp)) _
    · exact alloc_at _ _ _ (by simp)
    · intro s hs
      simp [houseDat] at hs
      rcases hs with rfl | rfl | rfl | rfl | rfl | rfl <;> decide
    · intro x hx
      simp [houseDat] at hx
      unfold inI
      rcases hx with rfl | rfl | rfl | rfl | rfl | rfl <;> simp
  · exact ((((((Ext.refl _ w).alloc _).alloc _).alloc _).alloc _).alloc _).alloc _
end Go.Proofs.Ytbepmbihonnkaaa.Sl

/- Right models, pure: what follows of 'check5 d' being all right. -/
namespace Go.Proofs.Ytbepmbihonnkaaa.Sl
open Go.Proofs.Ytbepmbihonnkaaa.Lib
set_option linter.unusedVariables false
set_option linter.unusedSimpArgs false

theorem pairsGo_zero {ws : List ByteArray} {i : Nat} {done t : List Mrg} (h : (pairsGo ws i done t).2 = 0) : ∀ (j : Nat) (x : Mrg), t[j]? = some x → badM ws (done ++ t.take j) x = 0 := by
  induction t generalizing i done with
  | nil => intro j x hj; simp at hj
  | cons y t ih =>
    unfold pairsGo at h
    by_cases hb : badM ws done y = 0
    · rw [if_pos hb] at h
      intro j x hj
      cases j with
      | zero => simp at hj; subst hj; simpa using hb
      | succ j =>
        have := ih h j x (by simpa using hj)
        simpa using this
    · rw [if_neg hb] at h
      exact absurd h hb
theorem wordsGo_zero {i : Nat} {seen t : List ByteArray} (h : (wordsGo i seen t).2 = 0) : ∀ (j : Nat) (s : ByteArray), t[j]? = some s → 2 ≤ s.size ∧ s.size ≤ 256 ∧ s ∉ seen ++ t.take j := by
  induction t generalizing i seen with
  | nil => intro j x hj; simp at hj
  | cons y t ih =>
    unfold wordsGo at h
    by_cases h1 : y.size < 2 ∨ 256 < y.size
    · rw [if_pos h1] at h; simp at h
    · rw [if_neg h1] at h
      by_cases h2 : had y seen = true
      · rw [if_pos h2] at h; simp at h
      · rw [if_neg h2] at h
        intro j x hj
        cases j with
        | zero =>
          simp at hj
          subst hj
          refine ⟨by omega, by omega, ?_⟩
          simp
          exact fun h => h2 (had_iff.2 h)
        | succ j =>
          have := ih h j x (by simpa using hj)
          simpa using this
/-- A right model's data (of no more than 4096 merges). -/
structure RightD (d : Dat) : Prop where
  len : d.ws.length = d.ms.length
  few : d.ms.length ≤ 4096
  words : ∀ (j : Nat) (s : ByteArray), d.ws[j]? = some s → 2 ≤ s.size ∧ s.size ≤ 256 ∧ s ∉ d.ws.take j
  idr : ∀ (k : Nat) (x : Mrg), d.ms[k]? = some x → 256 ≤ x.i ∧ x.i < 256 + (d.ms.length : Int)
  idn : ∀ (k : Nat) (x : Mrg), d.ms[k]? = some x → isId (d.ms.take k) x.i = false
  pl : ∀ (k : Nat) (x : Mrg), d.ms[k]? = some x → madeB (d.ms.take k) x.l = true
  pr : ∀ (k : Nat) (x : Mrg), d.ms[k]? = some x → madeB (d.ms.take k) x.r = true
  wd : ∀ (k : Nat) (x : Mrg), d.ms[k]? = some x → (wordOf d.ws x.i).1 = (wordOf d.ws x.l).1 ++ (wordOf d.ws x.r).1
  pn : ∀ (k : Nat) (x : Mrg), d.ms[k]? = some x → hasPair (d.ms.take k) x.l x.r = false
theorem badM_zero {ws : List ByteArray} {done : List Mrg} {x : Mrg} (h : badM ws done x = 0) : 256 ≤ x.i ∧ x.i < 256 + (ws.length : Int) ∧ isId done x.i = false ∧ madeB done x.l = true ∧ madeB done x.r = true ∧ (wordOf ws x.i).1 = (wordOf ws x.l).1 ++ (wordOf ws x.r).1 ∧ hasPair done x.l x.r = false := by
  unfold badM at h
  by_cases h1 : x.i < 256 ∨ 256 + (ws.length : Int) ≤ x.i ∨ isId done x.i = true
  · rw [if_pos h1] at h; simp at h
  rw [if_neg h1] at h
  by_cases h2 : madeB done x.l = false ∨ madeB done x.r = false
  · rw [if_pos h2] at h; simp at h
  rw [if_neg h2] at h
  by_cases h3 : (wordOf ws x.i).1 ≠ (wordOf ws x.l).1 ++ (wordOf ws x.r).1
  · rw [if_pos h3] at h; simp at h
  rw [if_neg h3] at h
  by_cases h4 : hasPair done x.l x.r = true
  · rw [if_pos h4] at h; simp at h
  refine ⟨by omega, by omega, ?_, ?_, ?_, Decidable.not_not.1 h3, by simpa using h4⟩
  · cases e : isId done x.i
    · rfl
    · exact absurd (.inr (.inr e)) h1
  · cases e : madeB done x.l
    · exact absurd (.inl e) h2
    · rfl
  · cases e : madeB done x.r
    · exact absurd (.inr e) h2
    · rfl
theorem RightD.of_good {d : Dat} (h : good d = true) : RightD d := by
  unfold good at h
  rw [Bool.and_eq_true] at h
  have hc := of_decide_eq_true h.2
  unfold check5 at hc
  by_cases h1 : 4096 < d.ms.length
  · rw [if_pos h1] at hc; simp at hc
  rw [if_neg h1] at hc
  by_cases h2 : d.ws.length ≠ d.ms.length
  · rw [if_pos h2] at hc; simp at hc
  rw [if_neg h2] at hc
  by_cases h3 : (check4 d.ls d.ns d.ss).1 ≠ 0
  · rw [if_pos h3] at hc; exact absurd hc h3
  rw [if_neg h3] at hc
  by_cases h4 : (wordsGo 0 [] d.ws).2 ≠ 0
  · rw [if_pos h4] at hc; exact absurd hc h4
  rw [if_neg h4] at hc
  by_cases h5 : (pairsGo d.ws 0 [] d.ms).2 ≠ 0
  · rw [if_pos h5] at hc; exact absurd hc h5
  have hl : d.ws.length = d.ms.length := Decidable.not_not.1 h2
  have P : ∀ (k : Nat) (x : Mrg), d.ms[k]? = some x → _ := fun k x hk => badM_zero (by
    have := pairsGo_zero (Decidable.not_not.1 h5) k x hk
    rwa [List.nil_append] at this)
  have W : ∀ (k : Nat) (x : ByteArray), d.ws[k]? = some x → _ := fun k x hk => wordsGo_zero (Decidable.not_not.1 h4) k x hk
  exact ⟨hl, by omega, fun k x hk => by have := W k x hk; rwa [List.nil_append] at this, fun k x hk => by have := P k x hk; omega, fun k x hk => (P k x hk).2.2.1, fun k x hk => (P k x hk).2.2.2.1, fun k x hk => (P k x hk).2.2.2.2.1, fun k x hk => (P k x hk).2.2.2.2.2.1, fun k x hk => (P k x hk).2.2.2.2.2.2⟩
theorem good_few {d : Dat} (h : good d = true) : d.ms.length ≤ 300 := by
  have h1 := (RightD.of_good h).few
  unfold good large at h
  rw [Bool.and_eq_true] at h
  have := h.1
  simp at this
  omega

/-! ### each id is made once -/
theorem isId_iff {l : List Mrg} {id : Int} : isId l id = true ↔ ∃ (j : Nat) (x : Mrg), l[j]? = some x ∧ x.i = id := by
  unfold isId
  rw [List.any_eq_true]
  constructor
  · rintro ⟨x, hx, h⟩
    obtain ⟨j, hj, rfl⟩ := List.getElem_of_mem hx
    exact ⟨j, _, List.getElem?_eq_getElem hj, of_decide_eq_true h⟩
  · rintro ⟨j, x, hx, rfl⟩
    exact ⟨x, List.mem_of_getElem? hx, by simp⟩
theorem RightD.id_inj {d : Dat} (h : RightD d) {j k : Nat} {x y : Mrg} (hj : d.ms[j]? = some x) (hk : d.ms[k]? = some y) (e : x.i = y.i) : j = k := by
  have key : ∀ {j k : Nat} {x y : Mrg}, d.ms[j]? = some x → d.ms[k]? = some y → x.i = y.i → ¬ j < k := by
    intro j k x y hj hk e hlt
    have := h.idn k y hk
    have : isId (d.ms.take k) y.i = true := isId_iff.2 ⟨j, x, by rw [List.getElem?_take, if_pos hlt]; exact hj, e⟩
    simp_all
  have h1 := key hj hk e
  have h2 := key hk hj e.symm
  omega
theorem nodup_len {n : Nat} : ∀ {l : List Nat}, l.Nodup → (∀ x ∈ l, x < n) → l.length ≤ n := by
  induction n with
  | zero =>
    intro l _ h
    cases l with
    | nil => simp
    | cons x l => exact absurd (h x (by simp)) (Nat.not_lt_zero _)
  | succ n ih =>
    intro l hn h
    by_cases hm : n ∈ l
    · have hn2 := hn.erase n
      have := ih hn2 (fun x hx => by
        have h1 := h x (List.mem_of_mem_erase hx)
        have h2 : x ≠ n := fun e => by subst e; exact (List.Nodup.not_mem_erase hn) hx
        omega)
      rw [List.length_erase_of_mem hm] at this
      omega
    · have := ih hn (fun x hx => by
        have h1 := h x hx
        have h2 : x ≠ n := fun e => hm (e ▸ hx)
        omega)
      omega
theorem nodup_full {n : Nat} {l : List Nat} (hn : l.Nodup) (h : ∀ x ∈ l, x < n) (hl : l.length = n) (j : Nat) (hj : j < n) : j ∈ l := by
  apply Decidable.byContradiction
  intro hm
  have := nodup_len (n := n) (l := j :: l) (List.nodup_cons.2 ⟨hm, hn⟩) (fun x hx => by
    rcases List.mem_cons.1 hx with rfl | hx
    · exact hj
    · exact h x hx)
  simp at this
  omega
/-- Each id from 256 on is made by a merge. -/
theorem RightD.made {d : Dat} (h : RightD d) {id : Int} (h0 : 256 ≤ id) (h1 : id < 256 + (d.ms.length : Int)) : ∃ (k : Nat) (x : Mrg), d.ms[k]? = some x ∧ x.i = id := by
  have hnd : (d.ms.map fun x => (x.i - 256).toNat).Nodup := by
    rw [List.Nodup, List.pairwise_map, List.pairwise_iff_getElem]
    intro i j hi hj hij e
    have r1 := h.idr i _ (List.getElem?_eq_getElem hi)
    have r2 := h.idr j _ (List.getElem?_eq_getElem hj)
    have := h.id_inj (List.getElem?_eq_getElem hi) (List.getElem?_eq_getElem hj) (by omega)
    omega
  have := nodup_full (n := d.ms.length) hnd (fun x hx => by
    obtain ⟨y, hy, rfl⟩ := List.mem_map.1 hx
    obtain ⟨j, hj, rfl⟩ := List.getElem_of_mem hy
    have := h.idr j _ (List.getElem?_eq_getElem hj)
    omega) (by simp) (id - 256).toNat (by omega)
  obtain ⟨y, hy, e⟩ := List.mem_map.1 this
  obtain ⟨j, hj, rfl⟩ := List.getElem_of_mem hy
  have := h.idr j _ (List.getElem?_eq_getElem hj)
  exact ⟨j, _, List.getElem?_eq_getElem hj, by omega⟩
/-- A part is a byte, or made by an earlier merge. -/
theorem part_cases {l : List Mrg} {k : Nat} {id : Int} (h : madeB (l.take k) id = true) : (0 ≤ id ∧ id < 256) ∨ ∃ (j : Nat) (x : Mrg), j < k ∧ l[j]? = some x ∧ x.i = id := by
  unfold madeB at h
  rw [Bool.or_eq_true, Bool.and_eq_true, Bool.and_eq_true] at h
  rcases h with h | h
  · exact .inl ⟨of_decide_eq_true h.1, of_decide_eq_true h.2⟩
  · obtain ⟨j, x, hj, e⟩ := isId_iff.1 h.2
    rw [List.getElem?_take] at hj
    split at hj
    · rename_i hlt
      exact .inr ⟨j, x, hlt, hj, e⟩
    · cases hj
theorem RightD.part_range {d : Dat} (h : RightD d) {k : Nat} {id : Int} (hm : madeB (d.ms.take k) id = true) : 0 ≤ id ∧ id < 256 + (d.ms.length : Int) := by
  rcases part_cases hm with h1 | ⟨j, x, _, hj, rfl⟩
  · omega
  · have := h.idr j x hj; omega
/-- Which merge makes an id. -/
def rankOf (ms : List Mrg) (id : Int) : Option Nat := ms.findIdx? fun x => decide (x.i = id)
theorem rankOf_some {ms : List Mrg} {id : Int} {k : Nat} (h : rankOf ms id = some k) : ∃ x : Mrg, ms[k]? = some x ∧ x.i = id ∧ k < ms.length := by
  unfold rankOf at h
  rw [List.findIdx?_eq_some_iff_getElem] at h
  obtain ⟨hk, hp, _⟩ := h
  exact ⟨ms[k], List.getElem?_eq_getElem hk, of_decide_eq_true hp, hk⟩
theorem rankOf_none {ms : List Mrg} {id : Int} (h : rankOf ms id = none) : ∀ (k : Nat) (x : Mrg), ms[k]? = some x → x.i ≠ id := by
  unfold rankOf at h
  rw [List.findIdx?_eq_none_iff] at h
  intro k x hk
  have := h x (List.mem_of_getElem? hk)
  simpa using this
theorem RightD.rank_at {d : Dat} (h : RightD d) {k : Nat} {x : Mrg} (hk : d.ms[k]? = some x) : rankOf d.ms x.i = some k := by
  cases e : rankOf d.ms x.i with
  | none => exact absurd rfl (rankOf_none e k x hk)
  | some j =>
    obtain ⟨y, hy, e2, _⟩ := rankOf_some e
    rw [h.id_inj hy hk e2]
theorem RightD.rank_ex {d : Dat} (h : RightD d) {id : Int} (h0 : 256 ≤ id) (h1 : id < 256 + (d.ms.length : Int)) : ∃ (k : Nat) (x : Mrg), rankOf d.ms id = some k ∧ d.ms[k]? = some x ∧ x.i = id ∧ k < d.ms.length := by
  obtain ⟨k, x, hk, e⟩ := h.made h0 h1
  exact ⟨k, x, by rw [← e]; exact h.rank_at hk, hk, e, (List.getElem?_eq_some_iff.1 hk).1⟩
theorem RightD.rank_low {d : Dat} (h : RightD d) {id : Int} (h0 : id < 256 ∨ 256 + (d.ms.length : Int) ≤ id) : rankOf d.ms id = none := by
  cases e : rankOf d.ms id with
  | none => rfl
  | some k =>
    obtain ⟨x, hx, e2, _⟩ := rankOf_some e
    have := h.idr k x hx
    omega
end Go.Proofs.Ytbepmbihonnkaaa.Sl
