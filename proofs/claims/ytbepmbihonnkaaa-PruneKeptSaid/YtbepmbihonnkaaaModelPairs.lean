/- model.pairs checks the merges. -/
import Derived.Test.YtbepmbihonnkaaaModelWords
import Derived.StillTailTactics
import Derived.Deep.LoopGhost
namespace Go.Proofs.Ytbepmbihonnkaaa.Sl
open Go.Proofs.Ytbepmbihonnkaaa.Lib
open Go.RowKit
set_option linter.unusedVariables false
set_option linter.unusedSimpArgs false

def isId (done : List Mrg) (id : Int) : Bool := done.any fun y => decide (y.i = id)
def madeB (done : List Mrg) (id : Int) : Bool := (decide (0 ≤ id) && decide (id < 256)) || (decide (256 ≤ id) && isId done id)
def hasPair (done : List Mrg) (l r : Int) : Bool := done.any fun y => decide (y.l = l) && decide (y.r = r)
/-- What is wrong with a merge behind others. -/
def badM (ws : List ByteArray) (done : List Mrg) (x : Mrg) : Int :=
  if x.i < 256 ∨ 256 + (ws.length : Int) ≤ x.i ∨ isId done x.i = true then 24
  else if madeB done x.l = false ∨ madeB done x.r = false then 23
  else if (wordOf ws x.i).1 ≠ (wordOf ws x.l).1 ++ (wordOf ws x.r).1 then 25
  else if hasPair done x.l x.r = true then 22 else 0
def pairsGo (ws : List ByteArray) : Nat → List Mrg → List Mrg → Int × Int
  | _, _, [] => (0, 0)
  | i, done, x :: t => if badM ws done x = 0 then pairsGo ws (i + 1) (done ++ [x]) t else ((i : Int), badM ws done x)
def mkB (n : Nat) (done : List Mrg) : List Value := (List.range n).map fun (j : Nat) => Value.bool (isId done (256 + (j : Int)))
theorem mkB_length (n : Nat) (done : List Mrg) : (mkB n done).length = n := by simp [mkB]
theorem mkB_get (n : Nat) (done : List Mrg) (j : Nat) (h : j < n) : (mkB n done)[j]? = some (.bool (isId done (256 + (j : Int)))) := by simp [mkB, h]
theorem mkB_nil (n : Nat) : mkB n [] = List.replicate n (.bool false) := by
  apply List.ext_getElem?
  intro i
  by_cases hi : i < n
  · rw [mkB_get n [] i hi]; simp [hi, isId]
  · rw [List.getElem?_eq_none (by rw [mkB_length]; omega), List.getElem?_eq_none (by simp; omega)]
theorem mkB_set (n : Nat) (done : List Mrg) (x : Mrg) (j : Nat) (hj : j < n) (hx : x.i = 256 + (j : Int)) : (mkB n done).set j (.bool true) = mkB n (done ++ [x]) := by
  apply List.ext_getElem?
  intro i
  rw [List.getElem?_set, mkB_length]
  by_cases hi : i < n
  · rw [mkB_get n _ i hi, mkB_get n _ i hi]
    by_cases e : j = i
    · subst e
      rw [if_pos rfl, if_pos hi]
      simp [isId, hx]
    · rw [if_neg e]
      have : ¬ (x.i = 256 + (i : Int)) := by omega
      simp [isId, this]
  · rw [if_neg (by omega), List.getElem?_eq_none (by rw [mkB_length]; omega), List.getElem?_eq_none (by rw [mkB_length]; omega)]
def entsM : Nat → List Mrg → List (Value × Value)
  | _, [] => []
  | i, x :: t => (.agg #[.int .i64 x.l, .int .i64 x.r], .agg #[.int .i64 (i : Int), .int .i64 x.i]) :: entsM (i + 1) t
theorem entsM_snoc (i : Nat) (l : List Mrg) (x : Mrg) : entsM i (l ++ [x]) = entsM i l ++ [(.agg #[.int .i64 x.l, .int .i64 x.r], .agg #[.int .i64 ((i + l.length : Nat) : Int), .int .i64 x.i])] := by
  induction l generalizing i with
  | nil => rfl
  | cons y l ih => simp only [List.cons_append, entsM, ih, List.length_cons]; rw [show i + 1 + l.length = i + (l.length + 1) by omega]
theorem entsM_mem {i : Nat} {l : List Mrg} {p : Value × Value} (h : p ∈ entsM i l) : ∃ j x, l[j]? = some x ∧ p = (.agg #[.int .i64 x.l, .int .i64 x.r], .agg #[.int .i64 ((i + j : Nat) : Int), .int .i64 x.i]) := by
  induction l generalizing i with
  | nil => cases h
  | cons x l ih =>
    rcases List.mem_cons.1 h with rfl | h
    · exact ⟨0, x, by simp, rfl⟩
    · obtain ⟨j, y, hy, e⟩ := ih h
      exact ⟨j + 1, y, by simpa using hy, by rw [e, show i + 1 + j = i + (j + 1) by omega]⟩
theorem entsM_has {i : Nat} {l : List Mrg} {x y : Int} (h : hasPair l x y = true) : ∃ p ∈ entsM i l, p.1 = .agg #[.int .i64 x, .int .i64 y] := by
  induction l generalizing i with
  | nil => cases h
  | cons z l ih =>
    unfold hasPair at h
    rw [List.any_cons, Bool.or_eq_true] at h
    rcases h with h | h
    · simp at h
      exact ⟨_, List.mem_cons_self, by rw [h.1, h.2]⟩
    · obtain ⟨p, hp, e⟩ := ih (i := i + 1) h
      exact ⟨p, List.mem_cons_of_mem _ hp, e⟩

set_option maxRecDepth 100000 in
set_option maxHeartbeats 1000000 in
theorem part_any (w : World) (b0 b1 b2 a n c : Nat) (p : Option Addr) (done : List Mrg) (id : Int) (h0 : w.cell? ⟨b0, 0, none⟩ = some (.pointer (some ⟨a, 0, none⟩))) (h1 : w.cell? ⟨a, 0, none⟩ = some (.slice p n c)) (h2 : w.cell? ⟨b2, 0, none⟩ = some (.slice (some ⟨b1, 0, none⟩) n n))
    (h3 : Arr w 4 1 (some ⟨b1, 0, none⟩) n n (mkB n done)) (hin : ∀ y ∈ done, 256 ≤ y.i ∧ y.i < 256 + (n : Int)) (hn : n ≤ 140737488351232) :
    Calls Try.prog 77 #[.int .i64 id, .pointer (some ⟨b0, 0, none⟩), .pointer (some ⟨b2, 0, none⟩)] w fun e w' => e = .returned (.bool (madeB done id)) ∧ w = w' := by
  have SZ := Lib.hid (size_any w a p n c h1 hn)
  have H3 := Lib.hid h3
  have HIN := Lib.hid hin
  clear h1 h3 hin
  by_cases k0 : id < 0
  · have E := Lib.hid (show madeB done id = false by unfold madeB; rw [decide_eq_false (show ¬ 0 ≤ id by omega), decide_eq_false (show ¬ 256 ≤ id by omega)]; rfl)
    have d0 : decide (id ≥ 0) = false := decide_eq_false (by omega)
    have d1 : decide (id ≥ 256) = false := decide_eq_false (by omega)
    go_enter Try.func77, Try.ntmps77
    go_wp2_with fail
    go_ret
    exact ⟨by rw [E.out]; rfl, rfl⟩
  · have d0 : decide (id ≥ 0) = true := decide_eq_true (by omega)
    by_cases k1 : id < 256
    · have E := Lib.hid (show madeB done id = true by unfold madeB; rw [decide_eq_true (show 0 ≤ id by omega), decide_eq_true k1]; rfl)
      have d1 : decide (id < 256) = true := decide_eq_true k1
      go_enter Try.func77, Try.ntmps77
      go_wp2_with fail
      go_ret
      exact ⟨by rw [E.out]; rfl, rfl⟩
    · have d1 : decide (id < 256) = false := decide_eq_false k1
      have d2 : decide (id ≥ 256) = true := decide_eq_true (by omega)
      by_cases k2 : id < 256 + (n : Int)
      · have d3 : decide (id < 256 + (n : Int)) = true := decide_eq_true k2
        obtain ⟨j, hj⟩ : ∃ j : Nat, (id - 256).toNat = j := ⟨_, rfl⟩
        have c0 := (arr_cell H3.out j (by omega)).trans (mkB_get n done j (by omega))
        have E := Lib.hid (show madeB done id = isId done (256 + (j : Int)) by unfold madeB; rw [decide_eq_false k1, decide_eq_true (show 256 ≤ id by omega), Bool.and_false, Bool.false_or, Bool.true_and]; congr 1; omega)
        have i0 : 0 ≤ id - 256 := by omega
        have i1 : id - 256 < (n : Int) := by omega
        generalize isId done (256 + (j : Int)) = v at c0 E
        rw [← hj] at c0
        clear hj
        go_enter Try.func77, Try.ntmps77
        go_wp2_with fail
        refine SZ.out.mono ?_
        rintro e w' ⟨rfl, rfl⟩
        go_wp2_with fail
        go_ret
        exact ⟨by rw [E.out]; rfl, rfl⟩
      · have d3 : decide (id < 256 + (n : Int)) = false := decide_eq_false k2
        have E := Lib.hid (show madeB done id = false by
          unfold madeB
          rw [decide_eq_false k1, Bool.and_false, Bool.false_or]
          have : isId done id = false := by
            unfold isId
            rw [List.any_eq_false]
            intro y hy
            have := HIN.out y hy
            simp; omega
          rw [this, Bool.and_false])
        go_enter Try.func77, Try.ntmps77
        go_wp2_with fail
        refine SZ.out.mono ?_
        rintro e w' ⟨rfl, rfl⟩
        go_wp2_with fail
        go_ret
        exact ⟨by rw [E.out]; rfl, rfl⟩

/-- k merges are looked at, each fit. -/
structure PairsSt (w wr : World) (b2 a : Nat) (L : Pl) (d : Dat) (tp mp : Nat) (lg : Int) (k : Nat) : Prop where
  kl : k ≤ d.ms.length
  eq : pairsGo d.ws 0 [] d.ms = pairsGo d.ws k (d.ms.take k) (d.ms.drop k)
  map : MapAt wr mp (entsM 0 (d.ms.take k))
  row : Arr wr 4 1 (some ⟨w.heap.size + 1, 0, none⟩) d.ws.length d.ws.length (mkB d.ws.length (d.ms.take k))
  ext : Ext (fun k => k = mp) w wr
  q0 : wr.heap[w.heap.size]? = some (.cells #[.pointer (some ⟨a, 0, none⟩)] 28 (0, 0))
  q2 : wr.heap[b2]? = some (.cells #[.slice (some ⟨w.heap.size + 1, 0, none⟩) d.ws.length d.ws.length] 140 (0, 0))
  inr : ∀ y ∈ d.ms.take k, 256 ≤ y.i ∧ y.i < 256 + (d.ws.length : Int)
def PairsEnd (w : World) (d : Dat) (mp : Nat) (e : Ending) (w' : World) : Prop :=
  e = .returned (.tuple #[.int .i64 (pairsGo d.ws 0 [] d.ms).1, .int .i64 (pairsGo d.ws 0 [] d.ms).2]) ∧ Ext (fun k => k = mp) w w' ∧ ((pairsGo d.ws 0 [] d.ms).2 = 0 → MapAt w' mp (entsM 0 d.ms))
theorem PairsSt.bad {w wr W : World} {b2 a : Nat} {L : Pl} {d : Dat} {tp mp k : Nat} {lg : Int} (h : PairsSt w wr b2 a L d tp mp lg k) {x : Mrg} {y : Int} (hs : d.ms[k]? = some x) (hy : y ≠ 0) (hb : badM d.ws (d.ms.take k) x = y) (hx : Ext (fun _ => False) wr W) :
    PairsEnd w d mp (.returned (.tuple #[.int .i64 k, .int .i64 y])) W := by
  have hlt := (List.getElem?_eq_some_iff.1 hs).1
  have e : d.ms.drop k = x :: d.ms.drop (k + 1) := by rw [List.drop_eq_getElem_cons hlt]; congr 1; exact (List.getElem?_eq_some_iff.1 hs).2
  have e2 : pairsGo d.ws 0 [] d.ms = ((k : Int), y) := by rw [h.eq, e, pairsGo, hb, if_neg hy]
  exact ⟨by rw [e2], h.ext.trans hx (fun _ _ h => h.elim), fun h0 => absurd h0 (by rw [e2]; exact hy)⟩
/-- What a round reads. -/
structure PairsRd (w wr W : World) (b2 a : Nat) (L : Pl) (d : Dat) (mp k : Nat) (x : Mrg) : Prop where
  x0 : W.cell? ⟨wr.heap.size, 0, none⟩ = some (.int .i64 x.l)
  x1 : W.cell? ⟨wr.heap.size, 1, none⟩ = some (.int .i64 x.r)
  x2 : W.cell? ⟨wr.heap.size, 2, none⟩ = some (.int .i64 x.i)
  y0 : W.cell? ⟨wr.heap.size + 1, 0, none⟩ = some (.int .i64 x.l)
  y1 : W.cell? ⟨wr.heap.size + 1, 1, none⟩ = some (.int .i64 x.r)
  q0 : W.cell? ⟨w.heap.size, 0, none⟩ = some (.pointer (some ⟨a, 0, none⟩))
  q2 : W.cell? ⟨b2, 0, none⟩ = some (.slice (some ⟨w.heap.size + 1, 0, none⟩) d.ws.length d.ws.length)
  m0 : W.cell? ⟨a, 0, none⟩ = some (.slice L.p0 d.ws.length L.c0)
  m6 : W.cell? ⟨a, 6, none⟩ = some (.map (some mp))
  row : Arr W 4 1 (some ⟨w.heap.size + 1, 0, none⟩) d.ws.length d.ws.length (mkB d.ws.length (d.ms.take k))
  rd : Rd eS W L.p0 d.ws
  ext : Ext (fun _ => False) wr W
  sz : wr.heap.size + 1 < W.heap.size

theorem str_beq (a b : ByteArray) : (a.toList == b.toList) = decide (a = b) := by
  rw [ByteArray.toList_eq, ByteArray.toList_eq]
  by_cases h : a = b
  · subst h; simp
  · have h2 : a.data.toList ≠ b.data.toList := fun e => h (by
      cases a; cases b
      simp at e
      rw [e])
    rw [decide_eq_false h]
    simp only [beq_eq_false_iff_ne]
    exact h2
theorem made1 (v : Value) (n : Nat) (hc : v.cells = #[v]) : (madeCells v.cells n).toList = List.replicate n v := by
  rw [hc]
  apply List.ext_getElem?
  intro i
  by_cases hi : i < n
  · simp [madeCells, hi, Nat.mod_one]
  · rw [List.getElem?_eq_none (by simp [madeCells]; omega), List.getElem?_eq_none (by simp; omega)]
theorem PairsSt.reads {w wr : World} {b2 a : Nat} {L : Pl} {d : Dat} {tp mp k : Nat} {lg : Int} (h : PairsSt w wr b2 a L d tp mp lg k) (H : MB w a L d tp mp lg) (R : DR w L d) (hne : a ≠ mp) (hfar0 : ∀ k, blkOf L.p0 = some k → k ≠ mp) (x : Mrg) {t1 t2 : Nat} :
    PairsRd w wr ((wr.alloc (.cells #[.int .i64 x.l, .int .i64 x.r, .int .i64 x.i] t1)).alloc (.cells #[.int .i64 x.l, .int .i64 x.r] t2)) b2 a L d mp k x := by
  have hx : Ext (fun _ => False) wr ((wr.alloc (.cells #[.int .i64 x.l, .int .i64 x.r, .int .i64 x.i] t1)).alloc (.cells #[.int .i64 x.l, .int .i64 x.r] t2)) := ((Ext.refl _ _).alloc _).alloc _
  have b7 := blk_alloc (heap_alloc_new wr (.cells #[.int .i64 x.l, .int .i64 x.r, .int .i64 x.i] t1)) (.cells #[.int .i64 x.l, .int .i64 x.r] t2)
  have b8 := heap_alloc_new (wr.alloc (.cells #[.int .i64 x.l, .int .i64 x.r, .int .i64 x.i] t1)) (.cells #[.int .i64 x.l, .int .i64 x.r] t2)
  rw [World.size_alloc] at b8
  have hm := (H.on h.ext hne).on hx (fun h => h)
  exact ⟨blk_cell b7 0, blk_cell b7 1, blk_cell b7 2, blk_cell b8 0, blk_cell b8 1, blk_cell (hx.obj h.q0 (fun h => h)) 0, blk_cell (hx.obj h.q2 (fun h => h)) 0, hm.c0, hm.c6, arr_ext h.row hx (fun _ _ h => h), (R.r0.ext h.ext (fun i hi _ hS => hfar0 _ hi hS)).on hx, hx, by simp⟩
theorem PairsRd.on {w wr W W' : World} {b2 a : Nat} {L : Pl} {d : Dat} {mp k : Nat} {x : Mrg} (h : PairsRd w wr W b2 a L d mp k x) (hx : Ext (fun _ => False) W W') : PairsRd w wr W' b2 a L d mp k x := by
  have c : ∀ {p : Addr} {v : Value}, W.cell? p = some v → W'.cell? p = some v := fun {p v} e => (hx.cell (World.block_lt_of_cell? W p e) (fun h => h)).trans e
  exact ⟨c h.x0, c h.x1, c h.x2, c h.y0, c h.y1, c h.q0, c h.q2, c h.m0, c h.m6, arr_ext h.row hx (fun _ _ h => h), h.rd.on hx, h.ext.trans hx (fun _ _ h => h), Nat.lt_of_lt_of_le h.sz hx.size⟩
theorem PairsRd.put {w wr W W' : World} {b2 a : Nat} {L : Pl} {d : Dat} {mp k : Nat} {x : Mrg} (h : PairsRd w wr W b2 a L d mp k x) (hx : Ext (fun k => k = mp) W W') (h1 : mp < w.heap.size) (h2 : w.heap.size < b2) (h3 : w.heap.size ≤ wr.heap.size) (hne : a ≠ mp) :
    W'.cell? ⟨wr.heap.size, 2, none⟩ = some (.int .i64 x.i) ∧ W'.cell? ⟨b2, 0, none⟩ = some (.slice (some ⟨w.heap.size + 1, 0, none⟩) d.ws.length d.ws.length) ∧ Arr W' 4 1 (some ⟨w.heap.size + 1, 0, none⟩) d.ws.length d.ws.length (mkB d.ws.length (d.ms.take k)) := by
  have c : ∀ {p : Addr} {v : Value}, W.cell? p = some v → p.block ≠ mp → W'.cell? p = some v := fun {p v} e hn => (hx.cell (World.block_lt_of_cell? W p e) hn).trans e
  refine ⟨c h.x2 (by show wr.heap.size ≠ mp; omega), c h.q2 (by show b2 ≠ mp; omega), arr_ext h.row hx (fun k hk e => by simp at hk; omega)⟩
theorem PairsSt.step {w wr W w7 : World} {b2 a : Nat} {L : Pl} {d : Dat} {tp mp k j : Nat} {lg : Int} {x : Mrg} (h : PairsSt w wr b2 a L d tp mp lg k) (hs : d.ms[k]? = some x) (hb : badM d.ws (d.ms.take k) x = 0) (hx : Ext (fun _ => False) wr W) (hm : MapAt w7 mp (entsM 0 (d.ms.take k) ++ [(.agg #[.int .i64 x.l, .int .i64 x.r], .agg #[.int .i64 (k : Int), .int .i64 x.i])])) (hx7 : Ext (fun k => k = mp) W w7)
    (hj : x.i = 256 + (j : Int)) (hjl : j < d.ws.length) (h1 : mp < w.heap.size) (h2 : w.heap.size + 1 < b2) :
    PairsSt w (w7.setCell ⟨w.heap.size + 1, j, none⟩ (.bool true)) b2 a L d tp mp lg (k + 1) := by
  have hlt := (List.getElem?_eq_some_iff.1 hs).1
  have e : d.ms.drop k = x :: d.ms.drop (k + 1) := by rw [List.drop_eq_getElem_cons hlt]; congr 1; exact (List.getElem?_eq_some_iff.1 hs).2
  have et : d.ms.take (k + 1) = d.ms.take k ++ [x] := by rw [List.take_succ_eq_append_getElem hlt]; congr 2; exact (List.getElem?_eq_some_iff.1 hs).2
  have hxx := hx.mono (S' := fun k => k = mp) (fun _ h => h.elim)
  have hx8 : Ext (fun k => k = mp) wr w7 := hxx.trans hx7 (fun _ _ h => h)
  have hx9 : Ext (fun k => k = w.heap.size + 1) w7 (w7.setCell ⟨w.heap.size + 1, j, none⟩ (.bool true)) := (Ext.refl (fun k => k = w.heap.size + 1) w7).setCell (p := ⟨w.heap.size + 1, j, none⟩) (fun _ => rfl) _
  have hws := h.ext.size
  refine ⟨hlt, ?_, ?_, ?_, ?_, ?_, ?_, ?_⟩
  · rw [h.eq, e, pairsGo, if_pos hb, et]
  · rw [et, entsM_snoc, List.length_take, Nat.min_eq_left (by omega), Nat.zero_add]
    exact hm.ext hx9 (by omega)
  · rw [et, ← mkB_set _ _ x j hjl hj]
    exact arr_set (arr_ext h.row hx8 (fun k hk e => by simp at hk; omega)) j _
  · exact ((h.ext.trans hx8 (fun _ _ h => h)).trans hx9 (fun i hi h => by omega))
  · exact hx9.obj (hx8.obj h.q0 (by omega)) (by omega)
  · exact hx9.obj (hx8.obj h.q2 (by omega)) (by omega)
  · intro y hy
    rw [et] at hy
    rcases List.mem_append.1 hy with hy | hy
    · exact h.inr y hy
    · simp at hy
      subst hy
      omega
theorem size_q (w : World) (m : Nat) (a : Nat) (p : Option Addr) (n c : Nat) (h : w.cell? ⟨a, 0, none⟩ = some (.slice p n c)) (hn : n ≤ 140737488355328) (hn2 : n ≤ 140737488351232) :
    Calls Try.prog 22 #[.pointer (some ⟨a, 0, none⟩)] (w.drewN m) fun e w' => e = .returned (.int .i64 (256 + n)) ∧ w' = w.drewN m :=
  (size_any (w.drewN m) a p n c h hn2).mono fun e w' ⟨h1, h2⟩ => ⟨h1, h2.symm⟩
theorem pairs_n {w w1 : World} {a : Nat} {L : Pl} {d : Dat} {tp mp t : Nat} {lg : Int} (h : MB w a L d tp mp lg) (hx : Ext (fun _ => False) (w.alloc (.cells #[.pointer (some ⟨a, 0, none⟩)] t)) w1) :
    w1.cell? ⟨w.heap.size, 0, none⟩ = some (.pointer (some ⟨a, 0, none⟩)) ∧ w1.cell? ⟨a, 0, none⟩ = some (.slice L.p0 d.ws.length L.c0) ∧ w1.cell? ⟨a, 1, none⟩ = some (.slice L.p1 d.ms.length L.c1) ∧ w.heap.size < w1.heap.size ∧ a < w1.heap.size := by
  have hb := h.on (((Ext.refl (fun _ => False) w).alloc _).trans hx (fun _ _ h => h)) (fun h => h)
  have hb0 := hx.obj (heap_alloc_new w _) (fun h => h)
  exact ⟨blk_cell hb0 0, hb.c0, hb.c1, blk_lt hb0, blk_lt hb.blk⟩

set_option maxRecDepth 100000 in
set_option maxHeartbeats 4000000 in
theorem pairs_any (w : World) (a : Nat) (L : Pl) (d : Dat) (tp mp : Nat) (lg : Int) (h : MB w a L d tp mp lg) (hr : DR w L d) (hm : MapAt w mp []) (hne : a ≠ mp) (hfar0 : ∀ k, blkOf L.p0 = some k → k ≠ mp) (hfar1 : ∀ k, blkOf L.p1 = some k → k ≠ mp) (hn : d.ws.length ≤ 1099511627776) :
    Calls Try.prog 57 #[.pointer (some ⟨a, 0, none⟩)] w fun e w' => PairsEnd w d mp e w' := by
  have H := Lib.hid h
  have R := Lib.hid hr
  have FAR0 := Lib.hid hfar0
  have FAR1 := Lib.hid hfar1
  have HM := Lib.hid hm
  have NE := Lib.hid hne
  have e0 := h.c0
  have e1 := h.c1
  have hl := hr.b0
  have hl1 := hr.b1
  have ha := blk_lt h.blk
  have hmp := hm.lt
  clear h hr hfar0 hfar1 hm hne
  go_enter Try.func57, Try.ntmps57
  go_wp2_with (at_make; (refine arr_make rfl (.tmp 20) (.tmp 20) 140 4 1 1 (.bool false) rfl Try.underlying140 infoB .i64 .i64 _ _ d.ws.length rfl rfl rfl rfl (by omega) (by decide) rfl ?_); intro w1 hA hx1; have HA := Lib.hid hA; have hs1 := hx1.size; simp only [World.size_alloc] at hs1; have HX1 := Lib.hid hx1; obtain ⟨n0, n1, n2, l0, l1⟩ := pairs_n H.out hx1; clear hA hx1)
  obtain ⟨W0, hW0⟩ : ∃ W0, w1.alloc (.cells #[.slice (some ⟨w.heap.size + 1, 0, none⟩) d.ws.length d.ws.length] 140) = W0 := ⟨_, rfl⟩
  have S0 := Lib.hid (show PairsSt w W0 w1.heap.size a L d tp mp lg 0 from by
    have x1 := ((Ext.refl (fun _ => False) w).alloc (.cells #[.pointer (some ⟨a, 0, none⟩)] 28)).trans HX1.out (fun _ _ h => h)
    have x2 : Ext (fun _ => False) w1 W0 := by rw [← hW0]; exact (Ext.refl _ _).alloc _
    refine ⟨Nat.zero_le _, rfl, ?_, ?_, ?_, ?_, ?_, by simp⟩
    · exact HM.out.ext (x1.trans x2 (fun _ _ h => h)) (fun h => h)
    · have := arr_ext HA.out x2 (fun _ _ h => h)
      rw [List.take_zero, mkB_nil]
      simp only [World.size_alloc, Nat.mul_one] at this
      rwa [made1 _ _ rfl] at this
    · exact (x1.trans x2 (fun _ _ h => h)).mono (fun _ h => h.elim)
    · exact x2.obj (HX1.out.obj (heap_alloc_new w _) (fun h => h)) (fun h => h)
    · rw [← hW0]; exact heap_alloc_new w1 _)
  rw [hW0]
  obtain ⟨b2, hb2⟩ : ∃ b2, w1.heap.size = b2 := ⟨_, rfl⟩
  have hlt3 : w.heap.size + 1 < b2 := by
    have h5 := arr_lt HA.out (k := w.heap.size + 1) (by simp)
    omega
  have hlt2 : w.heap.size < b2 := by omega
  rw [hb2] at S0 ⊢
  clear hW0 HA HX1 n0 n1 n2 l0 l1 hs1 hb2
  go_loopw [29] (fun i wr => ∃ k : Nat, i = .int .i64 k ∧ PairsSt w wr b2 a L d tp mp lg k) (fun i _ => d.ms.length - (intOf i).toNat)
  case atStart => exact ⟨0, rfl, S0.out⟩
  case round =>
    obtain ⟨k, rfl, hst⟩ := hrel
    have ST := Lib.hid hst
    have hk := hst.kl
    clear hst S0
    by_cases hlt : k < d.ms.length
    · obtain ⟨x, hs⟩ : ∃ x, d.ms[k]? = some x := ⟨_, List.getElem?_eq_getElem hlt⟩
      have HS := Lib.hid hs
      have EX := Lib.hid (show Ext (fun k => k = mp) w wr from ST.out.ext)
      obtain ⟨b, o, hp, hb, c0, c1, c2⟩ := (R.out.r1.ext ST.out.ext (fun i hi _ hS => FAR1.out _ hi hS)).cellM hs
      have i1 : (k : Int) < (d.ms.length : Int) := by omega
      clear hs
      rw [hp]
      go_wp2_with fail
      have RD := Lib.hid (ST.out.reads H.out R.out NE.out FAR0.out x (t1 := 35) (t2 := 102))
      obtain ⟨W1, hW1⟩ : ∃ W1, (wr.alloc (.cells #[.int .i64 x.l, .int .i64 x.r, .int .i64 x.i] 35)).alloc (.cells #[.int .i64 x.l, .int .i64 x.r] 102) = W1 := ⟨_, rfl⟩
      rw [hW1] at RD ⊢
      clear hW1 c0 c1 c2 hb e0
      obtain ⟨x0, x1, x2, y0, y1, q0, q2, m0, m6, _, _, _, _⟩ := RD.out
      have SQ := Lib.hid (fun m => size_q W1 m a L.p0 d.ws.length L.c0 m0 (by omega) (by omega))
      by_cases hA1 : x.i < 256
      · have d1 : decide (x.i < 256) = true := decide_eq_true hA1
        go_quiet (fail)
        go_wp2_with fail
        go_ret2
        exact ST.out.bad HS.out (by decide) (by unfold badM; rw [if_pos (.inl hA1)]) (RD.out.ext.drewN _)
      · have d1 : decide (x.i < 256) = false := decide_eq_false hA1
        by_cases hA2 : 256 + (d.ws.length : Int) ≤ x.i
        · have d2 : decide (x.i ≥ 256 + (d.ws.length : Int)) = true := decide_eq_true hA2
          go_quiet ((go_at_call 22; exact Calls.quiet_of_same (SQ.out _)))
          go_wp2_with fail
          go_ret2
          exact ST.out.bad HS.out (by decide) (by unfold badM; rw [if_pos (.inr (.inl hA2))]) (RD.out.ext.drewN _)
        · have d2 : decide (x.i ≥ 256 + (d.ws.length : Int)) = false := decide_eq_false hA2
          obtain ⟨j, hj⟩ : ∃ j : Nat, (x.i - 256).toNat = j := ⟨_, rfl⟩
          have r0 := (arr_cell RD.out.row j (by omega)).trans (mkB_get d.ws.length (d.ms.take k) j (by omega))
          rw [show (256 : Int) + (j : Int) = x.i by omega] at r0
          have hj0 : 0 ≤ x.i - 256 := by omega
          have hj1 : x.i - 256 < (d.ws.length : Int) := by omega
          have HJ := Lib.hid hj
          rw [← hj] at r0
          clear hj
          by_cases hA3 : isId (d.ms.take k) x.i = true
          · rw [hA3] at r0
            go_quiet ((go_at_call 22; exact Calls.quiet_of_same (SQ.out _)))
            go_wp2_with fail
            go_ret2
            exact ST.out.bad HS.out (by decide) (by unfold badM; rw [if_pos (.inr (.inr hA3))]) (RD.out.ext.drewN _)
          · have hA3' : isId (d.ms.take k) x.i = false := by simpa using hA3
            rw [hA3'] at r0
            have NA := Lib.hid (show ¬ (x.i < 256 ∨ 256 + (d.ws.length : Int) ≤ x.i ∨ isId (d.ms.take k) x.i = true) from fun h => h.elim hA1 (fun h => h.elim hA2 hA3))
            go_quiet ((go_at_call 22; exact Calls.quiet_of_same (SQ.out _)))
            go_wp2_with fail
            obtain ⟨W2, hW2⟩ : ∃ W2, W1.drewN nq = W2 := ⟨_, rfl⟩
            have RD2 := Lib.hid (show PairsRd w wr W2 b2 a L d mp k x from by rw [← hW2]; exact RD.out.on ((Ext.refl _ _).drewN nq))
            rw [hW2]
            clear hW2 x0 x1 x2 y0 y1 q0 q2 m0 m6 r0 SQ
            obtain ⟨x0, x1, x2, y0, y1, q0, q2, m0, m6, _, _, _, _⟩ := RD2.out
            have PA := Lib.hid (fun id => part_any W2 w.heap.size (w.heap.size + 1) b2 a d.ws.length L.c0 L.p0 (d.ms.take k) id q0 m0 q2 RD2.out.row ST.out.inr (by omega))
            cases hB1 : madeB (d.ms.take k) x.l with
            | false =>
              have P1 := PA.out x.l
              rw [hB1] at P1
              have P1 := Lib.hid P1
              refine P1.out.mono ?_
              rintro e w' ⟨rfl, rfl⟩
              go_wp2_with fail
              go_ret2
              exact ST.out.bad HS.out (by decide) (by unfold badM; rw [if_neg NA.out, if_pos (.inl hB1)]) RD2.out.ext
            | true =>
              have P1 := PA.out x.l
              rw [hB1] at P1
              have P1 := Lib.hid P1
              have HB1 := Lib.hid hB1
              cases hB2 : madeB (d.ms.take k) x.r with
              | false =>
                have P2 := PA.out x.r
                rw [hB2] at P2
                have P2 := Lib.hid P2
                have HB2 := Lib.hid hB2
                clear hB1 hB2
                refine P1.out.mono ?_
                rintro e w' ⟨rfl, rfl⟩
                go_wp2_with fail
                refine P2.out.mono ?_
                rintro e w' ⟨rfl, rfl⟩
                go_wp2_with fail
                go_ret2
                exact ST.out.bad HS.out (by decide) (by unfold badM; rw [if_neg NA.out, if_pos (.inr HB2.out)]) RD2.out.ext
              | true =>
                have P2 := PA.out x.r
                rw [hB2] at P2
                have P2 := Lib.hid P2
                have HB2 := Lib.hid hB2
                have NB := Lib.hid (show ¬ (madeB (d.ms.take k) x.l = false ∨ madeB (d.ms.take k) x.r = false) from by rw [hB1, hB2]; simp)
                clear hB1 hB2
                refine P1.out.mono ?_
                rintro e w' ⟨rfl, rfl⟩
                go_wp2_with fail
                refine P2.out.mono ?_
                rintro e w' ⟨rfl, rfl⟩
                go_wp2_with fail
                obtain ⟨sl, esl⟩ : ∃ s, (wordOf d.ws x.l).1 = s := ⟨_, rfl⟩
                obtain ⟨bl, ebl⟩ : ∃ s, (wordOf d.ws x.l).2 = s := ⟨_, rfl⟩
                obtain ⟨sr, esr⟩ : ∃ s, (wordOf d.ws x.r).1 = s := ⟨_, rfl⟩
                obtain ⟨br, ebr⟩ : ∃ s, (wordOf d.ws x.r).2 = s := ⟨_, rfl⟩
                have zl := wordOf_size d.ws R.out.z0 x.l
                have zr := wordOf_size d.ws R.out.z0 x.r
                have C1 := word_any W2 a L.p0 L.c0 d.ws x.l m0 RD2.out.rd (by omega)
                rw [esl, ebl] at C1
                rw [esl] at zl
                rw [esr] at zr
                have C1 := Lib.hid C1
                refine C1.out.mono ?_
                rintro e W3 ⟨rfl, hx3⟩
                have RD3 := Lib.hid (RD2.out.on hx3)
                clear hx3 x0 x1 x2 y0 y1 q0 q2 m0 m6
                obtain ⟨x0, x1, x2, y0, y1, q0, q2, m0, m6, _, _, _, _⟩ := RD3.out
                have C2 := word_any W3 a L.p0 L.c0 d.ws x.r m0 RD3.out.rd (by omega)
                rw [esr, ebr] at C2
                have C2 := Lib.hid C2
                have EW := Lib.hid (And.intro esl esr)
                clear esl esr ebl ebr
                go_wp2_with fail
                refine C2.out.mono ?_
                rintro e W4 ⟨rfl, hx4⟩
                have RD4 := Lib.hid (RD3.out.on hx4)
                clear hx4 x0 x1 x2 y0 y1 q0 q2 m0 m6 C1 C2 P1 P2 PA
                obtain ⟨x0, x1, x2, y0, y1, q0, q2, m0, m6, _, _, _, _⟩ := RD4.out
                go_wp2_with fail
                obtain ⟨xw, hxw⟩ : ∃ xw, d.ws[(x.i - 256).toNat]? = some xw := ⟨_, List.getElem?_eq_getElem (by omega)⟩
                obtain ⟨bw, ow, hp0, hbw, cw⟩ := RD4.out.rd.cellS hxw
                have EX := Lib.hid (show (wordOf d.ws x.i).1 = xw from by
                  have := wordOf_word hxw
                  rw [show (((x.i - 256).toNat : Nat) : Int) + 256 = x.i by omega] at this
                  rw [this])
                rw [hp0] at m0
                clear hxw hp0
                have zs : sl.size + sr.size ≤ 9223372036854775807 := by omega
                by_cases hC : xw = sl ++ sr
                · have hq := str_beq xw (sl ++ sr)
                  rw [decide_eq_true hC] at hq
                  have HC := Lib.hid hC
                  clear hC
                  go_quiet (fail)
                  go_wp2_with fail
                  obtain ⟨W5, hW5⟩ : ∃ W5, W4.drewN nq = W5 := ⟨_, rfl⟩
                  have RD5 := Lib.hid (show PairsRd w wr W5 b2 a L d mp k x from by rw [← hW5]; exact RD4.out.on ((Ext.refl _ _).drewN nq))
                  rw [hW5]
                  clear hW5 x0 x1 x2 y0 y1 q0 q2 m0 m6 cw hbw hq
                  obtain ⟨x0, x1, x2, y0, y1, q0, q2, m0, m6, _, _, _, hsz5⟩ := RD5.out
                  have l0 := World.block_lt_of_cell? W5 _ x0
                  have l1 := World.block_lt_of_cell? W5 _ y0
                  have l2 := World.block_lt_of_cell? W5 _ q0
                  have l3 := World.block_lt_of_cell? W5 _ m6
                  simp only at l0 l1 l2 l3
                  have hM5 := ST.out.map.ext RD5.out.ext (fun h => h)
                  have hok : ∀ p ∈ entsM 0 (d.ms.take k), ∃ a b : Int, p.1 = .agg #[.int .i64 a, .int .i64 b] := fun p hp => by
                    obtain ⟨j, y, _, e⟩ := entsM_mem hp
                    exact ⟨y.l, y.r, by rw [e]⟩
                  have hmp5 := hM5.lt
                  rcases run_look_u (P := Try.prog) Try.underlying90 pairFit pairFind hM5 hok (.agg #[.int .i64 x.l, .int .i64 x.r]) (.agg #[.int .i64 0, .int .i64 0]) ⟨_, _, rfl⟩ (fun W => by kernel_rfl) with ⟨v, hv, hrun⟩ | ⟨hno, hrun⟩
                  · obtain ⟨j, y, hy, ev⟩ := entsM_mem hv
                    simp at ev
                    obtain ⟨⟨ex1, ex2⟩, rfl⟩ := ev
                    have hp22 : hasPair (d.ms.take k) x.l x.r = true := by
                      unfold hasPair
                      rw [List.any_eq_true]
                      exact ⟨y, List.mem_of_getElem? hy, by simp [ex1, ex2]⟩
                    have BM := Lib.hid (show badM d.ws (d.ms.take k) x = 22 from by
                      unfold badM
                      rw [if_neg NA.out, if_neg NB.out, if_neg (by rw [EX.out, EW.out.1, EW.out.2, HC.out]; simp), if_pos hp22])
                    have hr1 := hrun W5.drew rfl
                    have hr2 := hrun (W5.alloc (.cells #[.int .i64 0, .int .i64 0] 142)).drew (Below.heap_alloc _ _ _ hmp5)
                    clear hrun hok hM5 hv hy ex1 ex2 hp22
                    go_region
                    all_goals
                      go_wp2_with fail
                      go_ret2
                      refine ST.out.bad HS.out (by decide) BM.out (RD5.out.ext.trans ?_ (fun _ _ h => h))
                      repeat (first | exact Ext.refl _ _ | refine Ext.drew ?_ | refine Ext.alloc ?_ _)
                  · have hr1 := hrun W5.drew rfl
                    have hr2 := hrun (W5.alloc (.cells #[.int .i64 0, .int .i64 0] 142)).drew (Below.heap_alloc _ _ _ hmp5)
                    have HNO := Lib.hid hno
                    have HOK := Lib.hid hok
                    have HM5 := Lib.hid hM5
                    clear hrun hno hok hM5
                    go_region
                    all_goals
                      go_wp2_with fail
                      obtain ⟨W6, hW6⟩ : ∃ W6, (W5.alloc (.cells #[.int .i64 0, .int .i64 0] 142)).drew = W6 := ⟨_, rfl⟩
                      have X56 : Ext (fun _ => False) W5 W6 := by rw [← hW6]; exact ((Ext.refl _ _).alloc _).drew
                      have RD6 := Lib.hid (RD5.out.on X56)
                      rw [hW6]
                      have HM6 := HM5.out.ext X56 (fun h => h)
                      obtain ⟨w7, hput, hm7, hx7⟩ := run_put (P := Try.prog) (w := W6.drew) Try.underlying90 pairFit HM6 HOK.out (.agg #[.int .i64 x.l, .int .i64 x.r]) (.agg #[.int .i64 k, .int .i64 x.i]) ⟨_, _, rfl⟩ HNO.out
                      have HX7 := Lib.hid hx7.undrew
                      have HM7 := Lib.hid hm7
                      clear hW6 x0 x1 x2 y0 y1 q0 q2 m0 m6 hr1 hr2 X56 HM6 hm7 hx7
                      obtain ⟨x0, x1, x2, y0, y1, q0, q2, m0, m6, _, _, _, hsz6⟩ := RD6.out
                      go_still_tail 9, (by kernel_rfl)
                      change wpList _ _ _ _ _ W6.drew
                      have BM := Lib.hid (show badM d.ws (d.ms.take k) x = 0 from by
                        unfold badM
                        rw [if_neg NA.out, if_neg NB.out, if_neg (by rw [EX.out, EW.out.1, EW.out.2, HC.out]; simp), if_neg (fun h => by
                          obtain ⟨p, hp, e⟩ := entsM_has (i := 0) h
                          exact HNO.out p hp e)])
                      have hwr := ST.out.ext.size
                      obtain ⟨z2, z3, z4⟩ := RD6.out.put HX7.out hmp hlt2 hwr NE.out
                      have T := Lib.hid (ST.out.step (j := (x.i - 256).toNat) HS.out BM.out RD6.out.ext HM7.out HX7.out (by omega) (by omega) hmp hlt3)
                      have z5 := arr_cell z4 (x.i - 256).toNat (by omega)
                      have z6 := arr_frozen z4 (x.i - 256).toNat
                      rw [mkB_get _ _ _ (by omega)] at z5
                      clear z4
                      go_wp2_with fail
                      go_roundw
                      case rel => exact ⟨k + 1, by go_num, T.out⟩
                      case measure => simp [intOf]; omega
                · have hq := str_beq xw (sl ++ sr)
                  rw [decide_eq_false hC] at hq
                  have HC := Lib.hid hC
                  clear hC
                  go_quiet (fail)
                  go_wp2_with fail
                  go_ret2
                  exact ST.out.bad HS.out (by decide) (by unfold badM; rw [if_neg NA.out, if_neg NB.out, if_pos (by rw [EX.out, EW.out.1, EW.out.2]; exact HC.out)]) (RD4.out.ext.drewN _)
    · have hk2 : k = d.ms.length := by omega
      have E : pairsGo d.ws 0 [] d.ms = (0, 0) := by rw [ST.out.eq, hk2, List.drop_length]; rfl
      have HE := Lib.hid E
      have HK := Lib.hid hk2
      clear E hk2
      go_wp2_with fail
      go_ret2
      refine ⟨by rw [HE.out]; rfl, ST.out.ext, fun _ => ?_⟩
      have := ST.out.map
      rw [HK.out, List.take_length] at this
      exact this
end Go.Proofs.Ytbepmbihonnkaaa.Sl
