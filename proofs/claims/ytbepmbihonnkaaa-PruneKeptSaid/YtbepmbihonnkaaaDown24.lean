/- Merged of FirstSt, First24, Down24. -/
import Derived.Test.YtbepmbihonnkaaaRef24
import Derived.Test.YtbepmbihonnkaaaReg
import Derived.Test.YtbepmbihonnkaaaPruneK
/- Ids, words and merges put out one by one: the state of tesseraref24.First. -/
namespace Go.Proofs.Ytbepmbihonnkaaa.Sl
open Go.Proofs.Ytbepmbihonnkaaa.Lib
open Go.RowKit
set_option linter.unusedVariables false
set_option linter.unusedSimpArgs false

structure FsSt (w wr : World) (tc : Array Value) (L : Pl) (d : Dat) (I : List Int) (Wd : List ByteArray) (M : List Mrg) (pi : Option Addr) (ci : Nat) (pw : Option Addr) (cw : Nat) (pm : Option Addr) (cm : Nat) : Prop where
  ids : Arr wr 3 1 pi I.length ci (ints I)
  wds : Arr wr 9 1 pw Wd.length cw (flat eS Wd)
  mgs : Arr wr 35 3 pm M.length cm (flat eM M)
  ext : Ext (fun _ => False) w wr
  box : wr.heap[w.heap.size]? = some (.cells tc 26 (0, 0))
  rs : ResB wr (w.heap.size + 1) 26 5
  ob : wr.heap[w.heap.size + 2]? = some (.cells #[.slice pw Wd.length cw, .slice pm M.length cm, .slice L.p2 d.ls.length L.c2, .slice L.p3 d.ns.length L.c3, .slice L.p4 d.ss.length L.c4] 26 (0, 0))
  f1 : ∀ j, blkOf pi = some j → w.heap.size + 3 ≤ j ∧ blkOf pw ≠ some j ∧ blkOf pm ≠ some j
  f2 : ∀ j, blkOf pw = some j → w.heap.size + 3 ≤ j ∧ blkOf pm ≠ some j
  f3 : ∀ j, blkOf pm = some j → w.heap.size + 3 ≤ j
section
variable {w wr W w1 : World} {tc : Array Value} {L : Pl} {d : Dat} {I : List Int} {Wd : List ByteArray} {M : List Mrg} {pi : Option Addr} {ci : Nat} {pw : Option Addr} {cw : Nat} {pm : Option Addr} {cm : Nat} {p1 : Option Addr} {c1 : Nat}
theorem FsSt.on (h : FsSt w wr tc L d I Wd M pi ci pw cw pm cm) (hx : Ext (fun _ => False) wr W) : FsSt w W tc L d I Wd M pi ci pw cw pm cm :=
  { h with ids := arr_ext h.ids hx (fun _ _ h => h), wds := arr_ext h.wds hx (fun _ _ h => h), mgs := arr_ext h.mgs hx (fun _ _ h => h), ext := h.ext.trans hx (fun _ _ h => h), box := hx.obj h.box (fun h => h), rs := h.rs.on hx, ob := hx.obj h.ob (fun h => h) }
theorem FsSt.addId {z : Int} (h : FsSt w wr tc L d I Wd M pi ci pw cw pm cm) (hA : Arr w1 3 1 p1 (I.length + 1) c1 (ints I ++ [.int .i64 z])) (hx1 : Ext (fun j => blkOf pi = some j) wr w1) (hm : Moved wr pi p1) : FsSt w w1 tc L d (I ++ [z]) Wd M p1 c1 pw cw pm cm := by
  have hs := blk_lt h.ob
  refine ⟨by simpa [ints] using hA, arr_ext h.wds hx1 (fun j hj e => (h.f1 j e).2.1 hj), arr_ext h.mgs hx1 (fun j hj e => (h.f1 j e).2.2 hj), h.ext.trans hx1 (fun i hi e => by have := h.f1 i e; omega), hx1.obj h.box (fun e => by have := h.f1 _ e; omega), ?_, hx1.obj h.ob (fun e => by have := h.f1 _ e; omega), fun j hj => ?_, h.f2, h.f3⟩
  · obtain ⟨cs, hc, hz⟩ := h.rs
    exact ⟨cs, hx1.obj hc (fun e => by have := h.f1 _ e; omega), hz⟩
  · rcases hm j hj with h1 | h1
    · exact h.f1 j h1
    · exact ⟨by omega, fun e => by have := arr_lt h.wds e; omega, fun e => by have := arr_lt h.mgs e; omega⟩
theorem FsSt.addWord {s : ByteArray} (h : FsSt w wr tc L d I Wd M pi ci pw cw pm cm) (hA : Arr w1 9 1 p1 (Wd.length + 1) c1 (flat eS Wd ++ [.string s])) (hx1 : Ext (fun j => blkOf pw = some j) wr w1) (hm : Moved wr pw p1) :
    FsSt w (w1.setCell ⟨w.heap.size + 2, 0, none⟩ (.slice p1 (Wd.length + 1) c1)) tc L d I (Wd ++ [s]) M pi ci p1 c1 pm cm := by
  have hs := blk_lt h.ob
  have hx2 : Ext (fun j => j = w.heap.size + 2) w1 (w1.setCell ⟨w.heap.size + 2, 0, none⟩ (.slice p1 (Wd.length + 1) c1)) := (Ext.refl (fun j => j = w.heap.size + 2) w1).setCell (p := ⟨w.heap.size + 2, 0, none⟩) (fun _ => rfl) _
  have s1 := hx1.size
  have hp1 : ∀ j, blkOf p1 = some j → w.heap.size + 3 ≤ j ∧ blkOf pm ≠ some j ∧ blkOf pi ≠ some j := fun j hj => by
    rcases hm j hj with h1 | h1
    · exact ⟨(h.f2 j h1).1, (h.f2 j h1).2, fun e => (h.f1 j e).2.1 h1⟩
    · exact ⟨by omega, fun e => by have := arr_lt h.mgs e; omega, fun e => by have := arr_lt h.ids e; omega⟩
  refine ⟨?_, ?_, ?_, ?_, ?_, ?_, ?_, fun j hj => ⟨(h.f1 j hj).1, fun e => (hp1 j e).2.2 hj, (h.f1 j hj).2.2⟩, fun j hj => ⟨(hp1 j hj).1, (hp1 j hj).2.1⟩, h.f3⟩
  · exact arr_ext (arr_ext h.ids hx1 (fun j hj e => (h.f1 j hj).2.1 e)) hx2 (fun j hj e => by have := h.f1 j hj; omega)
  · have := arr_ext hA hx2 (fun j hj e => by have := hp1 j hj; omega)
    simpa [flat, eS] using this
  · exact arr_ext (arr_ext h.mgs hx1 (fun j hj e => (h.f2 j e).2 hj)) hx2 (fun j hj e => by have := h.f3 j hj; omega)
  · exact (h.ext.trans hx1 (fun i hi e => by have := h.f2 i e; omega)).trans hx2 (fun i hi e => by omega)
  · exact hx2.obj (hx1.obj h.box (fun e => by have := h.f2 _ e; omega)) (by omega)
  · obtain ⟨cs, hc, hz⟩ := h.rs
    exact ⟨cs, hx2.obj (hx1.obj hc (fun e => by have := h.f2 _ e; omega)) (by omega), hz⟩
  · have := blk_set (hx1.obj h.ob (fun e => by have := h.f2 _ e; omega)) 0 (.slice p1 (Wd.length + 1) c1)
    simpa using this
theorem FsSt.addMerge {x : Mrg} (h : FsSt w wr tc L d I Wd M pi ci pw cw pm cm) (hA : Arr w1 35 3 p1 (M.length + 1) c1 (flat eM M ++ [.int .i64 x.l, .int .i64 x.r, .int .i64 x.i])) (hx1 : Ext (fun j => blkOf pm = some j) wr w1) (hm : Moved wr pm p1) :
    FsSt w (w1.setCell ⟨w.heap.size + 2, 1, none⟩ (.slice p1 (M.length + 1) c1)) tc L d I Wd (M ++ [x]) pi ci pw cw p1 c1 := by
  have hs := blk_lt h.ob
  have hx2 : Ext (fun j => j = w.heap.size + 2) w1 (w1.setCell ⟨w.heap.size + 2, 1, none⟩ (.slice p1 (M.length + 1) c1)) := (Ext.refl (fun j => j = w.heap.size + 2) w1).setCell (p := ⟨w.heap.size + 2, 1, none⟩) (fun _ => rfl) _
  have s1 := hx1.size
  have hp1 : ∀ j, blkOf p1 = some j → w.heap.size + 3 ≤ j ∧ blkOf pw ≠ some j ∧ blkOf pi ≠ some j := fun j hj => by
    rcases hm j hj with h1 | h1
    · exact ⟨h.f3 j h1, fun e => (h.f2 j e).2 h1, fun e => (h.f1 j e).2.2 h1⟩
    · exact ⟨by omega, fun e => by have := arr_lt h.wds e; omega, fun e => by have := arr_lt h.ids e; omega⟩
  refine ⟨?_, ?_, ?_, ?_, ?_, ?_, ?_, fun j hj => ⟨(h.f1 j hj).1, (h.f1 j hj).2.1, fun e => (hp1 j e).2.2 hj⟩, fun j hj => ⟨(h.f2 j hj).1, fun e => (hp1 j e).2.1 hj⟩, fun j hj => (hp1 j hj).1⟩
  · exact arr_ext (arr_ext h.ids hx1 (fun j hj e => (h.f1 j hj).2.2 e)) hx2 (fun j hj e => by have := h.f1 j hj; omega)
  · exact arr_ext (arr_ext h.wds hx1 (fun j hj e => (h.f2 j hj).2 e)) hx2 (fun j hj e => by have := h.f2 j hj; omega)
  · have := arr_ext hA hx2 (fun j hj e => by have := hp1 j hj; omega)
    simpa [flat, eM] using this
  · exact (h.ext.trans hx1 (fun i hi e => by have := h.f3 i e; omega)).trans hx2 (fun i hi e => by omega)
  · exact hx2.obj (hx1.obj h.box (fun e => by have := h.f3 _ e; omega)) (by omega)
  · obtain ⟨cs, hc, hz⟩ := h.rs
    exact ⟨cs, hx2.obj (hx1.obj hc (fun e => by have := h.f3 _ e; omega)) (by omega), hz⟩
  · have := blk_set (hx1.obj h.ob (fun e => by have := h.f3 _ e; omega)) 1 (.slice p1 (M.length + 1) c1)
    simpa using this
end
end Go.Proofs.Ytbepmbihonnkaaa.Sl

/- tesseraref24.First. -/
namespace Go.Proofs.Ytbepmbihonnkaaa.Sl
open Go.Proofs.Ytbepmbihonnkaaa.Lib hiding mn
open Go.RowKit Go.Proofs.YtbepmbihonnkaaaW.PrintLast
set_option linter.unusedVariables false
set_option linter.unusedSimpArgs false

theorem renGo_bd (d : Dat) (k : Int) (n : Nat) : ∀ z ∈ (renGo d k n).1, -1 ≤ z ∧ z ≤ 256 + (n : Int) := by
  induction n with
  | zero => intro z hz; simp [renGo] at hz
  | succ n ih =>
    have hl := (renGo_len d k n).2
    intro z hz
    by_cases h0 : n < 256
    · rw [renGo_low d k h0] at hz
      rcases List.mem_append.1 hz with h | h
      · have := ih z h; omega
      · simp at h; omega
    · by_cases h1 : (((rankOf d.ms n).getD 0 : Nat) : Int) < k
      · rw [renGo_in d k h0 h1] at hz
        rcases List.mem_append.1 hz with h | h
        · have := ih z h; omega
        · simp at h; omega
      · rw [renGo_out d k h0 h1] at hz
        rcases List.mem_append.1 hz with h | h
        · have := ih z h; omega
        · simp at h; omega
theorem renGo_ws {d : Dat} (hd : RightD d) (k : Int) (n : Nat) : ∀ s ∈ (renGo d k n).2, s.size ≤ 256 := by
  induction n with
  | zero => intro z hz; simp [renGo] at hz
  | succ n ih =>
    intro z hz
    by_cases h0 : n < 256
    · rw [renGo_low d k h0] at hz
      exact ih z hz
    · by_cases h1 : (((rankOf d.ms n).getD 0 : Nat) : Int) < k
      · rw [renGo_in d k h0 h1] at hz
        rcases List.mem_append.1 hz with h | h
        · exact ih z h
        · simp at h
          subst h
          cases e : d.ws[n - 256]? with
          | none => simp
          | some s => simpa using (hd.words _ _ e).2.1
      · rw [renGo_out d k h0 h1] at hz
        exact ih z hz
/-- How many merges are left. -/
def kc (d : Dat) (k : Int) : Nat := if k < 0 then 0 else if (d.ms.length : Int) < k then d.ms.length else k.toNat
theorem kc_le (d : Dat) (k : Int) : kc d k ≤ d.ms.length := by
  unfold kc
  split
  · omega
  · split <;> omega
def renAt (I : List Int) (id : Int) : Int := (I[id.toNat]?).getD 0
def cutM (I : List Int) (x : Mrg) : Mrg := ⟨renAt I x.l, renAt I x.r, renAt I x.i⟩
/-- The data with the first merges alone. -/
def cutD (d : Dat) (k : Nat) : Dat := { d with ws := (renGo d k (256 + d.ms.length)).2, ms := (d.ms.take k).map (cutM (renGo d k (256 + d.ms.length)).1) }
theorem cutD_ws (d : Dat) (k : Nat) : (cutD d k).ws = (renGo d k (256 + d.ms.length)).2 := rfl
theorem renAt_bd (d : Dat) (k : Int) (n : Nat) (z : Int) : -1 ≤ renAt (renGo d k n).1 z ∧ renAt (renGo d k n).1 z ≤ 256 + (n : Int) := by
  unfold renAt
  cases e : (renGo d k n).1[z.toNat]? with
  | none => simp; omega
  | some y => exact renGo_bd d k n y (List.mem_of_getElem? e)
def FirstEnd (w : World) (L : Pl) (d : Dat) (n : Nat) (e : Ending) (w' : World) : Prop := ∃ (pi : Option Addr) (ci : Nat) (pw : Option Addr) (cw : Nat) (pm : Option Addr) (cm : Nat),
  e = .returned (.tuple #[.agg #[.slice pw (cutD d n).ws.length cw, .slice pm (cutD d n).ms.length cm, .slice L.p2 d.ls.length L.c2, .slice L.p3 d.ns.length L.c3, .slice L.p4 d.ss.length L.c4], .slice pi (256 + d.ms.length) ci]) ∧
  Arr w' 3 1 pi (256 + d.ms.length) ci (ints (renGo d n (256 + d.ms.length)).1) ∧ DR w' ⟨pw, cw, pm, cm, L.p2, L.c2, L.p3, L.c3, L.p4, L.c4⟩ (cutD d n) ∧ Ext (fun _ => False) w w' ∧ (∀ j, blkOf pi = some j → w.heap.size < j)
theorem FirstEnd.mk {w w' wr : World} {tc : Array Value} {L : Pl} {d : Dat} {n : Nat} {I : List Int} {Wd : List ByteArray} {M : List Mrg} {pi : Option Addr} {ci : Nat} {pw : Option Addr} {cw : Nat} {pm : Option Addr} {cm : Nat} (h : FsSt w wr tc L d I Wd M pi ci pw cw pm cm)
    (hR : DR w L d) (hD : RightD d) (hn : n ≤ d.ms.length) (hI : (renGo d n (256 + d.ms.length)).1 = I) (hW : (renGo d n (256 + d.ms.length)).2 = Wd) (hM : (d.ms.take n).map (cutM I) = M) (hx : Ext (fun j => j = w.heap.size + 1) wr w') :
    FirstEnd w L d n (.returned (.tuple #[.agg #[.slice pw Wd.length cw, .slice pm n cm, .slice L.p2 d.ls.length L.c2, .slice L.p3 d.ns.length L.c3, .slice L.p4 d.ss.length L.c4], .slice pi (256 + d.ms.length) ci])) w' := by
  have hl := (renGo_len d n (256 + d.ms.length))
  have hf := hD.few
  subst hI hW hM
  have hml : (cutD d n).ms.length = n := by unfold cutD; rw [List.length_map, List.length_take]; omega
  have hx2 : Ext (fun _ => False) w w' := h.ext.trans hx (fun i hi e => by omega)
  have a0 := arr_ext h.ids hx (fun j hj e => by have := h.f1 j hj; omega)
  have a1 := arr_ext h.wds hx (fun j hj e => by have := h.f2 j hj; omega)
  have a2 := arr_ext h.mgs hx (fun j hj e => by have := h.f3 j hj; omega)
  have R := hR.on hx2
  rw [hl.1] at a0
  refine ⟨pi, ci, pw, cw, pm, cm, by rw [hml]; rfl, a0, ?_, hx2, fun j hj => by have := h.f1 j hj; omega⟩
  refine ⟨Rd.of_arr a1, Rd.of_arr a2, R.r2, R.r3, R.r4, (arr_cap a1).1, (arr_cap a2).1, R.k2, R.k3, R.k4, ?_, ?_, R.b2, R.b3, R.b4, fun s hs => ?_, fun x hx => ?_⟩
  · rw [cutD_ws]; omega
  · rw [hml]; omega
  · have := renGo_ws hD n _ s hs; omega
  · unfold cutD at hx
    rw [List.mem_map] at hx
    obtain ⟨y, _, rfl⟩ := hx
    have h1 := renAt_bd d n (256 + d.ms.length) y.l
    have h2 := renAt_bd d n (256 + d.ms.length) y.r
    have h3 := renAt_bd d n (256 + d.ms.length) y.i
    unfold cutM inI
    exact ⟨⟨by simp only; omega, by simp only; omega⟩, ⟨by simp only; omega, by simp only; omega⟩, ⟨by simp only; omega, by simp only; omega⟩⟩

set_option maxRecDepth 100000 in
set_option maxHeartbeats 8000000 in
theorem first24_any (w : World) (L : Pl) (d : Dat) (k : Int) (h : DR w L d) (hd : RightD d) :
    Calls Try.prog 26 #[.agg #[.slice L.p0 d.ws.length L.c0, .slice L.p1 d.ms.length L.c1, .slice L.p2 d.ls.length L.c2, .slice L.p3 d.ns.length L.c3, .slice L.p4 d.ss.length L.c4], .int .i64 k] w fun e w' => FirstEnd w L d (kc d k) e w' := by
  have R := Lib.hid h
  have D := Lib.hid hd
  have hl := hd.len
  have hf := hd.few
  have LE := Lib.hid hl
  clear h hd hl
  go_enter Try.func26, Try.ntmps26
  go_upto_if 15 with fail
  have hb0 : ((w.alloc (.cells (dataCells L d) 26)).alloc (.cells #[.slice none 0 0, .slice none 0 0, .slice none 0 0, .slice none 0 0, .slice none 0 0] 26)).heap[w.heap.size]? = some (.cells (dataCells L d) 26 (0, 0)) := blk_alloc (heap_alloc_new w _) _
  have hb1 : ((w.alloc (.cells (dataCells L d) 26)).alloc (.cells #[.slice none 0 0, .slice none 0 0, .slice none 0 0, .slice none 0 0, .slice none 0 0] 26)).heap[w.heap.size + 1]? = some (.cells #[.slice none 0 0, .slice none 0 0, .slice none 0 0, .slice none 0 0, .slice none 0 0] 26 (0, 0)) := by
    have := heap_alloc_new (w.alloc (.cells (dataCells L d) 26)) (.cells #[.slice none 0 0, .slice none 0 0, .slice none 0 0, .slice none 0 0, .slice none 0 0] 26)
    rw [World.size_alloc] at this
    exact this
  have X0 := Lib.hid (((Ext.refl (fun _ => False) w).alloc (.cells (dataCells L d) 26)).alloc (.cells #[.slice none 0 0, .slice none 0 0, .slice none 0 0, .slice none 0 0, .slice none 0 0] 26))
  have hs0 : ((w.alloc (.cells (dataCells L d) 26)).alloc (.cells #[.slice none 0 0, .slice none 0 0, .slice none 0 0, .slice none 0 0, .slice none 0 0] 26)).heap.size = w.heap.size + 2 := by simp
  obtain ⟨W0, hW0⟩ : ∃ W0, (w.alloc (.cells (dataCells L d) 26)).alloc (.cells #[.slice none 0 0, .slice none 0 0, .slice none 0 0, .slice none 0 0, .slice none 0 0] 26) = W0 := ⟨_, rfl⟩
  rw [hW0] at hb0 hb1 X0 hs0
  change Code.wp _ _ _ _ ((w.alloc (.cells (dataCells L d) 26)).alloc (.cells #[.slice none 0 0, .slice none 0 0, .slice none 0 0, .slice none 0 0, .slice none 0 0] 26))
  rw [hW0]
  have b0 := blk_cell hb0 0
  have b1 := blk_cell hb0 1
  have b2 := blk_cell hb0 2
  have b3 := blk_cell hb0 3
  have b4 := blk_cell hb0 4
  simp [dataCells] at b0 b1 b2 b3 b4
  have HB0 := Lib.hid hb0
  have HB1 := Lib.hid hb1
  have HS0 := Lib.hid hs0
  clear hb0 hb1 hs0 hW0
  go_cut [1] (fun l wc => W0 = wc ∧ l = .int .i64 (mx k 0))
  case first =>
    by_cases h : k < 0
    · have E := Lib.hid (show mx k 0 = 0 from if_pos h)
      go_wp2_with fail
      go_meet
      exact ⟨rfl, by rw [E.out]⟩
    · have E := Lib.hid (show mx k 0 = k from if_neg h)
      go_wp2_with fail
      go_meet
      exact ⟨rfl, by rw [E.out]⟩
  case rest =>
    obtain ⟨rfl, rfl⟩ := hcut
    obtain ⟨m, hm⟩ : ∃ m : Nat, mx k 0 = (m : Int) := ⟨(mx k 0).toNat, by unfold mx; split <;> omega⟩
    have KC := Lib.hid (show kc d k = if d.ms.length < m then d.ms.length else m from by
      unfold kc
      unfold mx at hm
      by_cases h : k < 0
      · rw [if_pos h] at hm
        rw [if_pos h, if_neg (by omega)]
        omega
      · rw [if_neg h] at hm
        rw [if_neg h]
        by_cases h2 : d.ms.length < m
        · rw [if_pos (by omega), if_pos h2]
        · rw [if_neg (by omega), if_neg h2]; omega)
    rw [hm]
    clear hm
    go_upto_if 20 with fail
    go_cut [1] (fun l wc => W0 = wc ∧ l = .int .i64 (kc d k : Nat))
    case first =>
      by_cases h : d.ms.length < m
      · have E := Lib.hid (show kc d k = d.ms.length from by rw [KC.out, if_pos h])
        have i1 : (m : Int) > (d.ms.length : Int) := by omega
        go_wp2_with fail
        go_meet
        exact ⟨rfl, by rw [E.out]⟩
      · have E := Lib.hid (show kc d k = m from by rw [KC.out, if_neg h])
        have i1 : ¬ ((m : Int) > (d.ms.length : Int)) := by omega
        go_wp2_with fail
        go_meet
        exact ⟨rfl, by rw [E.out]⟩
    case rest =>
      obtain ⟨rfl, rfl⟩ := hcut
      obtain ⟨n, hn⟩ : ∃ n, kc d k = n := ⟨_, rfl⟩
      have hn2 : n ≤ d.ms.length := by rw [← hn]; exact kc_le d k
      rw [hn]
      have HN := Lib.hid hn
      clear hn KC
      go_wp2_with fail
      have S0 := Lib.hid (show FsSt w (W0.alloc (.cells #[.slice none 0 0, .slice none 0 0, .slice L.p2 d.ls.length L.c2, .slice L.p3 d.ns.length L.c3, .slice L.p4 d.ss.length L.c4] 26)) (dataCells L d) L d [] [] [] none 0 none 0 none 0 from by
        have xa : Ext (fun _ => False) W0 (W0.alloc (.cells #[.slice none 0 0, .slice none 0 0, .slice L.p2 d.ls.length L.c2, .slice L.p3 d.ns.length L.c3, .slice L.p4 d.ss.length L.c4] 26)) := (Ext.refl _ _).alloc _
        refine ⟨arr_nil _ _ _, arr_nil _ _ _, arr_nil _ _ _, X0.out.trans xa (fun _ _ h => h), xa.obj HB0.out (fun h => h), ⟨_, xa.obj HB1.out (fun h => h), rfl⟩, ?_, fun j hj => (by cases hj), fun j hj => (by cases hj), fun j hj => (by cases hj)⟩
        rw [← HS0.out]
        exact heap_alloc_new W0 _)
      rw [HS0.out]
      obtain ⟨W1, hW1⟩ : ∃ W1, W0.alloc (.cells #[.slice none 0 0, .slice none 0 0, .slice L.p2 d.ls.length L.c2, .slice L.p3 d.ns.length L.c3, .slice L.p4 d.ss.length L.c4] 26) = W1 := ⟨_, rfl⟩
      rw [hW1] at S0 ⊢
      clear hW1 b0 b1 b2 b3 b4
      go_loopw [7, 8] (fun v i wr => ∃ j : Nat, i = .int .i64 j ∧ j ≤ 256 + d.ms.length ∧ ∃ (pi : Option Addr) (ci : Nat) (pw : Option Addr) (cw : Nat), v = .slice pi (renGo d n j).1.length ci ∧ FsSt w wr (dataCells L d) L d (renGo d n j).1 (renGo d n j).2 [] pi ci pw cw none 0) (fun _ i _ => 256 + d.ms.length - (intOf i).toNat)
      case atStart => exact ⟨0, rfl, Nat.zero_le _, none, 0, none, 0, rfl, S0.out⟩
      case round =>
        obtain ⟨j, rfl, hj, pi, ci, pw, cw, rfl, hst⟩ := hrel
        obtain ⟨hl1, hl2⟩ := renGo_len d n j
        have bx := hst.box
        have ST := Lib.hid hst
        clear hst S0
        have b0 := blk_cell bx 0
        have b1 := blk_cell bx 1
        have b2 := blk_cell bx 2
        have b3 := blk_cell bx 3
        have b4 := blk_cell bx 4
        simp [dataCells] at b0 b1 b2 b3 b4
        clear bx
        by_cases hlt : j < 256 + d.ms.length
        · have i1 : (j : Int) < 256 + (d.ws.length : Int) := by have := LE.out; omega
          have hwl : d.ws.length ≤ 4096 := by have := LE.out; omega
          have C1 := Lib.hid (rank24_any wr L d j (R.out.on ST.out.ext) (by omega) (by omega))
          go_wp2_with fail
          refine C1.out.mono ?_
          rintro e W2 ⟨rfl, hx⟩
          have ST2 := Lib.hid (ST.out.on hx)
          clear hx ST C1 b0 b1 b2 b3 b4
          obtain ⟨I, hI⟩ : ∃ I, (renGo d n j).1 = I := ⟨_, rfl⟩
          rw [hI] at ST2 hl1 ⊢
          have HI := Lib.hid hI
          have HL1 := Lib.hid hl1
          have hIl : I.length ≤ 4352 := by omega
          clear hI hl1
          by_cases h0 : j < 256
          · have RT : rank24 d.ms j = -1 := rank24_low D.out (.inl (by omega))
            rw [RT]
            have EN := Lib.hid (show renGo d n (j + 1) = (I ++ [(j : Int)], (renGo d n j).2) from by rw [renGo_low d n h0, HI.out])
            have d1 : decide ((-1 : Int) ≥ (n : Int)) = false := decide_eq_false (by omega)
            go_wp2_with (at_builtin; refine arr_append1 rfl (.tmp 50) (.tmp 52) 27 3 1 8 (.int .i64 0) rfl Try.underlying27 infoI rfl (by decide) (by decide) pi I.length ci (ints I) [.int .i64 (j)] rfl _ rfl (by simp) rfl (by simp [Value.oneCell']) ST2.out.ids (by omega) ?_; intro p1 c1 w5 hA1 hx1 hm1; have NX := Lib.hid (ST2.out.addId hA1 hx1 hm1); clear hA1 hx1 hm1)
            go_roundw
            case rel => exact ⟨j + 1, by go_num, by omega, p1, c1, pw, cw, by rw [EN.out, List.length_append]; rfl, by rw [EN.out]; exact NX.out⟩
            case measure => simp [intOf]; omega
          · obtain ⟨jj, x, hr, hx, hxi, hlt2⟩ := D.out.rank_ex (id := (j : Int)) (by omega) (by omega)
            have RT : rank24 d.ms j = (jj : Int) := by rw [← hxi]; exact rank24_at D.out hx
            rw [RT]
            clear hx hxi
            by_cases h1 : jj < n
            · obtain ⟨Wd, hWd⟩ : ∃ Wd, (renGo d n j).2 = Wd := ⟨_, rfl⟩
              rw [hWd] at ST2 hl2
              obtain ⟨s, hs⟩ : ∃ s, d.ws[j - 256]? = some s := ⟨_, List.getElem?_eq_getElem (by have := LE.out; omega)⟩
              have EN := Lib.hid (show renGo d n (j + 1) = (I ++ [256 + (Wd.length : Int)], Wd ++ [s]) from by rw [renGo_in d n h0 (by rw [hr]; simpa using h1), HI.out, hWd, hs]; rfl)
              have WO := Lib.hid (show wordOf d.ws j = (s, true) from by
                have := wordOf_word hs
                rwa [show ((j - 256 : Nat) : Int) + 256 = (j : Int) from by omega] at this)
              have d1 : decide ((jj : Int) ≥ (n : Int)) = false := decide_eq_false (by omega)
              have o0 := blk_cell ST2.out.ob 0
              simp at o0
              have hWl : Wd.length ≤ 4352 := by omega
              clear hWd hr hs
              go_wp2_with (at_builtin; refine arr_append1 rfl (.tmp 54) (.tmp 59) 27 3 1 8 (.int .i64 0) rfl Try.underlying27 infoI rfl (by decide) (by decide) pi I.length ci (ints I) [.int .i64 (256 + (Wd.length : Int))] rfl _ rfl (by simp) rfl (by simp [Value.oneCell']) ST2.out.ids (by omega) ?_; intro p1 c1 w5 hA1 hx1 hm1; have NX := Lib.hid (ST2.out.addId hA1 hx1 hm1); clear hA1 hx1 hm1; have g0 := blk_cell NX.out.box 0; have g1 := blk_cell NX.out.box 1; have g2 := blk_cell NX.out.box 2; have g3 := blk_cell NX.out.box 3; have g4 := blk_cell NX.out.box 4; simp [dataCells] at g0 g1 g2 g3 g4)
              refine (ref5word_any w5 L d j (R.out.on NX.out.ext) (wf_in ⟨by omega, by omega⟩) (by omega)).mono ?_
              rintro e w6 ⟨rfl, hx6⟩
              rw [WO.out]
              have ST6 := Lib.hid (NX.out.on hx6)
              have q0 := blk_cell ST6.out.ob 0
              simp at q0
              clear hx6 g0 g1 g2 g3 g4
              go_wp2_with (at_builtin; refine arr_append1 rfl (.tmp 68) (.tmp 70) 22 9 1 16 (.string ⟨#[]⟩) rfl Try.underlying22 infoS rfl (by decide) (by decide) pw Wd.length cw (flat eS Wd) [.string s] rfl _ rfl (by simp) rfl (by simp [Value.oneCell']) ST6.out.wds (by omega) ?_; intro p2 c2 w7 hA2 hx2 hm2; have NY := Lib.hid (ST6.out.addWord hA2 hx2 hm2); have ob7 := hx2.obj ST6.out.ob (fun e => by have := ST6.out.f2 _ e; omega); have r0 := blk_cell ob7 0; have r1 := blk_frozen ob7 0; simp at r0; clear hA2 hx2 hm2 ob7)
              go_roundw
              case rel => exact ⟨j + 1, by go_num, by omega, p1, c1, p2, c2, by rw [EN.out, List.length_append]; rfl, by rw [EN.out]; exact NY.out⟩
              case measure => simp [intOf]; omega
            · have EN := Lib.hid (show renGo d n (j + 1) = (I ++ [-1], (renGo d n j).2) from by rw [renGo_out d n h0 (by rw [hr]; simpa using h1), HI.out])
              have d1 : decide ((jj : Int) ≥ (n : Int)) = true := decide_eq_true (by omega)
              clear hr
              go_wp2_with (at_builtin; refine arr_append1 rfl (.tmp 45) (.tmp 46) 27 3 1 8 (.int .i64 0) rfl Try.underlying27 infoI rfl (by decide) (by decide) pi I.length ci (ints I) [.int .i64 (-1)] rfl _ rfl (by simp) rfl (by simp [Value.oneCell']) ST2.out.ids (by omega) ?_; intro p1 c1 w5 hA1 hx1 hm1; have NX := Lib.hid (ST2.out.addId hA1 hx1 hm1); clear hA1 hx1 hm1)
              go_roundw
              case rel => exact ⟨j + 1, by go_num, by omega, p1, c1, pw, cw, by rw [EN.out, List.length_append]; rfl, by rw [EN.out]; exact NX.out⟩
              case measure => simp [intOf]; omega
        · have hj2 : j = 256 + d.ms.length := by omega
          subst hj2
          have i1 : ¬ (256 + (d.ms.length : Int)) < 256 + (d.ws.length : Int) := by have := LE.out; omega
          obtain ⟨I, hI⟩ : ∃ I, (renGo d n (256 + d.ms.length)).1 = I := ⟨_, rfl⟩
          obtain ⟨Wd, hWd⟩ : ∃ Wd, (renGo d n (256 + d.ms.length)).2 = Wd := ⟨_, rfl⟩
          rw [hI] at ST hl1 ⊢
          rw [hWd] at ST hl2
          have HI := Lib.hid hI
          have HWd := Lib.hid hWd
          have HL1 := Lib.hid hl1
          have hIl : I.length ≤ 4352 := by omega
          clear hI hWd
          go_wp2_with fail
          clear b0 b1 b2 b3 b4
          go_loopw [12] (fun i w2 => ∃ j : Nat, i = .int .i64 j ∧ j ≤ n ∧ ∃ (pm : Option Addr) (cm : Nat), FsSt w w2 (dataCells L d) L d I Wd ((d.ms.take j).map (cutM I)) pi ci pw cw pm cm) (fun i _ => n - (intOf i).toNat)
          case atStart => exact ⟨0, rfl, Nat.zero_le _, none, 0, ST.out⟩
          case round =>
            obtain ⟨j, rfl, hj, pm, cm, hst⟩ := hrel
            obtain ⟨cI, hcI⟩ : ∃ cI, cI = ci := ⟨_, rfl⟩
            rw [← hcI] at hst ⊢
            clear hcI
            have bx := hst.box
            have ob := hst.ob
            have S3 := Lib.hid hst
            clear hst ST
            have b1 := blk_cell bx 1
            simp [dataCells] at b1
            have o1 := blk_cell ob 1
            have o1f := blk_frozen ob 1
            simp at o1
            by_cases hlt : j < n
            · have i1 : (j : Int) < (n : Int) := by omega
              obtain ⟨x, hx⟩ : ∃ x, d.ms[j]? = some x := ⟨_, List.getElem?_eq_getElem (by omega)⟩
              obtain ⟨b, o, hp, hb, c0, c1, c2⟩ := (R.out.on S3.out.ext).r1.cellM hx
              obtain ⟨hi0, hi1⟩ := D.out.idr j x hx
              obtain ⟨hl0, hl1⟩ := D.out.part_range (D.out.pl j x hx)
              obtain ⟨hr0, hr1⟩ := D.out.part_range (D.out.pr j x hx)
              have hI0 := S3.out.ids
              obtain ⟨ib, rfl⟩ := arr_some hI0 (by have := HL1.out; omega)
              have cid : ∀ z : Int, 0 ≤ z → z < 256 + (d.ms.length : Int) → wr.cell? ⟨ib, z.toNat, none⟩ = some (.int .i64 (renAt I z)) := fun z h0 h1 => by
                have := HL1.out
                refine (arr_cell hI0 z.toNat (by omega)).trans ?_
                unfold ints renAt
                rw [List.getElem?_map, List.getElem?_eq_getElem (by omega)]
                rfl
              have hci := (arr_cap hI0).1
              have HLM := Lib.hid (show ((d.ms.take j).map (cutM I)).length = j from by rw [List.length_map, List.length_take]; omega)
              have HX := Lib.hid hx
              have HP := Lib.hid hp
              rw [hp] at b1
              have j1 : (j : Int) < (d.ms.length : Int) := by omega
              have cl := cid x.l hl0 hl1
              have cr := cid x.r hr0 hr1
              have ci := cid x.i (by omega) hi1
              have hL0 : x.l < ((256 + d.ms.length : Nat) : Int) := by omega
              have hR0 : x.r < ((256 + d.ms.length : Nat) : Int) := by omega
              have hI00 : x.i < ((256 + d.ms.length : Nat) : Int) := by omega
              have hI01 : 0 ≤ x.i := by omega
              have hXX : Ext (fun _ => False) wr (wr.alloc (.cells #[.int .i64 x.l, .int .i64 x.r, .int .i64 x.i] 35)) := (Ext.refl _ _).alloc _
              have hbl : ib < wr.heap.size := arr_lt hI0 rfl
              have hol := blk_lt ob
              have S5 := Lib.hid (S3.out.on hXX)
              rw [← hXX.cell (p := ⟨ib, x.l.toNat, none⟩) hbl (fun h => h)] at cl
              rw [← hXX.cell (p := ⟨ib, x.r.toNat, none⟩) hbl (fun h => h)] at cr
              rw [← hXX.cell (p := ⟨ib, x.i.toNat, none⟩) hbl (fun h => h)] at ci
              clear hx hp cid hI0 hbl bx ob hXX
              go_wp2_with fail
              obtain ⟨n0, n1, n2⟩ := box3 wr 35 (.int .i64 x.l) (.int .i64 x.r) (.int .i64 x.i)
              have o5 := blk_cell S5.out.ob 1
              have o5f := blk_frozen S5.out.ob 1
              simp only [HLM.out] at o5
              simp at o5
              obtain ⟨W5, hW5⟩ : ∃ W5, wr.alloc (.cells #[.int .i64 x.l, .int .i64 x.r, .int .i64 x.i] 35) = W5 := ⟨_, rfl⟩
              have hsz5 : W5.heap.size = wr.heap.size + 1 := by rw [← hW5]; simp
              rw [hW5] at S5 n0 n1 n2 cl cr ci o5 o5f ⊢
              obtain ⟨xb, hxb⟩ : ∃ xb, wr.heap.size = xb := ⟨_, rfl⟩
              rw [hxb] at n0 n1 n2 hsz5 hol ⊢
              obtain ⟨rl, hrl⟩ : ∃ rl, renAt I x.l = rl := ⟨_, rfl⟩
              obtain ⟨rr, hrr⟩ : ∃ rr, renAt I x.r = rr := ⟨_, rfl⟩
              obtain ⟨ri, hri⟩ : ∃ ri, renAt I x.i = ri := ⟨_, rfl⟩
              rw [hrl] at cl
              rw [hrr] at cr
              rw [hri] at ci
              have hol2 : w.heap.size + 2 < W5.heap.size := by omega
              obtain ⟨M, hM⟩ : ∃ M, (d.ms.take j).map (cutM I) = M := ⟨_, rfl⟩
              rw [hM] at S5 S3 HLM
              have HM1 := Lib.hid (show (d.ms.take (j + 1)).map (cutM I) = M ++ [⟨rl, rr, ri⟩] from by
                rw [List.take_add_one, HX.out, List.map_append, hM]
                simp [cutM, hrl, hrr, hri])
              clear hM hrl hrr hri hxb hW5
              refine start_ (n := 22) (S := fun w' => w'.cell? ⟨xb, 0, none⟩ = some (.int .i64 x.l) ∧ w'.cell? ⟨xb, 1, none⟩ = some (.int .i64 x.r) ∧ w'.cell? ⟨xb, 2, none⟩ = some (.int .i64 x.i) ∧ w'.cell? ⟨ib, x.l.toNat, none⟩ = some (.int .i64 rl) ∧ w'.cell? ⟨ib, x.r.toNat, none⟩ = some (.int .i64 rr) ∧ w'.cell? ⟨ib, x.i.toNat, none⟩ = some (.int .i64 ri) ∧ w'.cell? ⟨w.heap.size + 2, 1, none⟩ = some (.slice pm j cm)) (ds := [19, 20, 21]) (ls 22 0) (by kernel_rfl) rfl rfl ⟨n0, n1, n2, cl, cr, ci, o5⟩ (fun hHeld => ?_)
              have S6 := Lib.hid (S5.out.on ((Ext.refl (fun _ => False) W5).drew))
              clear n0 n1 n2 cl cr ci o5 o5f
              generalize W5.drew = W6 at S6 hHeld ⊢
              refine pure_ (i := 0) (N := some 83) (v := ?_) (a' := ?_) (ls 22 1) rfl rfl (by kernel_rfl) (fun _ _ _ h => h) (Or.inl ⟨by rfl, ?_⟩) ?_ ?_
              rotate_left
              · intro w'; go_simp; with_reducible rfl
              rotate_left
              · simp only [Act.put, List.setIfInBounds_toArray, List.set_cons_zero, List.set_cons_succ, i64_w, i32_w]; rfl
              refine pure_ (i := 2) (N := some 85) (v := ?_) (a' := ?_) (ls 22 5) rfl rfl (by kernel_rfl) (fun _ _ _ h => h) (Or.inl ⟨by rfl, ?_⟩) ?_ ?_
              rotate_left
              · intro w'; go_simp; with_reducible rfl
              rotate_left
              · simp only [Act.put, List.setIfInBounds_toArray, List.set_cons_zero, List.set_cons_succ, i64_w, i32_w]; rfl
              refine pure_ (i := 3) (N := some 86) (v := ?_) (a' := ?_) (ls 22 13) rfl rfl (by kernel_rfl) (fun _ _ _ h => h) (Or.inl ⟨by rfl, ?_⟩) ?_ ?_
              rotate_left
              · intro w'; go_simp; with_reducible rfl
              rotate_left
              · simp only [Act.put, List.setIfInBounds_toArray, List.set_cons_zero, List.set_cons_succ, i64_w, i32_w]; rfl
              refine pure_ (i := 7) (N := some 90) (v := ?_) (a' := ?_) (ls 22 141) rfl rfl (by kernel_rfl) (fun _ _ _ h => h) (Or.inl ⟨by rfl, ?_⟩) ?_ ?_
              rotate_left
              · intro w'; go_simp; with_reducible rfl
              rotate_left
              · simp only [Act.put, List.setIfInBounds_toArray, List.set_cons_zero, List.set_cons_succ, i64_w, i32_w]; rfl
              refine pure_ (i := 8) (N := some 91) (v := ?_) (a' := ?_) (ls 22 397) rfl rfl (by kernel_rfl) (fun _ _ _ h => h) (Or.inl ⟨by rfl, ?_⟩) ?_ ?_
              rotate_left
              · intro w'; go_simp; with_reducible rfl
              rotate_left
              · simp only [Act.put, List.setIfInBounds_toArray, List.set_cons_zero, List.set_cons_succ, i64_w, i32_w]; rfl
              refine pure_ (i := 12) (N := some 95) (v := ?_) (a' := ?_) (ls 22 4493) rfl rfl (by kernel_rfl) (fun _ _ _ h => h) (Or.inl ⟨by rfl, ?_⟩) ?_ ?_
              rotate_left
              · intro w'; go_simp; with_reducible rfl
              rotate_left
              · simp only [Act.put, List.setIfInBounds_toArray, List.set_cons_zero, List.set_cons_succ, i64_w, i32_w]; rfl
              refine pure_ (i := 13) (N := some 96) (v := ?_) (a' := ?_) (ls 22 12685) rfl rfl (by kernel_rfl) (fun _ _ _ h => h) (Or.inl ⟨by rfl, ?_⟩) ?_ ?_
              rotate_left
              · intro w'; go_simp; with_reducible rfl
              rotate_left
              · simp only [Act.put, List.setIfInBounds_toArray, List.set_cons_zero, List.set_cons_succ, i64_w, i32_w]; rfl
              refine take_ (i := 1) (N := some 84) (v := ?_) (a' := ?_) (ls 22 12687) rfl rfl (by kernel_rfl) (fun _ _ _ h => h) (Or.inl ⟨by rfl, ?_⟩) hHeld ?_ ?_
              rotate_left
              · rintro w' ⟨s0, s1, s2, s3, s4, s5, s6⟩; go_simp; with_reducible rfl
              rotate_left
              · simp only [Act.put, List.setIfInBounds_toArray, List.set_cons_zero, List.set_cons_succ, i64_w, i32_w]; rfl
              refine take_ (i := 4) (N := some 87) (v := ?_) (a' := ?_) (ls 22 12703) rfl rfl (by kernel_rfl) (fun _ _ _ h => h) (Or.inl ⟨by rfl, ?_⟩) hHeld ?_ ?_
              rotate_left
              · rintro w' ⟨s0, s1, s2, s3, s4, s5, s6⟩; go_simp; with_reducible rfl
              rotate_left
              · simp only [Act.put, List.setIfInBounds_toArray, List.set_cons_zero, List.set_cons_succ, i64_w, i32_w]; rfl
              refine pure_ (i := 5) (N := some 88) (v := ?_) (a' := ?_) (ls 22 12735) rfl rfl (by kernel_rfl) (fun _ _ _ h => h) (Or.inl ⟨by rfl, ?_⟩) ?_ ?_
              rotate_left
              · intro w'; go_simp; with_reducible rfl
              rotate_left
              · simp only [Act.put, List.setIfInBounds_toArray, List.set_cons_zero, List.set_cons_succ, i64_w, i32_w]; rfl
              refine take_ (i := 6) (N := some 89) (v := ?_) (a' := ?_) (ls 22 12799) rfl rfl (by kernel_rfl) (fun _ _ _ h => h) (Or.inl ⟨by rfl, ?_⟩) hHeld ?_ ?_
              rotate_left
              · rintro w' ⟨s0, s1, s2, s3, s4, s5, s6⟩; go_simp; with_reducible rfl
              rotate_left
              · simp only [Act.put, List.setIfInBounds_toArray, List.set_cons_zero, List.set_cons_succ, i64_w, i32_w]; rfl
              refine take_ (i := 9) (N := some 92) (v := ?_) (a' := ?_) (ls 22 13311) rfl rfl (by kernel_rfl) (fun _ _ _ h => h) (Or.inl ⟨by rfl, ?_⟩) hHeld ?_ ?_
              rotate_left
              · rintro w' ⟨s0, s1, s2, s3, s4, s5, s6⟩; go_simp; with_reducible rfl
              rotate_left
              · simp only [Act.put, List.setIfInBounds_toArray, List.set_cons_zero, List.set_cons_succ, i64_w, i32_w]; rfl
              refine pure_ (i := 10) (N := some 93) (v := ?_) (a' := ?_) (ls 22 14335) rfl rfl (by kernel_rfl) (fun _ _ _ h => h) (Or.inl ⟨by rfl, ?_⟩) ?_ ?_
              rotate_left
              · intro w'; go_simp; with_reducible rfl
              rotate_left
              · simp only [Act.put, List.setIfInBounds_toArray, List.set_cons_zero, List.set_cons_succ, i64_w, i32_w]; rfl
              refine take_ (i := 11) (N := some 94) (v := ?_) (a' := ?_) (ls 22 16383) rfl rfl (by kernel_rfl) (fun _ _ _ h => h) (Or.inl ⟨by rfl, ?_⟩) hHeld ?_ ?_
              rotate_left
              · rintro w' ⟨s0, s1, s2, s3, s4, s5, s6⟩; go_simp; with_reducible rfl
              rotate_left
              · simp only [Act.put, List.setIfInBounds_toArray, List.set_cons_zero, List.set_cons_succ, i64_w, i32_w]; rfl
              refine take_ (i := 14) (N := some 97) (v := ?_) (a' := ?_) (ls 22 32767) rfl rfl (by kernel_rfl) (fun _ _ _ h => h) (Or.inl ⟨by rfl, ?_⟩) hHeld ?_ ?_
              rotate_left
              · rintro w' ⟨s0, s1, s2, s3, s4, s5, s6⟩; go_simp; with_reducible rfl
              rotate_left
              · simp only [Act.put, List.setIfInBounds_toArray, List.set_cons_zero, List.set_cons_succ, i64_w, i32_w]; rfl
              refine pure_ (i := 15) (N := some 98) (v := ?_) (a' := ?_) (ls 22 65535) rfl rfl (by kernel_rfl) (fun _ _ _ h => h) (Or.inl ⟨by rfl, ?_⟩) ?_ ?_
              rotate_left
              · intro w'; go_simp; with_reducible rfl
              rotate_left
              · simp only [Act.put, List.setIfInBounds_toArray, List.set_cons_zero, List.set_cons_succ, i64_w, i32_w]; rfl
              refine take_ (i := 16) (N := some 99) (v := ?_) (a' := ?_) (ls 22 131071) rfl rfl (by kernel_rfl) (fun _ _ _ h => h) (Or.inl ⟨by rfl, ?_⟩) hHeld ?_ ?_
              rotate_left
              · rintro w' ⟨s0, s1, s2, s3, s4, s5, s6⟩; go_simp; with_reducible rfl
              rotate_left
              · simp only [Act.put, List.setIfInBounds_toArray, List.set_cons_zero, List.set_cons_succ, i64_w, i32_w]; rfl
              refine pure_ (i := 17) (N := some 100) (v := ?_) (a' := ?_) (ls 22 262143) rfl rfl (by kernel_rfl) (fun _ _ _ h => h) (Or.inl ⟨by rfl, ?_⟩) ?_ ?_
              rotate_left
              · intro w'; go_simp; with_reducible rfl
              rotate_left
              · simp only [Act.put, List.setIfInBounds_toArray, List.set_cons_zero, List.set_cons_succ, i64_w, i32_w]; rfl
              refine one_ (i := 18) (N := some 101) (ls 22 524287) rfl rfl (by kernel_rfl) (by decide) (fun K hK => ?_)
              refine value_ (w1 := ?_) (v := ?_) (by rfl) rfl ?_ ?_
              rotate_left 2
              · go_simp
                constructor
                · rfl
                · rfl
              refine hK.out _ _ (by obtain ⟨s0, s1, s2, s3, s4, s5, s6⟩ := hHeld; exact ⟨cell_alloc s0, cell_alloc s1, cell_alloc s2, cell_alloc s3, cell_alloc s4, cell_alloc s5, cell_alloc s6⟩) (fun hHeld => ?_)
              clear hK K
              refine norm_ (a' := ?_) ?_ ?_
              rotate_left
              · simp only [Act.put, List.setIfInBounds_toArray, List.set_cons_zero, List.set_cons_succ, i64_w, i32_w]; rfl
              refine last_ (i := 19) (N := some 102) (ls 22 1048575) rfl rfl (by kernel_rfl) (by decide) (fun K hK => ?_)
              have S7 := Lib.hid (S6.out.on ((Ext.refl (fun _ => False) W6).alloc (.cells #[.int .i64 rl, .int .i64 rr, .int .i64 ri] 35)))
              refine arr_append_step (by rfl) (.tmp 84) (.tmp 101) 23 35 3 24 (.agg #[.int .i64 0, .int .i64 0, .int .i64 0]) rfl Try.underlying23 infoM rfl (by decide) (by decide) pm j cm (flat eM M) rfl (some ⟨W6.heap.size, 0, none⟩) 1 1 rfl [.int .i64 rl, .int .i64 rr, .int .i64 ri] rfl (fun ad h => by injection h with h; subst h; exact World.news_of_block (heap_alloc_new W6 _)) (fun h => by cases h) (by simp [Value.oneCell']) (HLM.out ▸ S7.out.mgs) (by omega) ?_
              intro p1 c1 w7 hA1 hx1 hm1
              have NY := Lib.hid (S7.out.addMerge (x := ⟨rl, rr, ri⟩) (by rw [HLM.out]; exact hA1) hx1 hm1)
              have ob7 := hx1.obj S7.out.ob (fun e => by have := S7.out.f3 _ e; omega)
              have r1 := blk_cell ob7 1
              have r1f := blk_frozen ob7 1
              simp at r1
              clear hA1 hx1 hm1 ob7
              refine hK.out _ _ ?_
              clear hK K
              refine norm_ (a' := ?_) ?_ ?_
              rotate_left
              · simp only [Act.put, List.setIfInBounds_toArray, List.set_cons_zero, List.set_cons_succ, i64_w, i32_w]; rfl
              refine pure_ (i := 20) (N := some 103) (v := ?_) (a' := ?_) (ls 22 2097151) rfl rfl (by kernel_rfl) (fun _ _ _ h => h) (Or.inl ⟨by rfl, ?_⟩) ?_ ?_
              rotate_left
              · intro w'; go_simp; with_reducible rfl
              rotate_left
              · simp only [Act.put, List.setIfInBounds_toArray, List.set_cons_zero, List.set_cons_succ, i64_w, i32_w]; rfl
              refine last_ (i := 21) (N := none) (ls 22 4194303) rfl rfl (by kernel_rfl) (by decide) (fun K hK => ?_)
              refine skip_ (w1 := ?_) (by rfl) rfl ?_ ?_
              rotate_left 1
              · go_simp; rfl
              refine hK.out _ _ ?_
              clear hK K
              refine done_ (by kernel_rfl) ?_
              go_wp2_with fail
              go_roundw
              case rel => exact ⟨j + 1, by go_num, by omega, p1, c1, by rw [HM1.out]; have := NY.out; rwa [HLM.out] at this⟩
              case measure => simp [intOf]; omega
            · obtain rfl : j = n := by omega
              have i1 : ¬ (j : Int) < (j : Int) := by omega
              have HLM := Lib.hid (show ((d.ms.take j).map (cutM I)).length = j from by rw [List.length_map, List.length_take]; omega)
              obtain ⟨M, hM⟩ : ∃ M, (d.ms.take j).map (cutM I) = M := ⟨_, rfl⟩
              rw [hM] at S3 HLM ob
              have HM := Lib.hid hM
              have b0 := S3.out.rs.cell 0 (by decide)
              have b1 := S3.out.rs.cell 1 (by decide)
              have b2 := S3.out.rs.cell 2 (by decide)
              have b3 := S3.out.rs.cell 3 (by decide)
              have b4 := S3.out.rs.cell 4 (by decide)
              have f0 := S3.out.rs.frozen 0
              have f1 := S3.out.rs.frozen 1
              have f2 := S3.out.rs.frozen 2
              have f3 := S3.out.rs.frozen 3
              have f4 := S3.out.rs.frozen 4
              have o0 := blk_cell ob 0
              have o1 := blk_cell ob 1
              have o2 := blk_cell ob 2
              have o3 := blk_cell ob 3
              have o4 := blk_cell ob 4
              simp at o0 o1 o2 o3 o4
              clear hM bx ob o1f
              have RR := ResB.set5 S3.out.rs (.slice pw Wd.length cw) (.slice pm j cm) (.slice L.p2 d.ls.length L.c2) (.slice L.p3 d.ns.length L.c3) (.slice L.p4 d.ss.length L.c4)
              have X := set5_ext (w := wr) (r := w.heap.size + 1) (.slice pw Wd.length cw) (.slice pm j cm) (.slice L.p2 d.ls.length L.c2) (.slice L.p3 d.ns.length L.c3) (.slice L.p4 d.ss.length L.c4)
              have HRR := Lib.hid RR
              have HX := Lib.hid X
              clear RR X
              go_wp2_with fail
              obtain ⟨F, hF⟩ : ∃ F, (((((wr.setCell ⟨w.heap.size + 1, 0, none⟩ (.slice pw Wd.length cw)).setCell ⟨w.heap.size + 1, 1, none⟩ (.slice pm j cm)).setCell ⟨w.heap.size + 1, 2, none⟩ (.slice L.p2 d.ls.length L.c2)).setCell ⟨w.heap.size + 1, 3, none⟩ (.slice L.p3 d.ns.length L.c3)).setCell ⟨w.heap.size + 1, 4, none⟩ (.slice L.p4 d.ss.length L.c4)) = F := ⟨_, rfl⟩
              rw [hF] at HRR HX ⊢
              have r0 := blk_cell HRR.out 0
              have r1 := blk_cell HRR.out 1
              have r2 := blk_cell HRR.out 2
              have r3 := blk_cell HRR.out 3
              have r4 := blk_cell HRR.out 4
              simp at r0 r1 r2 r3 r4
              have EN := Lib.hid (FirstEnd.mk S3.out R.out D.out hn2 HI.out HWd.out HM.out HX.out)
              refine bodyPost_ret (v := .tuple #[.agg #[.slice pw Wd.length cw, .slice pm j cm, .slice L.p2 d.ls.length L.c2, .slice L.p3 d.ns.length L.c3, .slice L.p4 d.ss.length L.c4], .slice pi (256 + d.ms.length) cI]) (by simp [results, Try.f26, go_sem, r0, r1, r2, r3, r4]) rfl (by rw [HN.out]; exact EN.out)
end Go.Proofs.Ytbepmbihonnkaaa.Sl

/- tesseraref24.Down. -/
namespace Go.Proofs.Ytbepmbihonnkaaa.Sl
open Go.Proofs.Ytbepmbihonnkaaa.Lib
open Go.RowKit
set_option linter.unusedVariables false
set_option linter.unusedSimpArgs false

/-- tesseraref24.Down's loops. -/
structure DvSt (w wr : World) (d : Dat) (k : Int) (N nc tb ib : Nat) (tc : Array Value) (S O : List Int) (ps : Option Addr) (cs : Nat) (po : Option Addr) (co : Nat) : Prop where
  stk : Arr wr 3 1 ps S.length cs (ints S)
  out : Arr wr 3 1 po O.length co (ints O)
  nam : Arr wr 3 1 (some ⟨ib, 0, none⟩) N nc (ints (renGo d k (256 + d.ms.length)).1)
  ext : Ext (fun _ => False) w wr
  box : wr.heap[tb]? = some (.cells tc 26 (0, 0))
  f0 : w.heap.size ≤ ib ∧ w.heap.size ≤ tb ∧ tb ≠ ib
  f1 : ∀ j, blkOf ps = some j → w.heap.size ≤ j ∧ j ≠ ib ∧ j ≠ tb ∧ blkOf po ≠ some j
  f2 : ∀ j, blkOf po = some j → w.heap.size ≤ j ∧ j ≠ ib ∧ j ≠ tb
  ok : ∀ x ∈ S, 0 ≤ x ∧ x < (N : Int)
section
variable {w wr W : World} {d : Dat} {k : Int} {N nc tb ib : Nat} {tc : Array Value} {S O : List Int} {ps : Option Addr} {cs : Nat} {po : Option Addr} {co : Nat}
theorem DvSt.on (h : DvSt w wr d k N nc tb ib tc S O ps cs po co) (hx : Ext (fun _ => False) wr W) : DvSt w W d k N nc tb ib tc S O ps cs po co :=
  { h with stk := arr_ext h.stk hx (fun _ _ h => h), out := arr_ext h.out hx (fun _ _ h => h), nam := arr_ext h.nam hx (fun _ _ h => h), ext := h.ext.trans hx (fun _ _ h => h), box := hx.obj h.box (fun h => h) }
/-- The top is taken. -/
theorem DvSt.pop {x : Int} (h : DvSt w wr d k N nc tb ib tc (S ++ [x]) O ps cs po co) : DvSt w wr d k N nc tb ib tc S O ps cs po co :=
  { h with
    stk := by
      have := arr_take h.stk (m := S.length) (by simp)
      unfold ints at this ⊢
      rw [List.map_append, List.take_append_of_le_length (by simp), List.take_of_length_le (by simp)] at this
      exact this
    ok := fun y hy => h.ok y (List.mem_append_left _ hy) }
/-- Ids are put on the stack. -/
theorem DvSt.push {w1 : World} {p1 : Option Addr} {c1 : Nat} {T : List Int} (h : DvSt w wr d k N nc tb ib tc S O ps cs po co)
    (hA : Arr w1 3 1 p1 (S ++ T).length c1 (ints (S ++ T))) (hx1 : Ext (fun j => blkOf ps = some j) wr w1) (hm : Moved wr ps p1) (hT : ∀ x ∈ T, 0 ≤ x ∧ x < (N : Int)) : DvSt w w1 d k N nc tb ib tc (S ++ T) O p1 c1 po co := by
  have b1 := arr_lt h.nam (k := ib) rfl
  have b2 := blk_lt h.box
  have b3 := h.ext.size
  refine ⟨hA, arr_ext h.out hx1 (fun j hj e => (h.f1 j e).2.2.2 hj), arr_ext h.nam hx1 (fun j hj e => by have := h.f1 j e; simp [blkOf] at hj; omega), h.ext.trans hx1 (fun i hi e => by have := h.f1 i e; omega), hx1.obj h.box (fun e => by have := h.f1 _ e; omega), h.f0, fun j hj => ?_, h.f2, fun x hx => ?_⟩
  · rcases hm j hj with h1 | h1
    · exact h.f1 j h1
    · exact ⟨by omega, by omega, by omega, fun e => by have := arr_lt h.out e; omega⟩
  · rcases List.mem_append.1 hx with h1 | h1
    · exact h.ok x h1
    · exact hT x h1
/-- A name is put out. -/
theorem DvSt.put {w1 : World} {p1 : Option Addr} {c1 : Nat} {z : Int} (h : DvSt w wr d k N nc tb ib tc S O ps cs po co)
    (hA : Arr w1 3 1 p1 (O ++ [z]).length c1 (ints (O ++ [z]))) (hx1 : Ext (fun j => blkOf po = some j) wr w1) (hm : Moved wr po p1) : DvSt w w1 d k N nc tb ib tc S (O ++ [z]) ps cs p1 c1 := by
  have b1 := arr_lt h.nam (k := ib) rfl
  have b2 := blk_lt h.box
  have b3 := h.ext.size
  refine ⟨arr_ext h.stk hx1 (fun j hj e => (h.f1 j hj).2.2.2 e), hA, arr_ext h.nam hx1 (fun j hj e => by have := h.f2 j e; simp [blkOf] at hj; omega), h.ext.trans hx1 (fun i hi e => by have := h.f2 i e; omega), hx1.obj h.box (fun e => by have := h.f2 _ e; omega), h.f0, fun j hj => ?_, fun j hj => ?_, h.ok⟩
  · refine ⟨(h.f1 j hj).1, (h.f1 j hj).2.1, (h.f1 j hj).2.2.1, fun e => ?_⟩
    rcases hm j e with h1 | h1
    · exact (h.f1 j hj).2.2.2 h1
    · have := arr_lt h.stk hj; omega
  · rcases hm j hj with h1 | h1
    · exact h.f2 j h1
    · omega
/-- A new stack of one id. -/
theorem DvSt.fresh {x : Int} (h : DvSt w wr d k N nc tb ib tc S O ps cs po co) (hx : 0 ≤ x ∧ x < (N : Int)) : DvSt w (wr.alloc (.cells #[.int .i64 x] 3)) d k N nc tb ib tc [x] O (some ⟨wr.heap.size, 0, none⟩) 1 po co := by
  have h2 := h.on ((Ext.refl (fun _ => False) wr).alloc (.cells #[.int .i64 x] 3))
  have b1 := arr_lt h.nam (k := ib) rfl
  have b2 := blk_lt h.box
  have b3 := h.ext.size
  refine { h2 with stk := World.ownsRow_lit wr #[.int .i64 x] 1 (Nat.zero_le _) (by decide) rfl, f1 := fun j hj => ?_, ok := fun y hy => by simp at hy; subst hy; exact hx }
  simp [blkOf] at hj
  exact ⟨by omega, by omega, by omega, fun e => by have := arr_lt h.out e; omega⟩
theorem DvSt.wipe (h : DvSt w wr d k N nc tb ib tc S O ps cs po co) : DvSt w wr d k N nc tb ib tc [] O none 0 po co :=
  { h with stk := arr_nil _ _ _, f1 := fun j hj => (by cases hj), ok := fun x hx => (by simp at hx) }
end

/-- An id's new name. -/
def newOf (d : Dat) (k : Int) (i : Nat) : Int := if i < 256 then (i : Int) else if (((rankOf d.ms i).getD 0 : Nat) : Int) < k then 256 + ((renGo d k i).2.length : Int) else -1
theorem ren_at (d : Dat) (k : Int) : ∀ n i, i < n → (renGo d k n).1[i]? = some (newOf d k i) := by
  intro n
  induction n with
  | zero => intro i hi; omega
  | succ n ih =>
    intro i hi
    have hl := (renGo_len d k n).1
    have hz : ∃ z, (renGo d k (n + 1)).1 = (renGo d k n).1 ++ [z] ∧ newOf d k n = z := by
      unfold newOf
      by_cases h0 : n < 256
      · exact ⟨_, by rw [renGo_low d k h0], if_pos h0⟩
      · by_cases h1 : (((rankOf d.ms n).getD 0 : Nat) : Int) < k
        · exact ⟨_, by rw [renGo_in d k h0 h1], by rw [if_neg h0, if_pos h1]⟩
        · exact ⟨_, by rw [renGo_out d k h0 h1], by rw [if_neg h0, if_neg h1]⟩
    obtain ⟨z, e, ez⟩ := hz
    rw [e]
    by_cases hin : i < n
    · rw [List.getElem?_append_left (by omega)]
      exact ih i hin
    · obtain rfl : i = n := by omega
      rw [List.getElem?_append_right (by omega), hl, Nat.sub_self, ez]
      rfl
theorem nameOf_new {d : Dat} {k : Int} (hk : 0 ≤ k) {y : Int} (h0 : 0 ≤ y) (h1 : y < 256 + (d.ms.length : Int)) : nameOf d k y = newOf d k y.toNat := by
  unfold nameOf
  rw [show mx k 0 = k from if_neg (by omega), ren_at d k _ _ (by omega)]
  rfl
theorem split24 {d : Dat} (hd : RightD d) {k : Int} (hk : 0 ≤ k) {y : Int} (h0 : 0 ≤ y) (h1 : y < 256 + (d.ms.length : Int)) :
    (0 ≤ nameOf d k y ∧ leavesOf d k y = [y]) ∨
    (∃ (j : Nat) (x : Mrg), d.ms[j]? = some x ∧ y = x.i ∧ nameOf d k y = -1 ∧ leavesOf d k y = leavesOf d k x.l ++ leavesOf d k x.r ∧ 0 ≤ x.l ∧ x.l < 256 + (d.ms.length : Int) ∧ 0 ≤ x.r ∧ x.r < 256 + (d.ms.length : Int)) := by
  rw [nameOf_new hk h0 h1]
  unfold newOf
  by_cases hb : y < 256
  · exact .inl ⟨by rw [if_pos (by omega)]; omega, leavesOf_byte hd hb⟩
  · obtain ⟨j, x, hr, hj, rfl, _⟩ := hd.rank_ex (by omega) h1
    have e : ((x.i.toNat : Nat) : Int) = x.i := by omega
    rw [if_neg (by omega), e, hr]
    by_cases hkj : (j : Int) < k
    · exact .inl ⟨by rw [if_pos (by simpa using hkj)]; omega, leavesOf_low hd hj hkj⟩
    · have hl := hd.part_range (hd.pl j x hj)
      have hr := hd.part_range (hd.pr j x hj)
      exact .inr ⟨j, x, hj, rfl, by rw [if_neg (by simpa using hkj)], leavesOf_at hd hj hkj, hl.1, hl.2, hr.1, hr.2⟩
/-! ### k and k brought into the range -/
theorem kc_lt (d : Dat) (k : Int) {j : Nat} (hj : j < d.ms.length) : ((j : Int) < ((kc d k : Nat) : Int)) ↔ (j : Int) < k := by
  unfold kc
  split
  · omega
  · split <;> omega
theorem leavesG_kc (d : Dat) (k : Int) : ∀ f id, leavesG d.ms ((kc d k : Nat) : Int) f id = leavesG d.ms k f id := by
  intro f
  induction f with
  | zero => intro id; rfl
  | succ f ih =>
    intro id
    rw [leavesG, leavesG]
    cases hr : rankOf d.ms id with
    | none => rfl
    | some r =>
      obtain ⟨x, hx, _, hlt⟩ := rankOf_some hr
      have := kc_lt d k hlt
      by_cases h : (r : Int) < k
      · simp only [if_pos h, if_pos (this.2 h)]
      · simp only [if_neg h, if_neg (fun h2 => h (this.1 h2)), hx, ih]
theorem renGo_kc {d : Dat} (hd : RightD d) (k : Int) : ∀ n, n ≤ 256 + d.ms.length → renGo d ((kc d k : Nat) : Int) n = renGo d (mx k 0) n := by
  intro n
  induction n with
  | zero => intro _; rfl
  | succ n ih =>
    intro hn
    have e := ih (by omega)
    by_cases h0 : n < 256
    · rw [renGo_low d _ h0, renGo_low d _ h0, e]
    · obtain ⟨j, x, hr, hj, hxi, hlt⟩ := hd.rank_ex (id := (n : Int)) (by omega) (by omega)
      have h1 := kc_lt d k hlt
      have h2 : ((j : Int) < mx k 0) ↔ (j : Int) < k := by unfold mx; split <;> omega
      by_cases h : (j : Int) < k
      · rw [renGo_in d _ h0 (by rw [hr]; simpa using h1.2 h), renGo_in d _ h0 (by rw [hr]; simpa using h2.2 h), e]
      · rw [renGo_out d _ h0 (by rw [hr]; simpa using fun h3 => h (h1.1 h3)), renGo_out d _ h0 (by rw [hr]; simpa using fun h3 => h (h2.1 h3)), e]
theorem downT_kc {d : Dat} (hd : RightD d) (k : Int) (ids : List Int) : downT d ((kc d k : Nat) : Int) ids = downT d k ids := by
  have e1 : ∀ x, leavesOf d ((kc d k : Nat) : Int) x = leavesOf d k x := fun x => leavesG_kc d k _ x
  have e2 : ∀ x, nameOf d ((kc d k : Nat) : Int) x = nameOf d k x := fun x => by
    unfold nameOf
    rw [show mx ((kc d k : Nat) : Int) 0 = ((kc d k : Nat) : Int) from if_neg (by omega), renGo_kc hd k _ (Nat.le_refl _)]
  have e1' : leavesOf d ((kc d k : Nat) : Int) = leavesOf d k := funext e1
  have e2' : nameOf d ((kc d k : Nat) : Int) = nameOf d k := funext e2
  unfold downT
  rw [e1', e2']

theorem set3 {w : World} {b t : Nat} {u v y : Value} (h : w.heap[b]? = some (.cells #[u, v, y] t (0, 0))) (a c e : Value) : (((w.setCell ⟨b, 0, none⟩ a).setCell ⟨b, 1, none⟩ c).setCell ⟨b, 2, none⟩ e).heap[b]? = some (.cells #[a, c, e] t (0, 0)) := by
  have h1 := blk_set h 0 a
  have h2 := blk_set h1 1 c
  have h3 := blk_set h2 2 e
  simpa using h3
def Down24End (w : World) (O : List Int) (e : Ending) (w' : World) : Prop := ∃ (po : Option Addr) (co : Nat), e = .returned (.slice po O.length co) ∧ Rd eI w' po O ∧ Ext (fun _ => False) w w'

set_option maxRecDepth 100000 in
set_option maxHeartbeats 8000000 in
theorem down24_any (w : World) (L : Pl) (d : Dat) (k : Int) (q : Option Addr) (cq : Nat) (ids : List Int) (h : DR w L d) (hd : RightD d) (hq : Rd eI w q ids) (hl : ids.length ≤ 1000) (hv : ids.all (validId d) = true) :
    Calls Try.prog 21 #[.agg #[.slice L.p0 d.ws.length L.c0, .slice L.p1 d.ms.length L.c1, .slice L.p2 d.ls.length L.c2, .slice L.p3 d.ns.length L.c3, .slice L.p4 d.ss.length L.c4], .int .i64 k, .slice q ids.length cq] w fun e w' => Down24End w (downT d k ids).1 e w' := by
  have R := Lib.hid h
  have D := Lib.hid hd
  have Q := Lib.hid hq
  have ALL := Lib.hid hv
  have hf := hd.few
  have KK := Lib.hid (downT_kc hd k ids)
  have hb : (w.alloc (.cells (dataCells L d) 26)).heap[w.heap.size]? = _ := heap_alloc_new w _
  have HB := Lib.hid hb
  have XA := Lib.hid (show Ext (fun _ => False) w (w.alloc (.cells (dataCells L d) 26)) from (Ext.refl _ _).alloc _)
  clear h hd hq hv hb
  go_enter Try.func21, Try.ntmps21
  go_wp2_with fail
  refine (first24_any _ L d k (R.out.on XA.out) D.out).mono ?_
  rintro e W ⟨pi, ci, pw, cw, pm, cm, rfl, hA, hDR, hx, hpi⟩
  obtain ⟨ib, rfl⟩ := arr_some hA (by omega)
  obtain ⟨k', hk'⟩ : ∃ k', kc d k = k' := ⟨_, rfl⟩
  rw [hk'] at hA KK ⊢
  have xo : Ext (fun _ => False) W (W.alloc (.cells #[.slice pw (cutD d k').ws.length cw, .slice pm (cutD d k').ms.length cm, .slice L.p2 d.ls.length L.c2, .slice L.p3 d.ns.length L.c3, .slice L.p4 d.ss.length L.c4] 26)) := (Ext.refl _ _).alloc _
  have X1 := Lib.hid (XA.out.trans (hx.trans xo (fun _ _ h => h)) (fun _ _ h => h))
  have S0 := Lib.hid (show DvSt w (W.alloc (.cells #[.slice pw (cutD d k').ws.length cw, .slice pm (cutD d k').ms.length cm, .slice L.p2 d.ls.length L.c2, .slice L.p3 d.ns.length L.c3, .slice L.p4 d.ss.length L.c4] 26)) d k' (256 + d.ms.length) ci w.heap.size ib (dataCells L d) [] [] none 0 none 0 from
    { stk := arr_nil _ _ _, out := arr_nil _ _ _, nam := arr_ext hA xo (fun _ _ h => h), ext := X1.out, box := xo.obj (hx.obj HB.out (fun h => h)) (fun h => h),
      f0 := by have := hpi ib rfl; simp at this; omega
      f1 := fun j hj => by cases hj
      f2 := fun j hj => by cases hj
      ok := fun x hx => by simp at hx })
  clear hA hDR hx hpi xo XA hk'
  obtain ⟨N, hN⟩ : ∃ N : Nat, 256 + d.ms.length = N := ⟨_, rfl⟩
  rw [hN] at S0
  rw [hN]
  have hN2 : N ≤ 4352 := by omega
  have HN := Lib.hid hN
  clear hN
  go_wp2_with fail
  generalize W.alloc (.cells #[.slice pw (cutD d k').ws.length cw, .slice pm (cutD d k').ms.length cm, .slice L.p2 d.ls.length L.c2, .slice L.p3 d.ns.length L.c3, .slice L.p4 d.ss.length L.c4] 26) = W0 at S0 X1 ⊢
  go_loopw [9, 10] (fun v i w2 => ∃ n : Nat, i = .int .i64 n ∧ n ≤ ids.length ∧ ∃ (O : List Int) (po : Option Addr) (co : Nat), v = .slice po O.length co ∧ O = ((ids.take n).flatMap (leavesOf d k')).map (nameOf d k') ∧ DvSt w w2 d k' N ci w.heap.size ib (dataCells L d) [] O none 0 po co) (fun _ i _ => ids.length - (intOf i).toNat)
  case atStart => exact ⟨0, rfl, by omega, [], none, 0, rfl, rfl, S0.out⟩
  case round =>
    obtain ⟨m, rfl, hm, O, po, co, rfl, hO, hst⟩ := hrel
    have ST := Lib.hid hst
    have HO := Lib.hid hO
    clear hst S0 hO
    by_cases hlt : m < ids.length
    · have i1 : (m : Int) < (ids.length : Int) := by omega
      obtain ⟨x, hx⟩ : ∃ x, ids[m]? = some x := ⟨_, List.getElem?_eq_getElem hlt⟩
      obtain ⟨b, o, hp, hb, cx⟩ := (Q.out.on ST.out.ext).cellI hx
      have HX := Lib.hid hx
      have HV := Lib.hid (show 0 ≤ x ∧ x < (N : Int) from by
        have := List.all_eq_true.1 ALL.out x (List.mem_of_getElem? hx)
        unfold validId at this
        rw [Bool.and_eq_true] at this
        have h1 := of_decide_eq_true this.1
        have h2 := of_decide_eq_true this.2
        have := HN.out
        omega)
      have S1 := Lib.hid (ST.out.fresh HV.out)
      clear hx
      rw [hp]
      go_wp2_with fail
      obtain ⟨G, hG⟩ : ∃ G, O ++ (leavesOf d k' x).map (nameOf d k') = G := ⟨_, rfl⟩
      have HG := Lib.hid (show G = ((ids.take (m + 1)).flatMap (leavesOf d k')).map (nameOf d k') from by
        rw [← hG, HO.out, List.take_add_one, HX.out]
        simp)
      have GL := Lib.hid (show G.length ≤ 256000 from by
        rw [HG.out, List.length_map]
        refine Nat.le_trans (flat_len D.out k' fun y hy => ?_) (by rw [List.length_take]; omega)
        have := List.all_eq_true.1 ALL.out y (List.mem_of_mem_take hy)
        unfold validId at this
        rw [Bool.and_eq_true] at this
        exact ⟨of_decide_eq_true this.1, of_decide_eq_true this.2⟩)
      have HG0 := Lib.hid hG
      clear hG
      go_loopw [9, 11] (fun v s w3 => ∃ (S O : List Int) (ps : Option Addr) (cs : Nat) (po : Option Addr) (co : Nat), s = .slice ps S.length cs ∧ v = .slice po O.length co ∧ O ++ (stkLeaves d k' S).map (nameOf d k') = G ∧ DvSt w w3 d k' N ci w.heap.size ib (dataCells L d) S O ps cs po co) (fun _ s w3 => nodes d k' (stkOf w3 s))
      case atStart => exact ⟨[x], O, _, 1, po, co, rfl, rfl, by rw [← HG0.out]; simp [stkLeaves], S1.out⟩
      case round =>
        clear ST S1 HO HG0
        obtain ⟨S, O, ps, cs, po, co, rfl, rfl, hG, hst⟩ := hrel
        have ST := Lib.hid hst
        have HG1 := Lib.hid hG
        clear hst hG
        rcases List.eq_nil_or_concat S with rfl | ⟨S, y, rfl⟩
        · have E := Lib.hid (show O = G from by have := HG1.out; rwa [stkLeaves_nil, List.map_nil, List.append_nil] at this)
          go_wp2_with fail
          go_roundw
          case rel => exact ⟨m + 1, by go_num, by omega, O, po, co, rfl, by rw [E.out, HG.out], ST.out.wipe⟩
          case measure => simp [intOf]; omega
        · have OK := Lib.hid (ST.out.ok y (by simp))
          have hsl : (S.concat y).length = S.length + 1 := by simp
          have hA := ST.out.stk
          obtain ⟨sa, rfl⟩ := arr_some hA (by omega)
          have cy : wr.cell? ⟨sa, S.length, none⟩ = some (.int .i64 y) := by
            refine (arr_cell hA S.length (by omega)).trans ?_
            simp [ints]
          have hcap := (arr_cap hA).1
          have P := Lib.hid (DvSt.pop (by have := ST.out; rwa [List.concat_eq_append] at this))
          have SM := Lib.hid (stkOf_arr hA)
          have HG2 := Lib.hid (show O ++ ((leavesOf d k' y).map (nameOf d k') ++ (stkLeaves d k' S).map (nameOf d k')) = G from by
            have := HG1.out
            rwa [List.concat_eq_append, stkLeaves_snoc, List.map_append] at this)
          have bx := ST.out.box
          have b0 := blk_cell bx 0
          have b1 := blk_cell bx 1
          have b2 := blk_cell bx 2
          have b3 := blk_cell bx 3
          have b4 := blk_cell bx 4
          simp [dataCells] at b0 b1 b2 b3 b4
          obtain ⟨n1, hn1⟩ : ∃ n1, S.length = n1 := ⟨_, rfl⟩
          rw [hn1] at cy hsl
          rw [hsl] at hcap
          have HSL := Lib.hid hsl
          have HN1 := Lib.hid hn1
          have hn1s : n1 ≤ 256000 := by
            have h1 := stk_len D.out k' (S := S) (fun z hz => by have := P.out.ok z hz; have := HN.out; omega)
            have h2 := congrArg List.length HG2.out
            have h3 := GL.out
            simp at h2
            omega
          rw [hsl]
          clear hA bx hn1 hsl cx hb
          obtain ⟨hy0, hy1⟩ := OK.out
          have hnm : wr.cell? ⟨ib, y.toNat, none⟩ = some (.int .i64 (nameOf d k' y)) := by
            have hlen := (renGo_len d k' (256 + d.ms.length)).1
            have := HN.out
            rw [nameOf_new (by omega) hy0 (by omega)]
            refine (arr_cell ST.out.nam y.toNat (by omega)).trans ?_
            unfold ints
            rw [List.getElem?_map, ren_at d k' _ _ (by omega)]
            rfl
          have hnc := (arr_cap ST.out.nam).1
          rcases split24 D.out (k := k') (by omega) hy0 (by have := HN.out; omega) with ⟨hnn, hlv⟩ | ⟨j, x, hj, rfl, hneg, hlv, hl0, hl1, hr0, hr1⟩
          · have LV := Lib.hid hlv
            obtain ⟨nm, hnme⟩ : ∃ nm, nameOf d k' y = nm := ⟨_, rfl⟩
            rw [hnme] at hnm hnn
            have HG3 := Lib.hid (show O ++ [nm] ++ (stkLeaves d k' S).map (nameOf d k') = G from by
              have := HG2.out
              rw [LV.out, List.map_cons, List.map_nil, hnme] at this
              rw [← this]
              simp)
            have hO1 : O.length < 256000 := by
              have h2 := congrArg List.length HG3.out
              have h3 := GL.out
              simp at h2
              omega
            have d1 : decide (nm ≥ 0) = true := decide_eq_true (by omega)
            clear hlv hnme
            go_wp2_with (at_builtin; refine arr_append1 rfl (.tmp 50) (.tmp 55) 27 3 1 8 (.int .i64 0) rfl Try.underlying27 infoI rfl (by decide) (by decide) po O.length co (ints O) [.int .i64 nm] rfl _ rfl (by simp) rfl (by simp [Value.oneCell']) P.out.out (by omega) ?_; intro p1 c1 w5 hA1 hx1 hm1; have NX := Lib.hid (P.out.put (z := nm) (by simpa [ints] using hA1) hx1 hm1); clear hA1 hx1 hm1)
            go_roundw
            case rel => exact ⟨S, O ++ [nm], _, cs, p1, c1, by rw [HN1.out], by simp, HG3.out, NX.out⟩
            case measure =>
              rw [show n1 + 1 = (S.concat y).length from HSL.out.symm, SM.out, ← HN1.out, stkOf_arr NX.out.stk, List.concat_eq_append, nodes_snoc, LV.out]
              simp
          · have LV := Lib.hid hlv
            have HJ := Lib.hid hj
            have HG3 := Lib.hid (show O ++ (stkLeaves d k' (S ++ [x.r, x.l])).map (nameOf d k') = G from by
              have := HG2.out
              rw [LV.out] at this
              rw [← this, show S ++ [x.r, x.l] = (S ++ [x.r]) ++ [x.l] from by simp, stkLeaves_snoc, stkLeaves_snoc]
              simp)
            rw [hneg] at hnm
            have RT := Lib.hid (rank24_at D.out hj)
            have hjl := (List.getElem?_eq_some_iff.1 hj).1
            clear hlv hneg hj
            go_wp2_with fail
            have cells : ∀ w', Ext (fun _ => False) wr w' → (w'.cell? ⟨w.heap.size, 0, none⟩ = some (.slice L.p0 d.ws.length L.c0) ∧ w'.cell? ⟨w.heap.size, 1, none⟩ = some (.slice L.p1 d.ms.length L.c1) ∧ w'.cell? ⟨w.heap.size, 2, none⟩ = some (.slice L.p2 d.ls.length L.c2) ∧
                w'.cell? ⟨w.heap.size, 3, none⟩ = some (.slice L.p3 d.ns.length L.c3) ∧ w'.cell? ⟨w.heap.size, 4, none⟩ = some (.slice L.p4 d.ss.length L.c4)) ∧ Ext (fun _ => False) wr w' := fun w' e =>
              have b := e.obj P.out.box (fun h => h)
              ⟨⟨blk_cell b 0, blk_cell b 1, blk_cell b 2, blk_cell b 3, blk_cell b 4⟩, e⟩
            obtain ⟨mb, mo, hp1, hmb, c0, c1, c2⟩ := (R.out.on P.out.ext).r1.cellM HJ.out
            have HM := Lib.hid (show ∀ w', Ext (fun _ => False) wr w' → (w'.cell? ⟨w.heap.size, 0, none⟩ = some (.slice L.p0 d.ws.length L.c0) ∧ w'.cell? ⟨w.heap.size, 1, none⟩ = some (.slice (some ⟨mb, mo, none⟩) d.ms.length L.c1) ∧ w'.cell? ⟨w.heap.size, 2, none⟩ = some (.slice L.p2 d.ls.length L.c2) ∧
                w'.cell? ⟨w.heap.size, 3, none⟩ = some (.slice L.p3 d.ns.length L.c3) ∧ w'.cell? ⟨w.heap.size, 4, none⟩ = some (.slice L.p4 d.ss.length L.c4) ∧ w'.cell? ⟨mb, mo + j * 3, none⟩ = some (.int .i64 x.l) ∧ w'.cell? ⟨mb, mo + j * 3 + 1, none⟩ = some (.int .i64 x.r) ∧ w'.cell? ⟨mb, mo + j * 3 + 2, none⟩ = some (.int .i64 x.i)) ∧ Ext (fun _ => False) wr w' from fun w' e => by
              obtain ⟨⟨k0, k1, k2, k3, k4⟩, _⟩ := cells w' e
              rw [hp1] at k1
              exact ⟨⟨k0, k1, k2, k3, k4, (e.cell (p := ⟨mb, _, none⟩) hmb (fun h => h)).trans c0, (e.cell (p := ⟨mb, _, none⟩) hmb (fun h => h)).trans c1, (e.cell (p := ⟨mb, _, none⟩) hmb (fun h => h)).trans c2⟩, e⟩)
            have C1 := Lib.hid (show ∀ w', Ext (fun _ => False) wr w' → Calls Try.prog 43 #[.agg #[.slice L.p0 d.ws.length L.c0, .slice (some ⟨mb, mo, none⟩) d.ms.length L.c1, .slice L.p2 d.ls.length L.c2, .slice L.p3 d.ns.length L.c3, .slice L.p4 d.ss.length L.c4], .int .i64 x.i] w' fun e w'' => e = .returned (.int .i64 (j : Int)) ∧ Ext (fun _ => False) w' w'' from fun w' e => by
              have := rank24_any w' L d x.i (R.out.on (P.out.ext.trans e (fun _ _ h => h))) (by omega) (by have := D.out.len; omega)
              rw [hp1, RT.out] at this
              exact this)
            have B1 := Lib.hid (show Ext (fun _ => False) wr wr.drew from Ext.drew (Ext.refl _ _))
            have C2 := Lib.hid (show ∀ w', Ext (fun _ => False) wr w' → w'.heap[wr.heap.size]? = some (.cells #[.int .i64 0, .int .i64 0, .int .i64 0] 35 (0, 0)) → Calls Try.prog 43 #[.agg #[.slice L.p0 d.ws.length L.c0, .slice (some ⟨mb, mo, none⟩) d.ms.length L.c1, .slice L.p2 d.ls.length L.c2, .slice L.p3 d.ns.length L.c3, .slice L.p4 d.ss.length L.c4], .int .i64 x.i] w' fun e w'' => e = .returned (.int .i64 (j : Int)) ∧ Ext (fun _ => False) wr w'' ∧
                w''.cell? ⟨wr.heap.size, 0, none⟩ = some (.int .i64 0) ∧ w''.cell? ⟨wr.heap.size, 1, none⟩ = some (.int .i64 0) ∧ w''.cell? ⟨wr.heap.size, 2, none⟩ = some (.int .i64 0) ∧ w''.frozen? ⟨wr.heap.size, 0, none⟩ = false ∧ w''.frozen? ⟨wr.heap.size, 1, none⟩ = false ∧ w''.frozen? ⟨wr.heap.size, 2, none⟩ = false ∧ w''.heap[wr.heap.size]? = some (.cells #[.int .i64 0, .int .i64 0, .int .i64 0] 35 (0, 0)) from fun w' e hb =>
              (C1.out w' e).mono fun e' w'' ⟨h1, h2⟩ => by
                have ob := h2.obj hb (fun h => h)
                exact ⟨h1, e.trans h2 (fun _ _ h => h), blk_cell ob 0, blk_cell ob 1, blk_cell ob 2, blk_frozen ob 0, blk_frozen ob 1, blk_frozen ob 2, ob⟩)
            have S3X := Lib.hid (show ∀ (W4 : World) (a b c : Value), Ext (fun _ => False) wr W4 → Ext (fun _ => False) wr (((W4.setCell ⟨wr.heap.size, 0, none⟩ a).setCell ⟨wr.heap.size, 1, none⟩ b).setCell ⟨wr.heap.size, 2, none⟩ c) from fun W4 a b c e =>
              ((e.setCell (p := ⟨wr.heap.size, 0, none⟩) (fun h => absurd h (Nat.lt_irrefl _)) a).setCell (p := ⟨wr.heap.size, 1, none⟩) (fun h => absurd h (Nat.lt_irrefl _)) b).setCell (p := ⟨wr.heap.size, 2, none⟩) (fun h => absurd h (Nat.lt_irrefl _)) c)
            have j1 : (j : Int) < (d.ms.length : Int) := by omega
            clear cells c0 c1 c2 hp1 hmb b0 b1 b2 b3 b4 cy hnm
            go_region_held3 (fun w' => (w'.cell? ⟨w.heap.size, 0, none⟩ = some (.slice L.p0 d.ws.length L.c0) ∧ w'.cell? ⟨w.heap.size, 1, none⟩ = some (.slice (some ⟨mb, mo, none⟩) d.ms.length L.c1) ∧ w'.cell? ⟨w.heap.size, 2, none⟩ = some (.slice L.p2 d.ls.length L.c2) ∧
                w'.cell? ⟨w.heap.size, 3, none⟩ = some (.slice L.p3 d.ns.length L.c3) ∧ w'.cell? ⟨w.heap.size, 4, none⟩ = some (.slice L.p4 d.ss.length L.c4) ∧ w'.cell? ⟨mb, mo + j * 3, none⟩ = some (.int .i64 x.l) ∧ w'.cell? ⟨mb, mo + j * 3 + 1, none⟩ = some (.int .i64 x.r) ∧ w'.cell? ⟨mb, mo + j * 3 + 2, none⟩ = some (.int .i64 x.i)) ∧ Ext (fun _ => False) wr w')
              (first | exact HM.out _ (by assumption) | exact HM.out _ B1.out | exact HM.out _ (B1.out.alloc _) | exact HM.out _ E1.out | exact HM.out _ (E1.out.alloc _) | exact HM.out _ (S3X.out _ _ _ _ E1.out))
              (first
                | (go_at_call 43; (with_reducible refine (C1.out _ ?_).mono ?_); (exact B1.out); rintro e W4 ⟨rfl, x4⟩; have E1 := Lib.hid (B1.out.trans x4 (fun _ _ h => h)))
                | (go_at_call 43; (with_reducible refine (C2.out _ ?_ ?_).mono ?_); (repeat (first | exact Ext.refl _ _ | refine Ext.drew ?_ | refine Ext.drewN ?_ _ | refine Ext.alloc ?_ _)); (exact heap_alloc_new wr _); rintro e W4 ⟨rfl, e1, u0, u1, u2, v0, v1, v2, ob⟩; have E1 := Lib.hid e1; have OB := Lib.hid ob; clear e1 ob))
            · obtain ⟨xb, hxb⟩ : ∃ xb, W4.heap.size = xb := ⟨_, rfl⟩
              have hle : wr.heap.size ≤ xb := by rw [← hxb]; exact E1.out.size
              have XB := Lib.hid (show (W4.alloc (.cells #[.int .i64 x.l, .int .i64 x.r, .int .i64 x.i] 35)).heap[xb]? = some (.cells #[.int .i64 x.l, .int .i64 x.r, .int .i64 x.i] 35 (0, 0)) from by rw [← hxb]; exact heap_alloc_new W4 _)
              have E6 := Lib.hid (E1.out.alloc (.cells #[.int .i64 x.l, .int .i64 x.r, .int .i64 x.i] 35))
              rw [hxb]
              clear hxb
              generalize W4.alloc (.cells #[.int .i64 x.l, .int .i64 x.r, .int .i64 x.i] 35) = W6 at XB E6 ⊢
              have g0 := blk_cell XB.out 0
              have g1 := blk_cell XB.out 1
              simp at g0 g1
              have P6 := Lib.hid (P.out.on E6.out)
              have P7 := Lib.hid (P6.out.on ((Ext.refl (fun _ => False) W6).alloc (.cells #[.int .i64 x.r, .int .i64 x.l] 3)))
              go_wp2_with (at_builtin; refine arr_append rfl (.tmp 64) (.tmp 69) 27 3 1 8 (.int .i64 0) rfl Try.underlying27 infoI rfl (by decide) (by decide) (some ⟨sa, 0, none⟩) n1 cs (ints S) rfl (some ⟨W6.heap.size, 0, none⟩) 2 2 rfl [.int .i64 x.r, .int .i64 x.l] rfl (fun ad h => by injection h with h; subst h; exact World.news_of_block (heap_alloc_new W6 _)) (fun h => by cases h) (by simp [Value.oneCell']) (HN1.out ▸ P7.out.stk) (by omega) ?_; intro p1 c1 w5 hA1 hx1 hm1; have NX := Lib.hid (P7.out.push (T := [x.r, x.l]) (by simpa [ints, HN1.out] using hA1) hx1 hm1 (fun z hz => by have := HN.out; simp at hz; rcases hz with rfl | rfl <;> omega)); clear hA1 hx1 hm1)
              go_roundw
              case rel => exact ⟨S ++ [x.r, x.l], O, p1, c1, po, co, by simp [HN1.out], rfl, HG3.out, NX.out⟩
              case measure =>
                have e5 := stkOf_arr NX.out.stk
                rw [show (S ++ [x.r, x.l]).length = n1 + 2 from by simp [HN1.out]] at e5
                rw [show n1 + 1 = (S.concat x.i).length from HSL.out.symm, SM.out, e5, List.concat_eq_append, show S ++ [x.r, x.l] = (S ++ [x.r]) ++ [x.l] from by simp, nodes_snoc, nodes_snoc, nodes_snoc, LV.out, List.length_append]
                have h1 := (leavesOf_len D.out k' hl0 hl1).1
                have h2 := (leavesOf_len D.out k' hr0 hr1).1
                omega
            · have XB := Lib.hid (set3 OB.out (.int .i64 x.l) (.int .i64 x.r) (.int .i64 x.i))
              have E6 := Lib.hid (S3X.out W4 (.int .i64 x.l) (.int .i64 x.r) (.int .i64 x.i) E1.out)
              have hle : wr.heap.size ≤ wr.heap.size := Nat.le_refl _
              clear u0 u1 u2 v0 v1 v2
              generalize ((W4.setCell ⟨wr.heap.size, 0, none⟩ (.int .i64 x.l)).setCell ⟨wr.heap.size, 1, none⟩ (.int .i64 x.r)).setCell ⟨wr.heap.size, 2, none⟩ (.int .i64 x.i) = W6 at XB E6 ⊢
              generalize wr.heap.size = xb at XB ⊢
              have g0 := blk_cell XB.out 0
              have g1 := blk_cell XB.out 1
              simp at g0 g1
              have P6 := Lib.hid (P.out.on E6.out)
              have P7 := Lib.hid (P6.out.on ((Ext.refl (fun _ => False) W6).alloc (.cells #[.int .i64 x.r, .int .i64 x.l] 3)))
              go_wp2_with (at_builtin; refine arr_append rfl (.tmp 64) (.tmp 69) 27 3 1 8 (.int .i64 0) rfl Try.underlying27 infoI rfl (by decide) (by decide) (some ⟨sa, 0, none⟩) n1 cs (ints S) rfl (some ⟨W6.heap.size, 0, none⟩) 2 2 rfl [.int .i64 x.r, .int .i64 x.l] rfl (fun ad h => by injection h with h; subst h; exact World.news_of_block (heap_alloc_new W6 _)) (fun h => by cases h) (by simp [Value.oneCell']) (HN1.out ▸ P7.out.stk) (by omega) ?_; intro p1 c1 w5 hA1 hx1 hm1; have NX := Lib.hid (P7.out.push (T := [x.r, x.l]) (by simpa [ints, HN1.out] using hA1) hx1 hm1 (fun z hz => by have := HN.out; simp at hz; rcases hz with rfl | rfl <;> omega)); clear hA1 hx1 hm1)
              go_roundw
              case rel => exact ⟨S ++ [x.r, x.l], O, p1, c1, po, co, by simp [HN1.out], rfl, HG3.out, NX.out⟩
              case measure =>
                have e5 := stkOf_arr NX.out.stk
                rw [show (S ++ [x.r, x.l]).length = n1 + 2 from by simp [HN1.out]] at e5
                rw [show n1 + 1 = (S.concat x.i).length from HSL.out.symm, SM.out, e5, List.concat_eq_append, show S ++ [x.r, x.l] = (S ++ [x.r]) ++ [x.l] from by simp, nodes_snoc, nodes_snoc, nodes_snoc, LV.out, List.length_append]
                have h1 := (leavesOf_len D.out k' hl0 hl1).1
                have h2 := (leavesOf_len D.out k' hr0 hr1).1
                omega
    · have hn2 : m = ids.length := by omega
      have i1 : ¬ ((m : Int) < (ids.length : Int)) := by omega
      have E := Lib.hid (show downT d k ids = (O, 0) from by rw [← KK.out]; unfold downT; rw [if_pos ALL.out, HO.out, hn2, List.take_length])
      clear hn2
      go_wp2_with fail
      go_ret
      exact ⟨po, co, by rw [E.out]; rfl, by rw [E.out]; exact ints_rd ST.out.out, ST.out.ext⟩
end Go.Proofs.Ytbepmbihonnkaaa.Sl
