/- Texts of the proof of TopFiner, part 13 of 17: PruneL, Ref24, PruneK, Down24. -/
import Derived.Deep.DeepCutAuto
import Derived.Test.YtjffafcagklpiaaDoorZTopFiner6
import Derived.Test.YtjffafcagklpiaaDoorZTopFiner8
import Derived.Test.YtjffafcagklpiaaDoorZTopFiner9
/- Merged of PruneT, PruneOf, PruneD, PruneR, PruneL. -/
/- model.Data; prune's table. -/
namespace Go.Proofs.YtjffafcagklpiaaDoor.Sl
open Go.Proofs.YtjffafcagklpiaaDoor.Lib
open Go.RowKit
set_option linter.unusedVariables false
set_option linter.unusedSimpArgs false

set_option maxRecDepth 100000 in
set_option maxHeartbeats 2000000 in
theorem data_any (w : World) (a : Nat) (d : Dat) (h : IsModel w a d) : Calls Tryd.prog 32 #[.pointer (some ⟨a, 0, none⟩)] w fun e w' => Copied w d e w' := by
  obtain ⟨L, tp, mp, q0, q1, q2, d0, d1, d2, hM⟩ := h
  have e0 := hM.blk.c0
  have e1 := hM.blk.c1
  have e2 := hM.blk.c2
  have e3 := hM.blk.c3
  have e4 := hM.blk.c4
  have ha := blk_lt hM.blk.blk
  have R := Lib.hid hM.rd
  clear hM
  have hb : (w.alloc (.cells #[.slice none 0 0, .slice none 0 0, .slice none 0 0, .slice none 0 0, .slice none 0 0] 26)).heap[w.heap.size]? = _ := heap_alloc_new w _
  have X0 := Lib.hid ((Ext.refl (fun _ => False) w).alloc (.cells #[.slice none 0 0, .slice none 0 0, .slice none 0 0, .slice none 0 0, .slice none 0 0] 26))
  have C := Lib.hid (copied_any _ L d (R.out.on X0.out))
  have HB := Lib.hid hb
  clear hb
  go_enter Tryd.func32, Tryd.ntmps32
  go_wp2_with fail
  refine C.out.mono ?_
  rintro e W ⟨L2, rfl, hD, hx⟩
  have B := Lib.hid (show ResB W w.heap.size 26 5 from ⟨_, hx.obj HB.out (fun h => h), rfl⟩)
  have X1 := Lib.hid (X0.out.trans hx (fun _ _ h => h))
  have D := Lib.hid hD
  clear hx hD C
  have b0 := B.out.cell 0 (by decide)
  have b1 := B.out.cell 1 (by decide)
  have b2 := B.out.cell 2 (by decide)
  have b3 := B.out.cell 3 (by decide)
  have b4 := B.out.cell 4 (by decide)
  have c0 := B.out.frozen 0
  have c1 := B.out.frozen 1
  have c2 := B.out.frozen 2
  have c3 := B.out.frozen 3
  have c4 := B.out.frozen 4
  go_wp2_with fail
  obtain ⟨F, hF⟩ : ∃ F, (((((W.setCell ⟨w.heap.size, 0, none⟩ (.slice L2.p0 d.ws.length L2.c0)).setCell ⟨w.heap.size, 1, none⟩ (.slice L2.p1 d.ms.length L2.c1)).setCell ⟨w.heap.size, 2, none⟩ (.slice L2.p2 d.ls.length L2.c2)).setCell ⟨w.heap.size, 3, none⟩ (.slice L2.p3 d.ns.length L2.c3)).setCell ⟨w.heap.size, 4, none⟩ (.slice L2.p4 d.ss.length L2.c4)) = F := ⟨_, rfl⟩
  have RR := ResB.set5 B.out (.slice L2.p0 d.ws.length L2.c0) (.slice L2.p1 d.ms.length L2.c1) (.slice L2.p2 d.ls.length L2.c2) (.slice L2.p3 d.ns.length L2.c3) (.slice L2.p4 d.ss.length L2.c4)
  have X := set5_ext (w := W) (r := w.heap.size) (.slice L2.p0 d.ws.length L2.c0) (.slice L2.p1 d.ms.length L2.c1) (.slice L2.p2 d.ls.length L2.c2) (.slice L2.p3 d.ns.length L2.c3) (.slice L2.p4 d.ss.length L2.c4)
  rw [hF] at RR X ⊢
  have r0 := blk_cell RR 0
  have r1 := blk_cell RR 1
  have r2 := blk_cell RR 2
  have r3 := blk_cell RR 3
  have r4 := blk_cell RR 4
  simp at r0 r1 r2 r3 r4
  refine bodyPost_ret (v := .agg #[.slice L2.p0 d.ws.length L2.c0, .slice L2.p1 d.ms.length L2.c1, .slice L2.p2 d.ls.length L2.c2, .slice L2.p3 d.ns.length L2.c3, .slice L2.p4 d.ss.length L2.c4]) (by simp [results, Tryd.f32, go_sem, r0, r1, r2, r3, r4]) rfl ⟨L2, rfl, ?_, ?_⟩
  · have D := D.out
    have m0 := D.n0
    have m1 := D.n1
    have m2 := D.n2
    have m3 := D.n3
    have m4 := D.n4
    simp only [World.size_alloc] at m0 m1 m2 m3 m4
    exact ⟨arr_ext D.a0 X (fun k hk h => by have := m0 k hk; omega), arr_ext D.a1 X (fun k hk h => by have := m1 k hk; omega), arr_ext D.a2 X (fun k hk h => by have := m2 k hk; omega), arr_ext D.a3 X (fun k hk h => by have := m3 k hk; omega), arr_ext D.a4 X (fun k hk h => by have := m4 k hk; omega),
      fun k hk => by have := m0 k hk; omega, fun k hk => by have := m1 k hk; omega, fun k hk => by have := m2 k hk; omega, fun k hk => by have := m3 k hk; omega, fun k hk => by have := m4 k hk; omega⟩
  · exact X1.out.trans X (fun i hi h => by omega)

/-- prune's table, read. -/
structure TBL (w : World) (L : Pl) (d : Dat) (pr : Option Addr) (cr : Nat) (R : List Int) : Prop where
  rd : DR w L d
  rr : Rd eI w pr R
  rl : R.length = d.ms.length
  rk : ∀ (k : Nat) (x : Mrg), d.ms[k]? = some x → R[(x.i - 256).toNat]? = some (k : Int)
  rc : R.length ≤ cr
  lt : ∀ p, p = L.p0 ∨ p = L.p1 ∨ p = L.p2 ∨ p = L.p3 ∨ p = L.p4 → ∀ k, blkOf p = some k → k < w.heap.size
  ltr : ∀ k, blkOf pr = some k → k < w.heap.size
theorem TBL.on {w w' : World} {L : Pl} {d : Dat} {pr : Option Addr} {cr : Nat} {R : List Int} (h : TBL w L d pr cr R) (hx : Ext (fun _ => False) w w') : TBL w' L d pr cr R := { h with rd := h.rd.on hx, rr := h.rr.on hx, lt := fun p hp k hk => Nat.lt_of_lt_of_le (h.lt p hp k hk) hx.size, ltr := fun k hk => Nat.lt_of_lt_of_le (h.ltr k hk) hx.size }
/-- An id's rank, as the table tells it. -/
def rankT (d : Dat) (id : Int) : Int × Bool := if id < 256 then (0, false) else if 256 + (d.ms.length : Int) ≤ id then (0, false) else ((((rankOf d.ms id).getD 0 : Nat) : Int), true)
theorem TBL.rank_at {w : World} {L : Pl} {d : Dat} {pr : Option Addr} {cr : Nat} {R : List Int} (h : TBL w L d pr cr R) (hd : RightD d) {id : Int} (h0 : 256 ≤ id) (h1 : id < 256 + (d.ms.length : Int)) : R[(id - 256).toNat]? = some (rankT d id).1 ∧ (rankT d id).2 = true := by
  obtain ⟨k, x, hk, hx, e, hlt⟩ := hd.rank_ex h0 h1
  unfold rankT
  rw [if_neg (by omega), if_neg (by omega), hk]
  have := h.rk k x hx
  rw [e] at this
  exact ⟨this, rfl⟩
set_option maxHeartbeats 1000000 in
theorem rank_any (w : World) (L : Pl) (d : Dat) (pr : Option Addr) (cr : Nat) (R : List Int) (id : Int) (h : TBL w L d pr cr R) (hd : RightD d) (hid : inI id) :
    Calls Tryd.prog 33 #[.agg #[.slice L.p0 d.ws.length L.c0, .slice L.p1 d.ms.length L.c1, .slice L.p2 d.ls.length L.c2, .slice L.p3 d.ns.length L.c3, .slice L.p4 d.ss.length L.c4, .slice pr R.length cr], .int .i64 id] w fun e w' => e = .returned (.tuple #[.int .i64 (rankT d id).1, .bool (rankT d id).2]) ∧ Ext (fun _ => False) w w' := by
  have T := Lib.hid h
  have hl := h.rl
  have hf := hd.few
  have D := Lib.hid hd
  clear h hd
  by_cases h0 : id < 256
  · have E := Lib.hid (show rankT d id = (0, false) from if_pos h0)
    have d0 : decide (id < 256) = true := decide_eq_true h0
    go_enter Tryd.func33, Tryd.ntmps33
    go_wp2_with fail
    go_ret2
    exact ⟨by rw [E.out]; rfl, (Ext.refl _ _).alloc _⟩
  · have d0 : decide (id < 256) = false := decide_eq_false h0
    by_cases h1 : 256 + (d.ms.length : Int) ≤ id
    · have E := Lib.hid (show rankT d id = (0, false) from by unfold rankT; rw [if_neg h0, if_pos h1])
      have HL := Lib.hid hl
      obtain ⟨i0, i1⟩ := hid
      have d1 : decide (id - 256 ≥ (R.length : Int)) = true := decide_eq_true (by omega)
      have hR : R.length ≤ 4096 := by omega
      clear hl
      go_enter Tryd.func33, Tryd.ntmps33
      go_wp2_with fail
      go_ret2
      exact ⟨by rw [E.out]; rfl, (Ext.refl _ _).alloc _⟩
    · obtain ⟨c, hv⟩ := T.out.rank_at D.out (id := id) (by omega) (by omega)
      obtain ⟨z, hz⟩ : ∃ z, (rankT d id).1 = z := ⟨_, rfl⟩
      rw [hz] at c
      obtain ⟨b, o, rfl, hb, c0⟩ := T.out.rr.cellI c
      have E := Lib.hid (show rankT d id = (z, true) from by rw [← hz, ← hv])
      have HL := Lib.hid hl
      have i0 : 0 ≤ id - 256 := by omega
      have i1 : id - 256 < (R.length : Int) := by omega
      have d1 : decide (id - 256 ≥ (R.length : Int)) = false := decide_eq_false (by omega)
      have hR : R.length ≤ 4096 := by omega
      clear c hv hz hl
      go_enter Tryd.func33, Tryd.ntmps33
      go_wp2_with fail
      go_ret2
      exact ⟨by rw [E.out]; rfl, (Ext.refl _ _).alloc _⟩


/-- Asked by a function of a rank: the part, and whether there is a merge. -/
def askT (d : Dat) (id : Int) (f : Mrg → Int) : Int × Bool := if id < 256 then (0, false) else if 256 + (d.ms.length : Int) ≤ id then (0, false) else ((d.ms[(rankOf d.ms id).getD 0]?.map f).getD 0, true)
theorem askT_none {d : Dat} {id : Int} {f : Mrg → Int} (h : id < 256 ∨ 256 + (d.ms.length : Int) ≤ id) : askT d id f = (0, false) := by
  unfold askT
  rcases h with h | h
  · rw [if_pos h]
  · by_cases h0 : id < 256
    · rw [if_pos h0]
    · rw [if_neg h0, if_pos h]
theorem rankT_none {d : Dat} {id : Int} (h : id < 256 ∨ 256 + (d.ms.length : Int) ≤ id) : rankT d id = (0, false) := by
  unfold rankT
  rcases h with h | h
  · rw [if_pos h]
  · by_cases h0 : id < 256
    · rw [if_pos h0]
    · rw [if_neg h0, if_pos h]
theorem askT_at {d : Dat} (hd : RightD d) {k : Nat} {x : Mrg} (hk : d.ms[k]? = some x) (f : Mrg → Int) : askT d x.i f = (f x, true) := by
  have := hd.idr k x hk
  unfold askT
  rw [if_neg (by omega), if_neg (by omega), hd.rank_at hk]
  simp [hk]
theorem rankT_at {d : Dat} (hd : RightD d) {k : Nat} {x : Mrg} (hk : d.ms[k]? = some x) : rankT d x.i = ((k : Int), true) := by
  have := hd.idr k x hk
  unfold rankT
  rw [if_neg (by omega), if_neg (by omega), hd.rank_at hk]
  rfl

end Go.Proofs.YtjffafcagklpiaaDoor.Sl

/- prune.of makes the table. -/
namespace Go.Proofs.YtjffafcagklpiaaDoor.Sl
open Go.Proofs.YtjffafcagklpiaaDoor.Lib
open Go.RowKit
set_option linter.unusedVariables false
set_option linter.unusedSimpArgs false

def OfTab (w : World) (d : Dat) (e : Ending) (w' : World) : Prop := ∃ (L : Pl) (pr : Option Addr) (cr : Nat) (R : List Int), e = .returned (.agg #[.slice L.p0 d.ws.length L.c0, .slice L.p1 d.ms.length L.c1, .slice L.p2 d.ls.length L.c2, .slice L.p3 d.ns.length L.c3, .slice L.p4 d.ss.length L.c4, .slice pr R.length cr]) ∧ TBL w' L d pr cr R ∧ Ext (fun _ => False) w w'
/-- k ranks are set. -/
structure OfSt (w wr : World) (b3 rb : Nat) (L : Pl) (d : Dat) (k : Nat) (R : List Int) : Prop where
  kl : k ≤ d.ms.length
  rd : DR wr L d
  row : Arr wr 3 1 (some ⟨rb, 0, none⟩) d.ws.length d.ws.length (ints R)
  len : R.length = d.ms.length
  rk : ∀ (j : Nat) (x : Mrg), j < k → d.ms[j]? = some x → R[(x.i - 256).toNat]? = some (j : Int)
  ext : Ext (fun _ => False) w wr
  tb : wr.heap[b3]? = some (.cells #[.slice L.p0 d.ws.length L.c0, .slice L.p1 d.ms.length L.c1, .slice L.p2 d.ls.length L.c2, .slice L.p3 d.ns.length L.c3, .slice L.p4 d.ss.length L.c4, .slice (some ⟨rb, 0, none⟩) d.ws.length d.ws.length] 61 (0, 0))
  rs : ResB wr w.heap.size 61 6
  far : w.heap.size < rb ∧ b3 ≠ rb
theorem OfSt.on {w wr W : World} {b3 rb : Nat} {L : Pl} {d : Dat} {k : Nat} {R : List Int} (h : OfSt w wr b3 rb L d k R) (hx : Ext (fun _ => False) wr W) : OfSt w W b3 rb L d k R :=
  { h with rd := h.rd.on hx, row := arr_ext h.row hx (fun _ _ h => h), ext := h.ext.trans hx (fun _ _ h => h), tb := hx.obj h.tb (fun h => h), rs := h.rs.on hx }
theorem OfSt.step {w wr : World} {b3 rb : Nat} {L : Pl} {d : Dat} {k : Nat} {R : List Int} (h : OfSt w wr b3 rb L d k R) (hd : RightD d) {x : Mrg} (hx : d.ms[k]? = some x) (hL : ∀ p, p = L.p0 ∨ p = L.p1 ∨ p = L.p2 ∨ p = L.p3 ∨ p = L.p4 → blkOf p ≠ some rb) :
    OfSt w (wr.setCell ⟨rb, (x.i - 256).toNat, none⟩ (.int .i64 (k : Int))) b3 rb L d (k + 1) (R.set (x.i - 256).toNat (k : Int)) := by
  have hxx : Ext (fun j => j = rb) wr (wr.setCell ⟨rb, (x.i - 256).toNat, none⟩ (.int .i64 (k : Int))) := (Ext.refl (fun j => j = rb) wr).setCell (p := ⟨rb, (x.i - 256).toNat, none⟩) (fun _ => rfl) _
  have hlt := (List.getElem?_eq_some_iff.1 hx).1
  have hr := hd.idr k x hx
  have n : ∀ p, p = L.p0 ∨ p = L.p1 ∨ p = L.p2 ∨ p = L.p3 ∨ p = L.p4 → ∀ j, blkOf p = some j → j < wr.heap.size → ¬ j = rb := fun p hp j hj _ e => hL p hp (by rw [hj, e])
  refine ⟨hlt, { h.rd with r0 := h.rd.r0.ext hxx (n _ (.inl rfl)), r1 := h.rd.r1.ext hxx (n _ (.inr (.inl rfl))), r2 := h.rd.r2.ext hxx (n _ (.inr (.inr (.inl rfl)))), r3 := h.rd.r3.ext hxx (n _ (.inr (.inr (.inr (.inl rfl))))), r4 := h.rd.r4.ext hxx (n _ (.inr (.inr (.inr (.inr rfl))))) }, ?_, by rw [List.length_set]; exact h.len, fun j y hj hy => ?_, ?_, hxx.obj h.tb h.far.2, ?_, h.far⟩
  · have := arr_set h.row (x.i - 256).toNat (.int .i64 (k : Int))
    unfold ints
    rw [List.map_set]
    exact this
  · have hy2 := hd.idr j y hy
    rw [List.getElem?_set]
    by_cases e : (x.i - 256).toNat = (y.i - 256).toNat
    · have : k = j := hd.id_inj hx hy (by omega)
      subst this
      rw [if_pos e, if_pos (by rw [h.len]; omega)]
    · rw [if_neg e]
      refine h.rk j y ?_ hy
      have : j ≠ k := fun e2 => by subst e2; rw [hx] at hy; cases hy; exact e rfl
      omega
  · exact h.ext.trans hxx (fun i hi e => by have := h.far.1; omega)
  · obtain ⟨cs, hc, hs⟩ := h.rs
    exact ⟨cs, hxx.obj hc (by have := h.far.1; omega), hs⟩
theorem ResB.set6 {w : World} {r t : Nat} (h : ResB w r t 6) (v0 v1 v2 v3 v4 v5 : Value) : ((((((w.setCell ⟨r, 0, none⟩ v0).setCell ⟨r, 1, none⟩ v1).setCell ⟨r, 2, none⟩ v2).setCell ⟨r, 3, none⟩ v3).setCell ⟨r, 4, none⟩ v4).setCell ⟨r, 5, none⟩ v5).heap[r]? = some (.cells #[v0, v1, v2, v3, v4, v5] t (0, 0)) := by
  obtain ⟨cs, hc, hs⟩ := h
  obtain ⟨a, b, c, d, e, f, rfl⟩ : ∃ a b c d e f, cs = #[a, b, c, d, e, f] := by
    obtain ⟨l⟩ := cs
    match l, hs with
    | [a, b, c, d, e, f], _ => exact ⟨a, b, c, d, e, f, rfl⟩
  have h0 : (w.setCell ⟨r, 0, none⟩ v0).heap[r]? = some (.cells #[v0, b, c, d, e, f] t (0, 0)) := blk_set hc 0 v0
  generalize w.setCell ⟨r, 0, none⟩ v0 = w0 at h0 ⊢
  have h1 : (w0.setCell ⟨r, 1, none⟩ v1).heap[r]? = some (.cells #[v0, v1, c, d, e, f] t (0, 0)) := blk_set h0 1 v1
  generalize w0.setCell ⟨r, 1, none⟩ v1 = w1 at h1 ⊢
  have h2 : (w1.setCell ⟨r, 2, none⟩ v2).heap[r]? = some (.cells #[v0, v1, v2, d, e, f] t (0, 0)) := blk_set h1 2 v2
  generalize w1.setCell ⟨r, 2, none⟩ v2 = w2 at h2 ⊢
  have h3 : (w2.setCell ⟨r, 3, none⟩ v3).heap[r]? = some (.cells #[v0, v1, v2, v3, e, f] t (0, 0)) := blk_set h2 3 v3
  generalize w2.setCell ⟨r, 3, none⟩ v3 = w3 at h3 ⊢
  have h4 : (w3.setCell ⟨r, 4, none⟩ v4).heap[r]? = some (.cells #[v0, v1, v2, v3, v4, f] t (0, 0)) := blk_set h3 4 v4
  generalize w3.setCell ⟨r, 4, none⟩ v4 = w4 at h4 ⊢
  exact blk_set h4 5 v5
theorem set6_ext {w : World} {r : Nat} (v0 v1 v2 v3 v4 v5 : Value) : Ext (fun k => k = r) w ((((((w.setCell ⟨r, 0, none⟩ v0).setCell ⟨r, 1, none⟩ v1).setCell ⟨r, 2, none⟩ v2).setCell ⟨r, 3, none⟩ v3).setCell ⟨r, 4, none⟩ v4).setCell ⟨r, 5, none⟩ v5) :=
  (((((((Ext.refl (fun k => k = r) w).setCell (p := ⟨r, 0, none⟩) (fun _ => rfl) v0).setCell (p := ⟨r, 1, none⟩) (fun _ => rfl) v1).setCell (p := ⟨r, 2, none⟩) (fun _ => rfl) v2).setCell (p := ⟨r, 3, none⟩) (fun _ => rfl) v3).setCell (p := ⟨r, 4, none⟩) (fun _ => rfl) v4).setCell (p := ⟨r, 5, none⟩) (fun _ => rfl) v5)

theorem of_n {W w1 : World} {t : Nat} {v0 v1 v2 v3 v4 v5 : Value} (hx : Ext (fun _ => False) (W.alloc (.cells #[v0, v1, v2, v3, v4, v5] t)) w1) :
    w1.heap[W.heap.size]? = some (.cells #[v0, v1, v2, v3, v4, v5] t (0, 0)) ∧ w1.cell? ⟨W.heap.size, 1, none⟩ = some v1 ∧ w1.cell? ⟨W.heap.size, 5, none⟩ = some v5 ∧ w1.frozen? ⟨W.heap.size, 5, none⟩ = false := by
  have hb := hx.obj (heap_alloc_new W _) (fun h => h)
  exact ⟨hb, blk_cell hb 1, blk_cell hb 5, blk_frozen hb 5⟩

set_option maxRecDepth 100000 in
set_option maxHeartbeats 4000000 in
theorem pof_any (w : World) (a : Nat) (d : Dat) (h : IsModel w a d) (hd : RightD d) : Calls Tryd.prog 16 #[.pointer (some ⟨a, 0, none⟩)] w fun e w' => OfTab w d e w' := by
  have hdr : ∃ L0, DR w L0 d := by
    obtain ⟨L, tp, mp, q0, q1, q2, d0, d1, d2, hM⟩ := h
    exact ⟨L, hM.rd⟩
  obtain ⟨L0, hdr⟩ := hdr
  have R0 := Lib.hid hdr
  have D := Lib.hid hd
  have hb : (w.alloc (.cells #[.slice none 0 0, .slice none 0 0, .slice none 0 0, .slice none 0 0, .slice none 0 0, .slice none 0 0] 61)).heap[w.heap.size]? = _ := heap_alloc_new w _
  have X0 := Lib.hid ((Ext.refl (fun _ => False) w).alloc (.cells #[.slice none 0 0, .slice none 0 0, .slice none 0 0, .slice none 0 0, .slice none 0 0, .slice none 0 0] 61))
  have C := Lib.hid (data_any _ a d (h.on X0.out))
  have HB := Lib.hid hb
  have hfew := hd.few
  clear hb hdr h hd
  go_enter Tryd.func16, Tryd.ntmps16
  go_wp2_with fail
  refine C.out.mono ?_
  rintro e W ⟨L, rfl, hD, hx⟩
  have RS := Lib.hid (show ResB W w.heap.size 61 6 from ⟨_, hx.obj HB.out (fun h => h), rfl⟩)
  have X1 := Lib.hid (X0.out.trans hx (fun _ _ h => h))
  have DD := Lib.hid hD
  have hl := D.out.len
  have LE := Lib.hid hl
  have hws : d.ws.length ≤ 4096 := by omega
  have s1 := hx.size
  simp only [World.size_alloc] at s1
  clear hx hD C hl
  go_wp2_with (at_make; (refine arr_make rfl (.tmp 12) (.tmp 12) 33 3 1 8 (.int .i64 0) rfl Tryd.underlying33 infoI .i64 .i64 _ _ d.ws.length rfl rfl rfl rfl (by omega) (by decide) rfl ?_); intro w1 hA hx1; have HA := Lib.hid hA; have HX1 := Lib.hid hx1; obtain ⟨hB6, t1, t5, t6⟩ := of_n hx1; have HB6 := Lib.hid hB6; clear hA hx1 hB6)
  obtain ⟨W0, hW0⟩ : ∃ W0, w1.setCell ⟨W.heap.size, 5, none⟩ (.slice (some ⟨W.heap.size + 1, 0, none⟩) d.ws.length d.ws.length) = W0 := ⟨_, rfl⟩
  have FARL := Lib.hid (show ∀ p, p = L.p0 ∨ p = L.p1 ∨ p = L.p2 ∨ p = L.p3 ∨ p = L.p4 → ∀ k, blkOf p = some k → k < W.heap.size from by
    rintro p (rfl | rfl | rfl | rfl | rfl) k hk
    · exact arr_lt DD.out.a0 hk
    · exact arr_lt DD.out.a1 hk
    · exact arr_lt DD.out.a2 hk
    · exact arr_lt DD.out.a3 hk
    · exact arr_lt DD.out.a4 hk)
  have S0 := Lib.hid (show OfSt w W0 W.heap.size (W.heap.size + 1) L d 0 (List.replicate d.ws.length 0) from by
    have xa := ((Ext.refl (fun _ => False) W).alloc (.cells #[.slice L.p0 d.ws.length L.c0, .slice L.p1 d.ms.length L.c1, .slice L.p2 d.ls.length L.c2, .slice L.p3 d.ns.length L.c3, .slice L.p4 d.ss.length L.c4, .slice none 0 0] 61)).trans HX1.out (fun _ _ h => h)
    have xb : Ext (fun k => k = W.heap.size) w1 W0 := by rw [← hW0]; exact (Ext.refl (fun k => k = W.heap.size) w1).setCell (p := ⟨W.heap.size, 5, none⟩) (fun _ => rfl) _
    have xc : Ext (fun _ => False) W W0 := xa.trans xb (fun i hi h => by omega)
    refine ⟨Nat.zero_le _, (DD.out.reads R0.out).on xc, ?_, by simpa using LE.out, fun j x hj => absurd hj (Nat.not_lt_zero _), X1.out.trans xc (fun _ _ h => h), ?_, RS.out.on xc, by omega⟩
    · have := arr_ext HA.out xb (fun k hk h => by simp at hk; omega)
      simp only [World.size_alloc, Nat.mul_one] at this
      rw [made1 _ _ rfl] at this
      have e : ints (List.replicate d.ws.length 0) = List.replicate d.ws.length (.int .i64 0) := by simp [ints]
      rw [e]
      exact this
    · rw [← hW0]; exact blk_set HB6.out 5 _)
  rw [hW0]
  obtain ⟨b3, hb3⟩ : ∃ b3, W.heap.size = b3 := ⟨_, rfl⟩
  obtain ⟨rb, hrb⟩ : ∃ rb, b3 + 1 = rb := ⟨_, rfl⟩
  rw [hb3] at S0 FARL ⊢
  rw [hrb] at S0 ⊢
  have HRB := Lib.hid hrb
  clear hW0 HA HX1 HB6 t1 t5 t6 RS X1 s1 hb3 hrb
  go_loopw [19] (fun i wr => ∃ k : Nat, i = .int .i64 k ∧ ∃ R : List Int, OfSt w wr b3 rb L d k R) (fun i _ => d.ms.length - (intOf i).toNat)
  case atStart => exact ⟨0, rfl, _, S0.out⟩
  case round =>
    obtain ⟨k, rfl, R, hst⟩ := hrel
    have ST := Lib.hid hst
    have hk := hst.kl
    have t3 := blk_cell hst.tb 5
    simp at t3
    clear hst S0
    by_cases hlt : k < d.ms.length
    · obtain ⟨x, hs⟩ : ∃ x, d.ms[k]? = some x := ⟨_, List.getElem?_eq_getElem hlt⟩
      have HS := Lib.hid hs
      obtain ⟨b, o, hp, hb, c0, c1, c2⟩ := ST.out.rd.r1.cellM hs
      obtain ⟨hi0, hi1⟩ := D.out.idr k x hs
      have hj0 : 0 ≤ x.i - 256 := by omega
      have hj1 : x.i - 256 < (d.ws.length : Int) := by have := LE.out; omega
      have i1 : (k : Int) < (d.ms.length : Int) := by omega
      have hX : Ext (fun _ => False) wr (wr.alloc (.cells #[.int .i64 x.l, .int .i64 x.r, .int .i64 x.i] 66)) := (Ext.refl _ _).alloc _
      have T := Lib.hid ((ST.out.on hX).step D.out hs (fun p hp h => by have := FARL.out p hp _ h; have := HRB.out; omega))
      have row := (ST.out.on hX).row
      obtain ⟨u, hu⟩ : ∃ u, (wr.alloc (.cells #[.int .i64 x.l, .int .i64 x.r, .int .i64 x.i] 66)).cell? ⟨rb, (x.i - 256).toNat, none⟩ = some u := ⟨_, (arr_cell row _ (by omega)).trans (List.getElem?_eq_getElem (by have := arr_len row; omega))⟩
      have hu2 := arr_frozen row (x.i - 256).toNat
      have l3 := blk_lt ST.out.tb
      clear hs row hX
      rw [hp]
      go_wp2_with fail
      go_roundw
      case rel => exact ⟨k + 1, by go_num, _, T.out⟩
      case measure => simp [intOf]; omega
    · have hk2 : k = d.ms.length := by omega
      have HK := Lib.hid hk2
      have B := ST.out.rs
      have b0 := B.cell 0 (by decide)
      have b1 := B.cell 1 (by decide)
      have b2 := B.cell 2 (by decide)
      have b3' := B.cell 3 (by decide)
      have b4 := B.cell 4 (by decide)
      have b5 := B.cell 5 (by decide)
      have f0 := B.frozen 0
      have f1 := B.frozen 1
      have f2 := B.frozen 2
      have f3 := B.frozen 3
      have f4 := B.frozen 4
      have f5 := B.frozen 5
      have g0 := blk_cell ST.out.tb 0
      have g1 := blk_cell ST.out.tb 1
      have g2 := blk_cell ST.out.tb 2
      have g3 := blk_cell ST.out.tb 3
      have g4 := blk_cell ST.out.tb 4
      simp at g0 g1 g2 g3 g4
      have BB := Lib.hid B
      have i1 : ¬ ((k : Int) < (d.ms.length : Int)) := by omega
      clear hk2 B
      go_wp2_with fail
      obtain ⟨F, hF⟩ : ∃ F, ((((((wr.setCell ⟨w.heap.size, 0, none⟩ (.slice L.p0 d.ws.length L.c0)).setCell ⟨w.heap.size, 1, none⟩ (.slice L.p1 d.ms.length L.c1)).setCell ⟨w.heap.size, 2, none⟩ (.slice L.p2 d.ls.length L.c2)).setCell ⟨w.heap.size, 3, none⟩ (.slice L.p3 d.ns.length L.c3)).setCell ⟨w.heap.size, 4, none⟩ (.slice L.p4 d.ss.length L.c4)).setCell ⟨w.heap.size, 5, none⟩ (.slice (some ⟨rb, 0, none⟩) d.ws.length d.ws.length)) = F := ⟨_, rfl⟩
      have RR := ResB.set6 BB.out (.slice L.p0 d.ws.length L.c0) (.slice L.p1 d.ms.length L.c1) (.slice L.p2 d.ls.length L.c2) (.slice L.p3 d.ns.length L.c3) (.slice L.p4 d.ss.length L.c4) (.slice (some ⟨rb, 0, none⟩) d.ws.length d.ws.length)
      have X := set6_ext (w := wr) (r := w.heap.size) (.slice L.p0 d.ws.length L.c0) (.slice L.p1 d.ms.length L.c1) (.slice L.p2 d.ls.length L.c2) (.slice L.p3 d.ns.length L.c3) (.slice L.p4 d.ss.length L.c4) (.slice (some ⟨rb, 0, none⟩) d.ws.length d.ws.length)
      rw [hF] at RR X ⊢
      have r0 := blk_cell RR 0
      have r1 := blk_cell RR 1
      have r2 := blk_cell RR 2
      have r3 := blk_cell RR 3
      have r4 := blk_cell RR 4
      have r5 := blk_cell RR 5
      simp at r0 r1 r2 r3 r4 r5
      have hRl : R.length = d.ws.length := by rw [ST.out.len, LE.out]
      refine bodyPost_ret (v := .agg #[.slice L.p0 d.ws.length L.c0, .slice L.p1 d.ms.length L.c1, .slice L.p2 d.ls.length L.c2, .slice L.p3 d.ns.length L.c3, .slice L.p4 d.ss.length L.c4, .slice (some ⟨rb, 0, none⟩) d.ws.length d.ws.length]) (by simp [results, Tryd.f16, go_sem, r0, r1, r2, r3, r4, r5]) rfl ⟨L, some ⟨rb, 0, none⟩, d.ws.length, R, by rw [hRl], ⟨?_, ?_, ST.out.len, fun j x hj => ST.out.rk j x ?_ hj, by omega, fun p hp j hj => ?_, fun j hj => Nat.lt_of_lt_of_le (arr_lt ST.out.row hj) X.size⟩, ?_⟩
      · have m0 := DD.out.n0
        have m1 := DD.out.n1
        have m2 := DD.out.n2
        have m3 := DD.out.n3
        have m4 := DD.out.n4
        simp only [World.size_alloc] at m0 m1 m2 m3 m4
        exact { ST.out.rd with r0 := ST.out.rd.r0.ext X (fun k hk _ h => by have := m0 k hk; omega), r1 := ST.out.rd.r1.ext X (fun k hk _ h => by have := m1 k hk; omega), r2 := ST.out.rd.r2.ext X (fun k hk _ h => by have := m2 k hk; omega), r3 := ST.out.rd.r3.ext X (fun k hk _ h => by have := m3 k hk; omega), r4 := ST.out.rd.r4.ext X (fun k hk _ h => by have := m4 k hk; omega) }
      · have := arr_ext ST.out.row X (fun k hk h => by simp at hk; have := ST.out.far.1; omega)
        rw [← ints_flat] at this
        exact Rd.of_arr (E := eI) this
      · rw [HK.out]; exact (List.getElem?_eq_some_iff.1 hj).1
      · have h1 := FARL.out p hp j hj
        have h2 := blk_lt ST.out.tb
        have h3 := X.size
        omega
      · exact ST.out.ext.trans X (fun i hi h => by omega)
end Go.Proofs.YtjffafcagklpiaaDoor.Sl

/- prune.Parts, prune.Depth. -/
namespace Go.Proofs.YtjffafcagklpiaaDoor.Sl
open Go.Proofs.YtjffafcagklpiaaDoor.Lib
open Go.RowKit
set_option linter.unusedVariables false
set_option linter.unusedSimpArgs false

/-! ### depths -/
def depthG (ms : List Mrg) : Nat → Int → Int
  | 0, _ => 0
  | f + 1, id => match rankOf ms id with
    | none => 0
    | some k => match ms[k]? with
      | none => 0
      | some x => 1 + mx (depthG ms f x.l) (depthG ms f x.r)
theorem depthG_bd (ms : List Mrg) (f : Nat) (id : Int) : 0 ≤ depthG ms f id ∧ depthG ms f id ≤ f := by
  induction f generalizing id with
  | zero => simp [depthG]
  | succ f ih =>
    rw [depthG]
    split
    · constructor <;> omega
    · split
      · constructor <;> omega
      · rename_i x _
        have h1 := ih x.l
        have h2 := ih x.r
        unfold mx
        split <;> omega
theorem depthG_none {ms : List Mrg} {id : Int} (h : rankOf ms id = none) (f : Nat) : depthG ms f id = 0 := by
  cases f with
  | zero => rfl
  | succ f => rw [depthG, h]
theorem depthG_at {d : Dat} (hd : RightD d) {k : Nat} {x : Mrg} (hk : d.ms[k]? = some x) (f : Nat) : depthG d.ms (f + 1) x.i = 1 + mx (depthG d.ms f x.l) (depthG d.ms f x.r) := by
  rw [depthG, hd.rank_at hk]
  simp only [hk]
theorem depthG_same {d : Dat} (hd : RightD d) : ∀ (k : Nat) (x : Mrg), d.ms[k]? = some x → ∀ f g, k < f → k < g → depthG d.ms f x.i = depthG d.ms g x.i := by
  intro k
  induction k using Nat.strongRecOn with
  | _ k ih =>
    intro x hk f g hf hg
    obtain ⟨f, rfl⟩ : ∃ m, f = m + 1 := ⟨f - 1, by omega⟩
    obtain ⟨g, rfl⟩ : ∃ m, g = m + 1 := ⟨g - 1, by omega⟩
    rw [depthG_at hd hk, depthG_at hd hk]
    have part : ∀ id, madeB (d.ms.take k) id = true → depthG d.ms f id = depthG d.ms g id := by
      intro id hm
      rcases part_cases hm with h | ⟨j, y, hj, hy, rfl⟩
      · rw [depthG_none (hd.rank_low (.inl h.2)), depthG_none (hd.rank_low (.inl h.2))]
      · exact ih j hj y hy f g (by omega) (by omega)
    rw [part _ (hd.pl k x hk), part _ (hd.pr k x hk)]
def depthOf (d : Dat) (id : Int) : Int := depthG d.ms (d.ms.length + 1) id
theorem depthOf_bd (d : Dat) (id : Int) : 0 ≤ depthOf d id ∧ depthOf d id ≤ d.ms.length + 1 := by
  have := depthG_bd d.ms (d.ms.length + 1) id
  unfold depthOf
  omega
theorem depthOf_byte {d : Dat} (hd : RightD d) {id : Int} (h : id < 256) : depthOf d id = 0 := depthG_none (hd.rank_low (.inl h)) _
theorem depthOf_at {d : Dat} (hd : RightD d) {k : Nat} {x : Mrg} (hk : d.ms[k]? = some x) : depthOf d x.i = 1 + mx (depthOf d x.l) (depthOf d x.r) := by
  have hlt := (List.getElem?_eq_some_iff.1 hk).1
  unfold depthOf
  rw [depthG_at hd hk]
  have part : ∀ id, madeB (d.ms.take k) id = true → depthG d.ms d.ms.length id = depthG d.ms (d.ms.length + 1) id := by
    intro id hm
    rcases part_cases hm with h | ⟨j, y, hj, hy, rfl⟩
    · rw [depthG_none (hd.rank_low (.inl h.2)), depthG_none (hd.rank_low (.inl h.2))]
    · exact depthG_same hd j y hy _ _ (by omega) (by omega)
  rw [part _ (hd.pl k x hk), part _ (hd.pr k x hk)]
/-- What prune.Depth tells. -/
def depthT (d : Dat) (id : Int) : Int := if id < 0 then -1 else if 256 + (d.ms.length : Int) ≤ id then -1 else depthOf d id

/-- k merges' depths stand. -/
structure DepSt (w wr : World) (L : Pl) (d : Dat) (rb : Nat) (k : Nat) (T : List Int) : Prop where
  kl : k ≤ d.ms.length
  rd : DR wr L d
  row : Arr wr 3 1 (some ⟨rb, 0, none⟩) (256 + d.ms.length) (256 + d.ms.length) (ints T)
  len : T.length = 256 + d.ms.length
  byte : ∀ i : Nat, i < 256 → T[i]? = some 0
  dep : ∀ (j : Nat) (x : Mrg), j < k → d.ms[j]? = some x → T[x.i.toNat]? = some (depthOf d x.i)
  ext : Ext (fun _ => False) w wr
  far : w.heap.size ≤ rb
theorem DepSt.at_ {w wr : World} {L : Pl} {d : Dat} {rb k : Nat} {T : List Int} (h : DepSt w wr L d rb k T) (hd : RightD d) {id : Int} (hm : madeB (d.ms.take k) id = true) : T[id.toNat]? = some (depthOf d id) ∧ 0 ≤ id ∧ id < 256 + (d.ms.length : Int) := by
  have hr := hd.part_range hm
  refine ⟨?_, hr⟩
  rcases part_cases hm with h1 | ⟨j, y, hj, hy, rfl⟩
  · rw [h.byte _ (by omega), depthOf_byte hd h1.2]
  · exact h.dep j y hj hy
theorem DepSt.step {w wr W : World} {L : Pl} {d : Dat} {rb k : Nat} {T : List Int} (h : DepSt w wr L d rb k T) (hd : RightD d) {x : Mrg} (hk : d.ms[k]? = some x) (hx : Ext (fun _ => False) wr W) (hL : ∀ p, p = L.p0 ∨ p = L.p1 ∨ p = L.p2 ∨ p = L.p3 ∨ p = L.p4 → blkOf p ≠ some rb) :
    DepSt w (W.setCell ⟨rb, x.i.toNat, none⟩ (.int .i64 (depthOf d x.i))) L d rb (k + 1) (T.set x.i.toNat (depthOf d x.i)) := by
  have hxx : Ext (fun j => j = rb) W (W.setCell ⟨rb, x.i.toNat, none⟩ (.int .i64 (depthOf d x.i))) := (Ext.refl (fun j => j = rb) W).setCell (p := ⟨rb, x.i.toNat, none⟩) (fun _ => rfl) _
  have hr := hd.idr k x hk
  have hlt := (List.getElem?_eq_some_iff.1 hk).1
  have hrd := h.rd.on hx
  have n : ∀ p, p = L.p0 ∨ p = L.p1 ∨ p = L.p2 ∨ p = L.p3 ∨ p = L.p4 → ∀ j, blkOf p = some j → j < W.heap.size → ¬ j = rb := fun p hp j hj _ e => hL p hp (by rw [hj, e])
  refine ⟨hlt, { hrd with r0 := hrd.r0.ext hxx (n _ (.inl rfl)), r1 := hrd.r1.ext hxx (n _ (.inr (.inl rfl))), r2 := hrd.r2.ext hxx (n _ (.inr (.inr (.inl rfl)))), r3 := hrd.r3.ext hxx (n _ (.inr (.inr (.inr (.inl rfl))))), r4 := hrd.r4.ext hxx (n _ (.inr (.inr (.inr (.inr rfl))))) }, ?_, by rw [List.length_set]; exact h.len, fun i hi => ?_, fun j y hj hy => ?_, ?_, h.far⟩
  · have := arr_set (arr_ext h.row hx (fun _ _ h => h)) x.i.toNat (.int .i64 (depthOf d x.i))
    unfold ints
    rw [List.map_set]
    exact this
  · rw [List.getElem?_set, if_neg (by omega)]
    exact h.byte i hi
  · have hy2 := hd.idr j y hy
    rw [List.getElem?_set]
    by_cases e : x.i.toNat = y.i.toNat
    · have e2 : x.i = y.i := by omega
      rw [if_pos e, if_pos (by rw [h.len]; omega), e2]
    · rw [if_neg e]
      refine h.dep j y ?_ hy
      have : j ≠ k := fun e2 => by subst e2; rw [hk] at hy; cases hy; exact e rfl
      omega
  · exact (h.ext.trans hx (fun _ _ h => h)).trans hxx (fun i hi e => by have := h.far; omega)

theorem DepSt.on {w wr W : World} {L : Pl} {d : Dat} {rb k : Nat} {T : List Int} (h : DepSt w wr L d rb k T) (hx : Ext (fun _ => False) wr W) : DepSt w W L d rb k T :=
  { h with rd := h.rd.on hx, row := arr_ext h.row hx (fun _ _ h => h), ext := h.ext.trans hx (fun _ _ h => h) }
theorem box3 (w : World) (t : Nat) (a b c : Value) : (w.alloc (.cells #[a, b, c] t)).cell? ⟨w.heap.size, 0, none⟩ = some a ∧ (w.alloc (.cells #[a, b, c] t)).cell? ⟨w.heap.size, 1, none⟩ = some b ∧ (w.alloc (.cells #[a, b, c] t)).cell? ⟨w.heap.size, 2, none⟩ = some c :=
  ⟨blk_cell (heap_alloc_new w _) 0, blk_cell (heap_alloc_new w _) 1, blk_cell (heap_alloc_new w _) 2⟩
end Go.Proofs.YtjffafcagklpiaaDoor.Sl

/- prune.renamed. -/
namespace Go.Proofs.YtjffafcagklpiaaDoor.Sl
open Go.Proofs.YtjffafcagklpiaaDoor.Lib
open Go.RowKit
set_option linter.unusedVariables false
set_option linter.unusedSimpArgs false

/-- The first n ids' new names and words, the merges below k left. -/
def renGo (d : Dat) (k : Int) : Nat → List Int × List ByteArray
  | 0 => ([], [])
  | n + 1 =>
    let s := renGo d k n
    if n < 256 then (s.1 ++ [(n : Int)], s.2)
    else if (((rankOf d.ms n).getD 0 : Nat) : Int) < k then (s.1 ++ [256 + (s.2.length : Int)], s.2 ++ [(d.ws[n - 256]?).getD ByteArray.empty])
    else (s.1 ++ [-1], s.2)
theorem renGo_len (d : Dat) (k : Int) (n : Nat) : (renGo d k n).1.length = n ∧ (renGo d k n).2.length ≤ n := by
  induction n with
  | zero => simp [renGo]
  | succ n ih =>
    unfold renGo
    by_cases h0 : n < 256
    · simp only [if_pos h0]; simp; omega
    · simp only [if_neg h0]
      split <;> simp <;> omega
theorem renGo_low (d : Dat) (k : Int) {n : Nat} (h : n < 256) : renGo d k (n + 1) = ((renGo d k n).1 ++ [(n : Int)], (renGo d k n).2) := by
  rw [renGo, if_pos h]
theorem renGo_in (d : Dat) (k : Int) {n : Nat} (h : ¬ n < 256) (h1 : (((rankOf d.ms n).getD 0 : Nat) : Int) < k) : renGo d k (n + 1) = ((renGo d k n).1 ++ [256 + ((renGo d k n).2.length : Int)], (renGo d k n).2 ++ [(d.ws[n - 256]?).getD ByteArray.empty]) := by
  rw [renGo, if_neg h, if_pos h1]
theorem renGo_out (d : Dat) (k : Int) {n : Nat} (h : ¬ n < 256) (h1 : ¬ (((rankOf d.ms n).getD 0 : Nat) : Int) < k) : renGo d k (n + 1) = ((renGo d k n).1 ++ [-1], (renGo d k n).2) := by
  rw [renGo, if_neg h, if_neg h1]
def tbCells (L : Pl) (d : Dat) (pr : Option Addr) (cr : Nat) (R : List Int) : Array Value := #[.slice L.p0 d.ws.length L.c0, .slice L.p1 d.ms.length L.c1, .slice L.p2 d.ls.length L.c2, .slice L.p3 d.ns.length L.c3, .slice L.p4 d.ss.length L.c4, .slice pr R.length cr]
/-- n ids are named. -/
structure RenSt (w wr : World) (d : Dat) (N tb ib : Nat) (tc : Array Value) (k : Int) (n : Nat) (pw : Option Addr) (cw : Nat) : Prop where
  nl : n ≤ N
  ids : Arr wr 3 1 (some ⟨ib, 0, none⟩) N N (ints ((renGo d k n).1 ++ List.replicate (N - n) 0))
  words : Arr wr 9 1 pw (renGo d k n).2.length cw (flat eS (renGo d k n).2)
  ext : Ext (fun _ => False) w wr
  box : wr.heap[tb]? = some (.cells tc 61 (0, 0))
  f1 : w.heap.size ≤ ib ∧ w.heap.size ≤ tb ∧ tb ≠ ib
  f2 : ∀ j, blkOf pw = some j → w.heap.size ≤ j ∧ j ≠ ib ∧ j ≠ tb
theorem RenSt.on {w wr W : World} {d : Dat} {N tb ib : Nat} {tc : Array Value} {k : Int} {n : Nat} {pw : Option Addr} {cw : Nat} (h : RenSt w wr d N tb ib tc k n pw cw) (hx : Ext (fun _ => False) wr W) : RenSt w W d N tb ib tc k n pw cw :=
  { h with ids := arr_ext h.ids hx (fun _ _ h => h), words := arr_ext h.words hx (fun _ _ h => h), ext := h.ext.trans hx (fun _ _ h => h), box := hx.obj h.box (fun h => h) }
theorem RenSt.ids_set {w wr : World} {d : Dat} {N tb ib : Nat} {tc : Array Value} {k : Int} {n : Nat} {pw : Option Addr} {cw : Nat} (h : RenSt w wr d N tb ib tc k n pw cw) (hn : n < N) (z : Int) :
    Arr (wr.setCell ⟨ib, n, none⟩ (.int .i64 z)) 3 1 (some ⟨ib, 0, none⟩) N N (ints (((renGo d k n).1 ++ [z]) ++ List.replicate (N - (n + 1)) 0)) := by
  have := arr_set h.ids n (.int .i64 z)
  have e : ints (((renGo d k n).1 ++ [z]) ++ List.replicate (N - (n + 1)) 0) = (ints ((renGo d k n).1 ++ List.replicate (N - n) 0)).set n (.int .i64 z) := by
    unfold ints
    rw [← List.map_set]
    congr 1
    have hl := (renGo_len d k n).1
    rw [List.set_append_right _ _ (by omega), hl, Nat.sub_self, show N - n = (N - (n + 1)) + 1 from by omega, List.replicate_succ, List.set_cons_zero, List.append_assoc]
    rfl
  rw [e]
  exact this
theorem ren_set {wr : World} {ib n : Nat} {v : Value} : Ext (fun j => j = ib) wr (wr.setCell ⟨ib, n, none⟩ v) := (Ext.refl (fun j => j = ib) wr).setCell (p := ⟨ib, n, none⟩) (fun _ => rfl) _
/-- An id is named, no word is kept. -/
theorem RenSt.step {w wr : World} {d : Dat} {N tb ib : Nat} {tc : Array Value} {k : Int} {n : Nat} {pw : Option Addr} {cw : Nat} (h : RenSt w wr d N tb ib tc k n pw cw) (hn : n < N) {z : Int} (e : renGo d k (n + 1) = ((renGo d k n).1 ++ [z], (renGo d k n).2)) :
    RenSt w (wr.setCell ⟨ib, n, none⟩ (.int .i64 z)) d N tb ib tc k (n + 1) pw cw := by
  have hx := ren_set (wr := wr) (ib := ib) (n := n) (v := .int .i64 z)
  have f1 := h.f1
  refine ⟨hn, ?_, ?_, h.ext.trans hx (fun i hi e => by omega), hx.obj h.box (by omega), h.f1, h.f2⟩
  · rw [e]; exact h.ids_set hn z
  · rw [e]; exact arr_ext h.words hx (fun j hj e => by have := h.f2 j hj; omega)
/-- An id is named, its word kept. -/
theorem RenSt.push {w wr w1 : World} {d : Dat} {N tb ib : Nat} {tc : Array Value} {k : Int} {n : Nat} {pw p1 : Option Addr} {cw c1 : Nat} (h : RenSt w wr d N tb ib tc k n pw cw) (hn : n < N) {z : Int} {s : ByteArray}
    (e : renGo d k (n + 1) = ((renGo d k n).1 ++ [z], (renGo d k n).2 ++ [s]))
    (hA : Arr w1 9 1 p1 ((renGo d k n).2.length + 1) c1 (flat eS (renGo d k n).2 ++ [.string s]))
    (hx1 : Ext (fun j => blkOf pw = some j) (wr.setCell ⟨ib, n, none⟩ (.int .i64 z)) w1) (hm : Moved (wr.setCell ⟨ib, n, none⟩ (.int .i64 z)) pw p1) :
    RenSt w w1 d N tb ib tc k (n + 1) p1 c1 := by
  have hx := ren_set (wr := wr) (ib := ib) (n := n) (v := .int .i64 z)
  have f1 := h.f1
  have b1 := arr_lt h.ids (k := ib) rfl
  have b2 := blk_lt h.box
  have b3 := hx.size
  have b4 := h.ext.size
  refine ⟨hn, ?_, ?_, (h.ext.trans hx (fun i hi e => by omega)).trans hx1 (fun i hi e => by have := h.f2 i e; omega), hx1.obj (hx.obj h.box (by omega)) (fun e => by have := h.f2 _ e; omega), h.f1, fun j hj => ?_⟩
  · rw [e]; exact arr_ext (h.ids_set hn z) hx1 (fun j hj e => by have := h.f2 j e; simp [blkOf] at hj; omega)
  · rw [e]
    have e2 : flat eS ((renGo d k n).2 ++ [s]) = flat eS (renGo d k n).2 ++ [.string s] := by simp [flat, eS]
    simp only [List.length_append, List.length_cons, List.length_nil]
    rw [e2]
    exact hA
  · rcases hm j hj with h1 | h1
    · exact h.f2 j h1
    · omega
/-- renamed's answer. -/
def RenEnd (w : World) (d : Dat) (k : Int) (e : Ending) (w' : World) : Prop := ∃ (ib : Nat) (pw : Option Addr) (cw : Nat),
  e = .returned (.tuple #[.slice (some ⟨ib, 0, none⟩) (256 + d.ms.length) (256 + d.ms.length), .slice pw (renGo d k (256 + d.ms.length)).2.length cw]) ∧
  Arr w' 3 1 (some ⟨ib, 0, none⟩) (256 + d.ms.length) (256 + d.ms.length) (ints (renGo d k (256 + d.ms.length)).1) ∧
  Arr w' 9 1 pw (renGo d k (256 + d.ms.length)).2.length cw (flat eS (renGo d k (256 + d.ms.length)).2) ∧ Ext (fun _ => False) w w' ∧ w.heap.size ≤ ib ∧ (∀ j, blkOf pw = some j → w.heap.size ≤ j ∧ j ≠ ib)

set_option maxRecDepth 100000 in
set_option maxHeartbeats 4000000 in
theorem renamed_any (w : World) (L : Pl) (d : Dat) (pr : Option Addr) (cr : Nat) (R : List Int) (k : Int) (h : TBL w L d pr cr R) (hd : RightD d) :
    Calls Tryd.prog 17 #[.agg #[.slice L.p0 d.ws.length L.c0, .slice L.p1 d.ms.length L.c1, .slice L.p2 d.ls.length L.c2, .slice L.p3 d.ns.length L.c3, .slice L.p4 d.ss.length L.c4, .slice pr R.length cr], .int .i64 k] w fun e w' => RenEnd w d k e w' := by
  have T := Lib.hid h
  have hl := h.rl
  have hf := hd.few
  have D := Lib.hid hd
  have hR : R.length ≤ 4096 := by omega
  have HL := Lib.hid hl
  have X0 := Lib.hid ((Ext.refl (fun _ => False) w).alloc (.cells #[.slice L.p0 d.ws.length L.c0, .slice L.p1 d.ms.length L.c1, .slice L.p2 d.ls.length L.c2, .slice L.p3 d.ns.length L.c3, .slice L.p4 d.ss.length L.c4, .slice pr R.length cr] 61))
  have k0 : (0 : Int) ≤ 256 + (R.length : Int) := by omega
  clear h hd hl
  go_enter Tryd.func17, Tryd.ntmps17
  go_wp2_with (at_make; (refine arr_make rfl (.tmp 14) (.tmp 14) 33 3 1 8 (.int .i64 0) rfl Tryd.underlying33 infoI .i64 .i64 _ _ (256 + R.length) rfl rfl (by omega) (by omega) (by omega) (by decide) rfl ?_); intro w1 hA hx1; have HA := Lib.hid hA; have HX1 := Lib.hid hx1; obtain ⟨hB6, t1, t5, t6⟩ := of_n hx1; have HB6 := Lib.hid hB6; clear hA hx1 hB6 t1 t5 t6)
  have S0 := Lib.hid (show RenSt w w1 d (256 + R.length) w.heap.size (w.heap.size + 1) (tbCells L d pr cr R) k 0 none 0 from by
    refine ⟨Nat.zero_le _, ?_, arr_nil _ _ _, X0.out.trans HX1.out (fun _ _ h => h), HB6.out, by omega, fun j hj => by cases hj⟩
    have := HA.out
    simp only [World.size_alloc, Nat.mul_one] at this
    rw [made1 _ _ rfl] at this
    have e : ints ((renGo d k 0).1 ++ List.replicate (256 + R.length - 0) 0) = List.replicate (256 + R.length) (.int .i64 0) := by simp [ints, renGo]
    rw [e]
    exact this)
  obtain ⟨ib, hib⟩ : ∃ ib, w.heap.size + 1 = ib := ⟨_, rfl⟩
  rw [hib] at S0 ⊢
  obtain ⟨tb, htb⟩ : ∃ tb, w.heap.size = tb := ⟨_, rfl⟩
  rw [htb] at S0 ⊢
  obtain ⟨N, hN⟩ : ∃ N : Nat, 256 + R.length = N := ⟨_, rfl⟩
  have hNi : 256 + (R.length : Int) = (N : Int) := by omega
  rw [hN] at S0 ⊢
  rw [hNi]
  have hN2 : N ≤ 4352 := by omega
  have HN := Lib.hid hN
  have HN3 := Lib.hid (show N = 256 + d.ms.length by rw [← hN, HL.out])
  clear HA HX1 HB6 X0 hib htb hN hNi k0
  go_loopw [7, 18] (fun v i wr => ∃ n : Nat, i = .int .i64 n ∧ ∃ (pw : Option Addr) (cw : Nat), v = .slice pw (renGo d k n).2.length cw ∧ RenSt w wr d N tb ib (tbCells L d pr cr R) k n pw cw) (fun _ i _ => N - (intOf i).toNat)
  case atStart => exact ⟨0, rfl, none, 0, rfl, S0.out⟩
  case round =>
    obtain ⟨n, rfl, pw, cw, rfl, hst⟩ := hrel
    have ST := Lib.hid hst
    have hk := hst.nl
    obtain ⟨hl1, hl2⟩ := renGo_len d k n
    have bx := hst.box
    clear hst S0
    by_cases hlt : n < N
    · have i1 : (n : Int) < (N : Int) := by omega
      have C1 := Lib.hid (rank_any wr L d pr cr R n (T.out.on ST.out.ext) D.out ⟨by omega, by omega⟩)
      have b0 := blk_cell bx 0
      have b1 := blk_cell bx 1
      have b2 := blk_cell bx 2
      have b3 := blk_cell bx 3
      have b4 := blk_cell bx 4
      have b5 := blk_cell bx 5
      simp [tbCells] at b0 b1 b2 b3 b4 b5
      clear bx
      go_wp2_with fail
      refine C1.out.mono ?_
      rintro e W2 ⟨rfl, hx⟩
      have ST2 := Lib.hid (ST.out.on hx)
      clear hx ST C1 b0 b1 b2 b3 b4 b5
      have row := ST2.out.ids
      obtain ⟨u, hu⟩ : ∃ u, W2.cell? ⟨ib, n, none⟩ = some u := ⟨_, (arr_cell row n (by omega)).trans (List.getElem?_eq_getElem (by have := arr_len row; omega))⟩
      have hu2 := arr_frozen row n
      clear row
      by_cases h0 : n < 256
      · have RT : rankT d n = (0, false) := rankT_none (.inl (by omega))
        have NX := Lib.hid (ST2.out.step hlt (renGo_low d k h0))
        rw [RT]
        go_wp2_with fail
        go_roundw
        case rel => exact ⟨n + 1, by go_num, pw, cw, by rw [renGo_low d k h0], NX.out⟩
        case measure => simp [intOf]; omega
      · have RT : rankT d n = ((((rankOf d.ms n).getD 0 : Nat) : Int), true) := by
          unfold rankT
          rw [if_neg (by omega), if_neg (by have := HN3.out; omega)]
        obtain ⟨rk, hrk⟩ : ∃ rk : Nat, (rankOf d.ms n).getD 0 = rk := ⟨_, rfl⟩
        rw [hrk] at RT
        rw [RT]
        by_cases h1 : (rk : Int) < k
        · have hws : n - 256 < d.ws.length := by have := HN3.out; have := D.out.len; omega
          obtain ⟨s, hs⟩ : ∃ s, d.ws[n - 256]? = some s := ⟨_, List.getElem?_eq_getElem hws⟩
          obtain ⟨m, hm⟩ : ∃ m, (renGo d k n).2.length = m := ⟨_, rfl⟩
          have hm2 : m ≤ 4352 := by omega
          have EN := Lib.hid (show renGo d k (n + 1) = ((renGo d k n).1 ++ [256 + (m : Int)], (renGo d k n).2 ++ [s]) from by rw [renGo_in d k h0 (by rw [hrk]; exact h1), hs, hm]; rfl)
          have hXs : Ext (fun j => j = ib) W2 (W2.setCell ⟨ib, n, none⟩ (.int .i64 (256 + (m : Int)))) := ren_set
          have hT := T.out.rd.r0.on (ST2.out.ext)
          have lt0 := T.out.lt L.p0 (.inl rfl)
          have f1 := ST2.out.f1
          obtain ⟨bw, ow, hp, hbw, cs⟩ := (hT.ext hXs (fun j hj _ e => by have := lt0 j hj; omega)).cellS hs
          have hW := arr_ext ST2.out.words hXs (fun j hj e => by have := ST2.out.f2 j hj; omega)
          have g0 := blk_cell (hXs.obj ST2.out.box (by omega)) 0
          simp [tbCells] at g0
          rw [hp] at g0
          have hj0 : 0 ≤ (n : Int) - 256 := by omega
          have hj1 : (n : Int) - 256 < (d.ws.length : Int) := by omega
          have hj2 : ((n : Int) - 256).toNat = n - 256 := by omega
          have d1 : decide ((rk : Int) < k) = true := decide_eq_true h1
          rw [hm] at hW
          rw [hm]
          have HM := Lib.hid hm
          have HW := Lib.hid hW
          clear hXs hT lt0 hW hm
          go_wp2_with (at_builtin; refine arr_append1 rfl (.tmp 47) (.tmp 55) 22 9 1 16 (.string ⟨#[]⟩) rfl Tryd.underlying22 infoS rfl (by decide) (by decide) pw m cw (flat eS (renGo d k n).2) [.string s] rfl _ rfl (by simp) rfl (by simp [Value.oneCell']) HW.out (by omega) ?_; intro p1 c1 w5 hA1 hx1 hm1; have NX := Lib.hid (ST2.out.push hlt EN.out (by rw [HM.out]; exact hA1) hx1 hm1); clear hA1 hx1 hm1)
          go_roundw
          case rel =>
            repeat apply Exists.intro
            refine ⟨?_, ?_⟩
            rotate_left
            · rw [hp]
            · exact ⟨n + 1, by go_num, p1, c1, by rw [EN.out, List.length_append, HM.out]; rfl, NX.out⟩
          case measure => simp [intOf]; omega
        · have NX := Lib.hid (ST2.out.step hlt (renGo_out d k h0 (by rw [hrk]; omega)))
          have d1 : decide ((rk : Int) < k) = false := decide_eq_false h1
          go_wp2_with fail
          go_roundw
          case rel => exact ⟨n + 1, by go_num, pw, cw, by rw [renGo_out d k h0 (by rw [hrk]; omega)], NX.out⟩
          case measure => simp [intOf]; omega
    · have hk2 : n = N := by omega
      have i1 : ¬ ((n : Int) < (N : Int)) := by omega
      subst hk2
      go_wp2_with fail
      go_ret2
      have e := HN3.out
      exact ⟨ib, pw, cw, by rw [← e]; rfl, by have := ST.out.ids; rw [Nat.sub_self, List.replicate_zero, List.append_nil] at this; rw [← e]; exact this, by rw [← e]; exact ST.out.words, ST.out.ext, ST.out.f1.1, fun j hj => ⟨(ST.out.f2 j hj).1, (ST.out.f2 j hj).2.1⟩⟩
end Go.Proofs.YtjffafcagklpiaaDoor.Sl

/- prune.Down, pure: the leaves. -/
namespace Go.Proofs.YtjffafcagklpiaaDoor.Sl
open Go.Proofs.YtjffafcagklpiaaDoor.Lib
set_option linter.unusedVariables false
set_option linter.unusedSimpArgs false

def leavesG (ms : List Mrg) (k : Int) : Nat → Int → List Int
  | 0, id => [id]
  | f + 1, id => match rankOf ms id with
    | none => [id]
    | some r => if (r : Int) < k then [id] else match ms[r]? with
      | none => [id]
      | some x => leavesG ms k f x.l ++ leavesG ms k f x.r
theorem leavesG_none {ms : List Mrg} {k id : Int} (h : rankOf ms id = none) (f : Nat) : leavesG ms k f id = [id] := by
  cases f with
  | zero => rfl
  | succ f => rw [leavesG, h]
theorem leavesG_low {d : Dat} (hd : RightD d) {j : Nat} {x : Mrg} (hj : d.ms[j]? = some x) {k : Int} (h : (j : Int) < k) (f : Nat) : leavesG d.ms k f x.i = [x.i] := by
  cases f with
  | zero => rfl
  | succ f => rw [leavesG, hd.rank_at hj]; exact if_pos h
theorem leavesG_at {d : Dat} (hd : RightD d) {j : Nat} {x : Mrg} (hj : d.ms[j]? = some x) {k : Int} (h : ¬ (j : Int) < k) (f : Nat) : leavesG d.ms k (f + 1) x.i = leavesG d.ms k f x.l ++ leavesG d.ms k f x.r := by
  rw [leavesG, hd.rank_at hj]
  refine (if_neg h).trans ?_
  simp only [hj]
theorem leavesG_same {d : Dat} (hd : RightD d) (k : Int) : ∀ (j : Nat) (x : Mrg), d.ms[j]? = some x → ∀ f g, j < f → j < g → leavesG d.ms k f x.i = leavesG d.ms k g x.i := by
  intro j
  induction j using Nat.strongRecOn with
  | _ j ih =>
    intro x hj f g hf hg
    by_cases hk : (j : Int) < k
    · rw [leavesG_low hd hj hk, leavesG_low hd hj hk]
    obtain ⟨f, rfl⟩ : ∃ m, f = m + 1 := ⟨f - 1, by omega⟩
    obtain ⟨g, rfl⟩ : ∃ m, g = m + 1 := ⟨g - 1, by omega⟩
    rw [leavesG_at hd hj hk, leavesG_at hd hj hk]
    have part : ∀ id, madeB (d.ms.take j) id = true → leavesG d.ms k f id = leavesG d.ms k g id := by
      intro id hm
      rcases part_cases hm with h | ⟨i, y, hi, hy, rfl⟩
      · rw [leavesG_none (hd.rank_low (.inl h.2)), leavesG_none (hd.rank_low (.inl h.2))]
      · exact ih i hi y hy f g (by omega) (by omega)
    rw [part _ (hd.pl j x hj), part _ (hd.pr j x hj)]
/-- The ids that an id is cut into, the merges below k left. -/
def leavesOf (d : Dat) (k : Int) (id : Int) : List Int := leavesG d.ms k (d.ms.length + 1) id
theorem leavesOf_byte {d : Dat} (hd : RightD d) {k id : Int} (h : id < 256) : leavesOf d k id = [id] := leavesG_none (hd.rank_low (.inl h)) _
theorem leavesOf_low {d : Dat} (hd : RightD d) {j : Nat} {x : Mrg} (hj : d.ms[j]? = some x) {k : Int} (h : (j : Int) < k) : leavesOf d k x.i = [x.i] := leavesG_low hd hj h _
theorem leavesOf_at {d : Dat} (hd : RightD d) {j : Nat} {x : Mrg} (hj : d.ms[j]? = some x) {k : Int} (h : ¬ (j : Int) < k) : leavesOf d k x.i = leavesOf d k x.l ++ leavesOf d k x.r := by
  have hlt := (List.getElem?_eq_some_iff.1 hj).1
  unfold leavesOf
  rw [leavesG_at hd hj h]
  have part : ∀ id, madeB (d.ms.take j) id = true → leavesG d.ms k d.ms.length id = leavesG d.ms k (d.ms.length + 1) id := by
    intro id hm
    rcases part_cases hm with h | ⟨i, y, hi, hy, rfl⟩
    · rw [leavesG_none (hd.rank_low (.inl h.2)), leavesG_none (hd.rank_low (.inl h.2))]
    · exact leavesG_same hd k i y hy _ _ (by omega) (by omega)
  rw [part _ (hd.pl j x hj), part _ (hd.pr j x hj)]
/-- An id's leaves: one at least, no more than its word has bytes. -/
theorem leavesOf_len {d : Dat} (hd : RightD d) (k : Int) {id : Int} (h0 : 0 ≤ id) (h1 : id < 256 + (d.ms.length : Int)) : 1 ≤ (leavesOf d k id).length ∧ (leavesOf d k id).length ≤ (wordOf d.ws id).1.size ∧ (wordOf d.ws id).1.size ≤ 256 := by
  have byte : ∀ {id : Int}, 0 ≤ id → id < 256 → 1 ≤ (leavesOf d k id).length ∧ (leavesOf d k id).length ≤ (wordOf d.ws id).1.size ∧ (wordOf d.ws id).1.size ≤ 256 := by
    intro id h0 h1
    rw [leavesOf_byte hd h1, wordOf_byte h0 h1]
    exact ⟨by simp, by show 1 ≤ 1; decide, by show 1 ≤ 256; decide⟩
  have made : ∀ (j : Nat) (x : Mrg), d.ms[j]? = some x → 1 ≤ (leavesOf d k x.i).length ∧ (leavesOf d k x.i).length ≤ (wordOf d.ws x.i).1.size ∧ (wordOf d.ws x.i).1.size ≤ 256 := by
    intro j
    induction j using Nat.strongRecOn with
    | _ j ih =>
      intro x hj
      have hr := hd.idr j x hj
      have hw : (x.i - 256).toNat < d.ws.length := by rw [hd.len]; omega
      have hs : 2 ≤ (wordOf d.ws x.i).1.size ∧ (wordOf d.ws x.i).1.size ≤ 256 := by
        obtain ⟨s, hs⟩ : ∃ s, d.ws[(x.i - 256).toNat]? = some s := ⟨_, List.getElem?_eq_getElem hw⟩
        have := hd.words _ s hs
        have e := wordOf_word hs
        rw [show (((x.i - 256).toNat : Nat) : Int) + 256 = x.i from by omega] at e
        rw [e]
        exact ⟨this.1, this.2.1⟩
      by_cases hk : (j : Int) < k
      · rw [leavesOf_low hd hj hk]
        simp
        omega
      · rw [leavesOf_at hd hj hk]
        have part : ∀ id, madeB (d.ms.take j) id = true → 1 ≤ (leavesOf d k id).length ∧ (leavesOf d k id).length ≤ (wordOf d.ws id).1.size ∧ (wordOf d.ws id).1.size ≤ 256 := by
          intro id hm
          rcases part_cases hm with h | ⟨i, y, hi, hy, rfl⟩
          · exact byte h.1 h.2
          · exact ih i hi y hy
        have hl := part _ (hd.pl j x hj)
        have hr := part _ (hd.pr j x hj)
        have e := congrArg ByteArray.size (hd.wd j x hj)
        rw [ByteArray.size_append] at e
        rw [List.length_append]
        omega
  by_cases hb : id < 256
  · exact byte h0 hb
  · obtain ⟨j, x, _, hj, rfl, _⟩ := hd.rank_ex (by omega) h1
    exact made j x hj
/-- The leaves of a stack (its top is its last). -/
def stkLeaves (d : Dat) (k : Int) (S : List Int) : List Int := S.reverse.flatMap (leavesOf d k)
theorem stkLeaves_snoc (d : Dat) (k : Int) (S : List Int) (x : Int) : stkLeaves d k (S ++ [x]) = leavesOf d k x ++ stkLeaves d k S := by
  unfold stkLeaves
  rw [List.reverse_append]
  simp
theorem stkLeaves_nil (d : Dat) (k : Int) : stkLeaves d k [] = [] := rfl
def nodes (d : Dat) (k : Int) (S : List Int) : Nat := (S.map fun x => 2 * (leavesOf d k x).length - 1).sum
theorem nodes_snoc (d : Dat) (k : Int) (S : List Int) (x : Int) : nodes d k (S ++ [x]) = nodes d k S + (2 * (leavesOf d k x).length - 1) := by
  unfold nodes
  simp
theorem stk_len {d : Dat} (hd : RightD d) (k : Int) {S : List Int} (h : ∀ x ∈ S, 0 ≤ x ∧ x < 256 + (d.ms.length : Int)) : S.length ≤ (stkLeaves d k S).length := by
  unfold stkLeaves
  rw [List.length_flatMap, ← List.length_reverse]
  have h2 : ∀ x ∈ S.reverse, 0 ≤ x ∧ x < 256 + (d.ms.length : Int) := fun x hx => h x (List.mem_reverse.1 hx)
  generalize S.reverse = T at h2
  induction T with
  | nil => simp
  | cons x T ih =>
    have := ih (fun y hy => h2 y (List.mem_cons_of_mem _ hy))
    have hx := (leavesOf_len hd k (h2 x List.mem_cons_self).1 (h2 x List.mem_cons_self).2).1
    simp at this ⊢
    omega
theorem flat_len {d : Dat} (hd : RightD d) (k : Int) {S : List Int} (h : ∀ x ∈ S, 0 ≤ x ∧ x < 256 + (d.ms.length : Int)) : (S.flatMap (leavesOf d k)).length ≤ 256 * S.length := by
  induction S with
  | nil => simp
  | cons x S ih =>
    have h1 := ih (fun y hy => h y (List.mem_cons_of_mem _ hy))
    have h2 := leavesOf_len hd k (h x List.mem_cons_self).1 (h x List.mem_cons_self).2
    rw [List.flatMap_cons, List.length_append, List.length_cons]
    omega
theorem rank_split {d : Dat} (hd : RightD d) (k : Int) {y : Int} (h0 : 0 ≤ y) (h1 : y < 256 + (d.ms.length : Int)) :
    (∃ (z : Int) (b : Bool), rankT d y = (z, b) ∧ (b = false ∨ (b = true ∧ z < k)) ∧ leavesOf d k y = [y]) ∨
    (∃ (j : Nat) (x : Mrg), d.ms[j]? = some x ∧ y = x.i ∧ rankT d y = ((j : Int), true) ∧ ¬ (j : Int) < k ∧ leavesOf d k y = leavesOf d k x.l ++ leavesOf d k x.r ∧ 0 ≤ x.l ∧ x.l < 256 + (d.ms.length : Int) ∧ 0 ≤ x.r ∧ x.r < 256 + (d.ms.length : Int)) := by
  by_cases hb : y < 256
  · exact .inl ⟨0, false, rankT_none (.inl hb), .inl rfl, leavesOf_byte hd hb⟩
  · obtain ⟨j, x, _, hj, rfl, _⟩ := hd.rank_ex (by omega) h1
    by_cases hk : (j : Int) < k
    · exact .inl ⟨j, true, rankT_at hd hj, .inr ⟨rfl, hk⟩, leavesOf_low hd hj hk⟩
    · have hl := hd.part_range (hd.pl j x hj)
      have hr := hd.part_range (hd.pr j x hj)
      exact .inr ⟨j, x, hj, rfl, rankT_at hd hj, hk, leavesOf_at hd hj hk, hl.1, hl.2, hr.1, hr.2⟩
/-- An id's new name. -/
def nameOf (d : Dat) (k : Int) (id : Int) : Int := ((renGo d (mx k 0) (256 + d.ms.length)).1[id.toNat]?).getD 0
def validId (d : Dat) (id : Int) : Bool := decide (0 ≤ id) && decide (id < 256 + (d.ms.length : Int))
/-- What Down tells. -/
def downT (d : Dat) (k : Int) (ids : List Int) : List Int × Int := if ids.all (validId d) = true then ((ids.flatMap (leavesOf d k)).map (nameOf d k), 0) else ([], 24)
end Go.Proofs.YtjffafcagklpiaaDoor.Sl
/- tesseraref24.rank, Depth: their contracts. -/
namespace Go.Proofs.YtjffafcagklpiaaDoor.Sl
open Go.Proofs.YtjffafcagklpiaaDoor.Lib
open Go.RowKit
set_option linter.unusedVariables false
set_option linter.unusedSimpArgs false

/-- What tesseraref24's rank tells. -/
def rank24 (ms : List Mrg) (id : Int) : Int := match rankOf ms id with | none => -1 | some j => (j : Int)
theorem rankOf_first {ms : List Mrg} {i : Nat} {id : Int} (hi : i < ms.length) (h : ms[i].i = id) (hno : ∀ y ∈ ms.take i, y.i ≠ id) : rankOf ms id = some i := by
  unfold rankOf
  rw [List.findIdx?_eq_some_iff_getElem]
  refine ⟨hi, decide_eq_true h, fun j hj => ?_⟩
  have := hno ms[j] (by rw [List.mem_take_iff_getElem]; exact ⟨j, by omega, rfl⟩)
  simpa using this
theorem rankOf_no {ms : List Mrg} {id : Int} (hno : ∀ y ∈ ms, y.i ≠ id) : rankOf ms id = none := by
  unfold rankOf
  rw [List.findIdx?_eq_none_iff]
  intro x hx
  simpa using hno x hx
theorem rank24_at {d : Dat} (hd : RightD d) {j : Nat} {x : Mrg} (hj : d.ms[j]? = some x) : rank24 d.ms x.i = (j : Int) := by
  unfold rank24
  rw [hd.rank_at hj]
theorem rank24_low {d : Dat} (hd : RightD d) {id : Int} (h : id < 256 ∨ 256 + (d.ms.length : Int) ≤ id) : rank24 d.ms id = -1 := by
  unfold rank24
  rw [hd.rank_low h]
theorem wf_in {n : Int} (h : inI n) : (Lit.int .i64 n).wf = true := by
  unfold inI at h
  simp [Lit.wf, IntKind.min, IntKind.max, IntKind.signed, IntKind.bits]
  omega
theorem wordOf_ok {ws : List ByteArray} {id : Int} (h0 : 0 ≤ id) (h1 : id < 256 + (ws.length : Int)) : (wordOf ws id).2 = true := by
  unfold wordOf
  rw [if_neg (by omega), if_neg (by omega)]
  split <;> rfl
theorem wordOf_bad {ws : List ByteArray} {id : Int} (h : id < 0 ∨ 256 + (ws.length : Int) ≤ id) : (wordOf ws id).2 = false := by
  unfold wordOf
  by_cases h0 : id < 0
  · rw [if_pos h0]
  · rw [if_neg h0, if_pos (by omega)]

end Go.Proofs.YtjffafcagklpiaaDoor.Sl
/- Merged of PruneN, PruneK. -/
/- prune.Down. -/
namespace Go.Proofs.YtjffafcagklpiaaDoor.Sl
open Go.Proofs.YtjffafcagklpiaaDoor.Lib
open Go.RowKit
set_option linter.unusedVariables false
set_option linter.unusedSimpArgs false

def stkOf (w : World) : Value → List Int
  | .slice (some p) n _ => (List.range n).map fun j => intOf ((w.cell? ⟨p.block, p.off + j, none⟩).getD undef)
  | _ => []
theorem stkOf_arr {w : World} {e c : Nat} {p : Option Addr} {S : List Int} (h : Arr w e 1 p S.length c (ints S)) : stkOf w (.slice p S.length c) = S := by
  have hr : Rd eI w p S := Rd.of_arr (by rw [ints_flat]; exact h)
  cases p with
  | none => rw [hr.none_]; rfl
  | some a =>
    unfold stkOf
    refine List.ext_getElem? fun i => ?_
    by_cases hi : i < S.length
    · obtain ⟨b, o, hp, _, hc⟩ := hr.cellI (List.getElem?_eq_getElem hi)
      injection hp with hp
      subst hp
      rw [List.getElem?_map, List.getElem?_range hi, Option.map_some, hc, List.getElem?_eq_getElem hi]
      rfl
    · rw [List.getElem?_eq_none (by simp; omega), List.getElem?_eq_none (by omega)]
/-- Down's loops. -/
structure DnSt (w wr : World) (d : Dat) (k : Int) (N tb ib : Nat) (tc : Array Value) (S O : List Int) (ps : Option Addr) (cs : Nat) (po : Option Addr) (co : Nat) : Prop where
  stk : Arr wr 3 1 ps S.length cs (ints S)
  out : Arr wr 3 1 po O.length co (ints O)
  nam : Arr wr 3 1 (some ⟨ib, 0, none⟩) N N (ints (renGo d (mx k 0) (256 + d.ms.length)).1)
  ext : Ext (fun _ => False) w wr
  box : wr.heap[tb]? = some (.cells tc 61 (0, 0))
  f0 : w.heap.size ≤ ib ∧ w.heap.size ≤ tb ∧ tb ≠ ib
  f1 : ∀ j, blkOf ps = some j → w.heap.size ≤ j ∧ j ≠ ib ∧ j ≠ tb ∧ blkOf po ≠ some j
  f2 : ∀ j, blkOf po = some j → w.heap.size ≤ j ∧ j ≠ ib ∧ j ≠ tb
  ok : ∀ x ∈ S, 0 ≤ x ∧ x < (N : Int)
section
variable {w wr W : World} {d : Dat} {k : Int} {N tb ib : Nat} {tc : Array Value} {S O : List Int} {ps : Option Addr} {cs : Nat} {po : Option Addr} {co : Nat}
theorem DnSt.on (h : DnSt w wr d k N tb ib tc S O ps cs po co) (hx : Ext (fun _ => False) wr W) : DnSt w W d k N tb ib tc S O ps cs po co :=
  { h with stk := arr_ext h.stk hx (fun _ _ h => h), out := arr_ext h.out hx (fun _ _ h => h), nam := arr_ext h.nam hx (fun _ _ h => h), ext := h.ext.trans hx (fun _ _ h => h), box := hx.obj h.box (fun h => h) }
/-- The top is taken. -/
theorem DnSt.pop {x : Int} (h : DnSt w wr d k N tb ib tc (S ++ [x]) O ps cs po co) : DnSt w wr d k N tb ib tc S O ps cs po co :=
  { h with
    stk := by
      have := arr_take h.stk (m := S.length) (by simp)
      unfold ints at this ⊢
      rw [List.map_append, List.take_append_of_le_length (by simp), List.take_of_length_le (by simp)] at this
      exact this
    ok := fun y hy => h.ok y (List.mem_append_left _ hy) }
/-- Ids are put on the stack. -/
theorem DnSt.push {w1 : World} {p1 : Option Addr} {c1 : Nat} {T : List Int} (h : DnSt w wr d k N tb ib tc S O ps cs po co)
    (hA : Arr w1 3 1 p1 (S ++ T).length c1 (ints (S ++ T))) (hx1 : Ext (fun j => blkOf ps = some j) wr w1) (hm : Moved wr ps p1) (hT : ∀ x ∈ T, 0 ≤ x ∧ x < (N : Int)) : DnSt w w1 d k N tb ib tc (S ++ T) O p1 c1 po co := by
  have b1 := arr_lt h.nam (k := ib) rfl
  have b2 := blk_lt h.box
  have b3 := h.ext.size
  refine ⟨hA, arr_ext h.out hx1 (fun j hj e => (h.f1 j e).2.2.2 hj), arr_ext h.nam hx1 (fun j hj e => by have := h.f1 j e; simp [blkOf] at hj; omega), h.ext.trans hx1 (fun i hi e => by have := h.f1 i e; omega), hx1.obj h.box (fun e => by have := h.f1 _ e; omega), h.f0, fun j hj => ?_, h.f2, fun x hx => ?_⟩
  · rcases hm j hj with h1 | h1
    · exact h.f1 j h1
    · exact ⟨by omega, by omega, by omega, fun e => by have := arr_lt h.out e; omega⟩
  · rcases List.mem_append.1 hx with h1 | h1
    · exact h.ok x h1
    · exact hT x h1
/-- A name is put out. -/
theorem DnSt.put {w1 : World} {p1 : Option Addr} {c1 : Nat} {z : Int} (h : DnSt w wr d k N tb ib tc S O ps cs po co)
    (hA : Arr w1 3 1 p1 (O ++ [z]).length c1 (ints (O ++ [z]))) (hx1 : Ext (fun j => blkOf po = some j) wr w1) (hm : Moved wr po p1) : DnSt w w1 d k N tb ib tc S (O ++ [z]) ps cs p1 c1 := by
  have b1 := arr_lt h.nam (k := ib) rfl
  have b2 := blk_lt h.box
  have b3 := h.ext.size
  refine ⟨arr_ext h.stk hx1 (fun j hj e => (h.f1 j hj).2.2.2 e), hA, arr_ext h.nam hx1 (fun j hj e => by have := h.f2 j e; simp [blkOf] at hj; omega), h.ext.trans hx1 (fun i hi e => by have := h.f2 i e; omega), hx1.obj h.box (fun e => by have := h.f2 _ e; omega), h.f0, fun j hj => ?_, fun j hj => ?_, h.ok⟩
  · refine ⟨(h.f1 j hj).1, (h.f1 j hj).2.1, (h.f1 j hj).2.2.1, fun e => ?_⟩
    rcases hm j e with h1 | h1
    · exact (h.f1 j hj).2.2.2 h1
    · have := arr_lt h.stk hj; omega
  · rcases hm j hj with h1 | h1
    · exact h.f2 j h1
    · omega
/-- A new stack of one id. -/
theorem DnSt.fresh {x : Int} (h : DnSt w wr d k N tb ib tc S O ps cs po co) (hx : 0 ≤ x ∧ x < (N : Int)) : DnSt w (wr.alloc (.cells #[.int .i64 x] 3)) d k N tb ib tc [x] O (some ⟨wr.heap.size, 0, none⟩) 1 po co := by
  have h2 := h.on ((Ext.refl (fun _ => False) wr).alloc (.cells #[.int .i64 x] 3))
  have b1 := arr_lt h.nam (k := ib) rfl
  have b2 := blk_lt h.box
  have b3 := h.ext.size
  refine { h2 with stk := World.ownsRow_lit wr #[.int .i64 x] 1 (Nat.zero_le _) (by decide) rfl, f1 := fun j hj => ?_, ok := fun y hy => by simp at hy; subst hy; exact hx }
  simp [blkOf] at hj
  exact ⟨by omega, by omega, by omega, fun e => by have := arr_lt h.out e; omega⟩
theorem DnSt.wipe (h : DnSt w wr d k N tb ib tc S O ps cs po co) : DnSt w wr d k N tb ib tc [] O none 0 po co :=
  { h with stk := arr_nil _ _ _, f1 := fun j hj => (by cases hj), ok := fun x hx => (by simp at hx) }
end
theorem keepX {C : Prop} {T : Nat → Prop} {W w1 w2 : World} (x : Ext (fun _ => False) w1 w2) (h : C ∧ Ext T W w1) : Ext T W w2 := h.2.trans x (fun _ _ h => h.elim)
def DownEnd (w : World) (d : Dat) (k : Int) (ids : List Int) (e : Ending) (w' : World) : Prop := ∃ (po : Option Addr) (co : Nat), e = .returned (.tuple #[.slice po (downT d k ids).1.length co, .int .i64 (downT d k ids).2]) ∧
  Arr w' 3 1 po (downT d k ids).1.length co (ints (downT d k ids).1) ∧ Ext (fun _ => False) w w' ∧ (∀ j, blkOf po = some j → w.heap.size ≤ j)

end Go.Proofs.YtjffafcagklpiaaDoor.Sl

/- law24.known. -/
namespace Go.Proofs.YtjffafcagklpiaaDoor.Sl
open Go.Proofs.YtjffafcagklpiaaDoor.Lib
open Go.RowKit
set_option linter.unusedVariables false
set_option linter.unusedSimpArgs false
set_option maxRecDepth 100000
theorem house_down : downT houseDat 3 [259, 256] = ([258, 101, 256], 0) := by decide +kernel
theorem house_l : askT houseDat 259 (·.l) = (258, true) := by decide +kernel
theorem house_r : askT houseDat 259 (·.r) = (101, true) := by decide +kernel
theorem house_depth : depthT houseDat 259 = 2 := by decide +kernel
end Go.Proofs.YtjffafcagklpiaaDoor.Sl
/- Merged of FirstSt, First24, Down24. -/
/- Ids, words and merges put out one by one: the state of tesseraref24.First. -/
namespace Go.Proofs.YtjffafcagklpiaaDoor.Sl
open Go.Proofs.YtjffafcagklpiaaDoor.Lib
open Go.RowKit
set_option linter.unusedVariables false
set_option linter.unusedSimpArgs false

structure FsSt (w wr : World) (tc : Array Value) (L : Pl) (d : Dat) (I : List Int) (Wd : List ByteArray) (M : List Mrg) (pi : Option Addr) (ci : Nat) (pw : Option Addr) (cw : Nat) (pm : Option Addr) (cm : Nat) : Prop where
  ids : Arr wr 3 1 pi I.length ci (ints I)
  wds : Arr wr 9 1 pw Wd.length cw (flat eS Wd)
  mgs : Arr wr 66 3 pm M.length cm (flat eM M)
  ext : Ext (fun _ => False) w wr
  box : wr.heap[w.heap.size]? = some (.cells tc 26 (0, 0))
  rs : ResB wr (w.heap.size + 1) 26 5
  ob : wr.heap[w.heap.size + 2]? = some (.cells #[.slice pw Wd.length cw, .slice pm M.length cm, .slice L.p2 d.ls.length L.c2, .slice L.p3 d.ns.length L.c3, .slice L.p4 d.ss.length L.c4] 26 (0, 0))
  f1 : ∀ j, blkOf pi = some j → w.heap.size + 3 ≤ j ∧ blkOf pw ≠ some j ∧ blkOf pm ≠ some j
  f2 : ∀ j, blkOf pw = some j → w.heap.size + 3 ≤ j ∧ blkOf pm ≠ some j
  f3 : ∀ j, blkOf pm = some j → w.heap.size + 3 ≤ j
section
variable {w wr W w1 : World} {tc : Array Value} {L : Pl} {d : Dat} {I : List Int} {Wd : List ByteArray} {M : List Mrg} {pi : Option Addr} {ci : Nat} {pw : Option Addr} {cw : Nat} {pm : Option Addr} {cm : Nat} {p1 : Option Addr} {c1 : Nat}
theorem FsSt.on (h : FsSt w wr tc L d I Wd M pi ci pw cw pm cm) (hx : Ext (fun _ => False) wr W) : FsSt w W tc L d I Wd M pi ci pw cw pm cm :=
  { h with ids := arr_ext h.ids hx (fun _ _ h => h), wds := arr_ext h.wds hx (fun _ _ h => h), mgs := arr_ext h.mgs hx (fun _ _ h => h), ext := h.ext.trans hx (fun _ _ h => h), box := hx.obj h.box (fun h => h), rs := h.rs.on hx, ob := hx.obj h.ob (fun h => h) }
theorem FsSt.addId {z : Int} (h : FsSt w wr tc L d I Wd M pi ci pw cw pm cm) (hA : Arr w1 3 1 p1 (I.length + 1) c1 (ints I ++ [.int .i64 z])) (hx1 : Ext (fun j => blkOf pi = some j) wr w1) (hm : Moved wr pi p1) : FsSt w w1 tc L d (I ++ [z]) Wd M p1 c1 pw cw pm cm := by
  have hs := blk_lt h.ob
  refine ⟨by simpa [ints] using hA, arr_ext h.wds hx1 (fun j hj e => (h.f1 j e).2.1 hj), arr_ext h.mgs hx1 (fun j hj e => (h.f1 j e).2.2 hj), h.ext.trans hx1 (fun i hi e => by have := h.f1 i e; omega), hx1.obj h.box (fun e => by have := h.f1 _ e; omega), ?_, hx1.obj h.ob (fun e => by have := h.f1 _ e; omega), fun j hj => ?_, h.f2, h.f3⟩
  · obtain ⟨cs, hc, hz⟩ := h.rs
    exact ⟨cs, hx1.obj hc (fun e => by have := h.f1 _ e; omega), hz⟩
  · rcases hm j hj with h1 | h1
    · exact h.f1 j h1
    · exact ⟨by omega, fun e => by have := arr_lt h.wds e; omega, fun e => by have := arr_lt h.mgs e; omega⟩
theorem FsSt.addWord {s : ByteArray} (h : FsSt w wr tc L d I Wd M pi ci pw cw pm cm) (hA : Arr w1 9 1 p1 (Wd.length + 1) c1 (flat eS Wd ++ [.string s])) (hx1 : Ext (fun j => blkOf pw = some j) wr w1) (hm : Moved wr pw p1) :
    FsSt w (w1.setCell ⟨w.heap.size + 2, 0, none⟩ (.slice p1 (Wd.length + 1) c1)) tc L d I (Wd ++ [s]) M pi ci p1 c1 pm cm := by
  have hs := blk_lt h.ob
  have hx2 : Ext (fun j => j = w.heap.size + 2) w1 (w1.setCell ⟨w.heap.size + 2, 0, none⟩ (.slice p1 (Wd.length + 1) c1)) := (Ext.refl (fun j => j = w.heap.size + 2) w1).setCell (p := ⟨w.heap.size + 2, 0, none⟩) (fun _ => rfl) _
  have s1 := hx1.size
  have hp1 : ∀ j, blkOf p1 = some j → w.heap.size + 3 ≤ j ∧ blkOf pm ≠ some j ∧ blkOf pi ≠ some j := fun j hj => by
    rcases hm j hj with h1 | h1
    · exact ⟨(h.f2 j h1).1, (h.f2 j h1).2, fun e => (h.f1 j e).2.1 h1⟩
    · exact ⟨by omega, fun e => by have := arr_lt h.mgs e; omega, fun e => by have := arr_lt h.ids e; omega⟩
  refine ⟨?_, ?_, ?_, ?_, ?_, ?_, ?_, fun j hj => ⟨(h.f1 j hj).1, fun e => (hp1 j e).2.2 hj, (h.f1 j hj).2.2⟩, fun j hj => ⟨(hp1 j hj).1, (hp1 j hj).2.1⟩, h.f3⟩
  · exact arr_ext (arr_ext h.ids hx1 (fun j hj e => (h.f1 j hj).2.1 e)) hx2 (fun j hj e => by have := h.f1 j hj; omega)
  · have := arr_ext hA hx2 (fun j hj e => by have := hp1 j hj; omega)
    simpa [flat, eS] using this
  · exact arr_ext (arr_ext h.mgs hx1 (fun j hj e => (h.f2 j e).2 hj)) hx2 (fun j hj e => by have := h.f3 j hj; omega)
  · exact (h.ext.trans hx1 (fun i hi e => by have := h.f2 i e; omega)).trans hx2 (fun i hi e => by omega)
  · exact hx2.obj (hx1.obj h.box (fun e => by have := h.f2 _ e; omega)) (by omega)
  · obtain ⟨cs, hc, hz⟩ := h.rs
    exact ⟨cs, hx2.obj (hx1.obj hc (fun e => by have := h.f2 _ e; omega)) (by omega), hz⟩
  · have := blk_set (hx1.obj h.ob (fun e => by have := h.f2 _ e; omega)) 0 (.slice p1 (Wd.length + 1) c1)
    simpa using this
theorem FsSt.addMerge {x : Mrg} (h : FsSt w wr tc L d I Wd M pi ci pw cw pm cm) (hA : Arr w1 66 3 p1 (M.length + 1) c1 (flat eM M ++ [.int .i64 x.l, .int .i64 x.r, .int .i64 x.i])) (hx1 : Ext (fun j => blkOf pm = some j) wr w1) (hm : Moved wr pm p1) :
    FsSt w (w1.setCell ⟨w.heap.size + 2, 1, none⟩ (.slice p1 (M.length + 1) c1)) tc L d I Wd (M ++ [x]) pi ci pw cw p1 c1 := by
  have hs := blk_lt h.ob
  have hx2 : Ext (fun j => j = w.heap.size + 2) w1 (w1.setCell ⟨w.heap.size + 2, 1, none⟩ (.slice p1 (M.length + 1) c1)) := (Ext.refl (fun j => j = w.heap.size + 2) w1).setCell (p := ⟨w.heap.size + 2, 1, none⟩) (fun _ => rfl) _
  have s1 := hx1.size
  have hp1 : ∀ j, blkOf p1 = some j → w.heap.size + 3 ≤ j ∧ blkOf pw ≠ some j ∧ blkOf pi ≠ some j := fun j hj => by
    rcases hm j hj with h1 | h1
    · exact ⟨h.f3 j h1, fun e => (h.f2 j e).2 h1, fun e => (h.f1 j e).2.2 h1⟩
    · exact ⟨by omega, fun e => by have := arr_lt h.wds e; omega, fun e => by have := arr_lt h.ids e; omega⟩
  refine ⟨?_, ?_, ?_, ?_, ?_, ?_, ?_, fun j hj => ⟨(h.f1 j hj).1, (h.f1 j hj).2.1, fun e => (hp1 j e).2.2 hj⟩, fun j hj => ⟨(h.f2 j hj).1, fun e => (hp1 j e).2.1 hj⟩, fun j hj => (hp1 j hj).1⟩
  · exact arr_ext (arr_ext h.ids hx1 (fun j hj e => (h.f1 j hj).2.2 e)) hx2 (fun j hj e => by have := h.f1 j hj; omega)
  · exact arr_ext (arr_ext h.wds hx1 (fun j hj e => (h.f2 j hj).2 e)) hx2 (fun j hj e => by have := h.f2 j hj; omega)
  · have := arr_ext hA hx2 (fun j hj e => by have := hp1 j hj; omega)
    simpa [flat, eM] using this
  · exact (h.ext.trans hx1 (fun i hi e => by have := h.f3 i e; omega)).trans hx2 (fun i hi e => by omega)
  · exact hx2.obj (hx1.obj h.box (fun e => by have := h.f3 _ e; omega)) (by omega)
  · obtain ⟨cs, hc, hz⟩ := h.rs
    exact ⟨cs, hx2.obj (hx1.obj hc (fun e => by have := h.f3 _ e; omega)) (by omega), hz⟩
  · have := blk_set (hx1.obj h.ob (fun e => by have := h.f3 _ e; omega)) 1 (.slice p1 (M.length + 1) c1)
    simpa using this
end
end Go.Proofs.YtjffafcagklpiaaDoor.Sl

/- tesseraref24.First. -/
namespace Go.Proofs.YtjffafcagklpiaaDoor.Sl
open Go.Proofs.YtjffafcagklpiaaDoor.Lib hiding mn
open Go.RowKit Go.Proofs.YtjffafcagklpiaaDoorW.PrintLast
set_option linter.unusedVariables false
set_option linter.unusedSimpArgs false

theorem renGo_bd (d : Dat) (k : Int) (n : Nat) : ∀ z ∈ (renGo d k n).1, -1 ≤ z ∧ z ≤ 256 + (n : Int) := by
  induction n with
  | zero => intro z hz; simp [renGo] at hz
  | succ n ih =>
    have hl := (renGo_len d k n).2
    intro z hz
    by_cases h0 : n < 256
    · rw [renGo_low d k h0] at hz
      rcases List.mem_append.1 hz with h | h
      · have := ih z h; omega
      · simp at h; omega
    · by_cases h1 : (((rankOf d.ms n).getD 0 : Nat) : Int) < k
      · rw [renGo_in d k h0 h1] at hz
        rcases List.mem_append.1 hz with h | h
        · have := ih z h; omega
        · simp at h; omega
      · rw [renGo_out d k h0 h1] at hz
        rcases List.mem_append.1 hz with h | h
        · have := ih z h; omega
        · simp at h; omega
theorem renGo_ws {d : Dat} (hd : RightD d) (k : Int) (n : Nat) : ∀ s ∈ (renGo d k n).2, s.size ≤ 256 := by
  induction n with
  | zero => intro z hz; simp [renGo] at hz
  | succ n ih =>
    intro z hz
    by_cases h0 : n < 256
    · rw [renGo_low d k h0] at hz
      exact ih z hz
    · by_cases h1 : (((rankOf d.ms n).getD 0 : Nat) : Int) < k
      · rw [renGo_in d k h0 h1] at hz
        rcases List.mem_append.1 hz with h | h
        · exact ih z h
        · simp at h
          subst h
          cases e : d.ws[n - 256]? with
          | none => simp
          | some s => simpa using (hd.words _ _ e).2.1
      · rw [renGo_out d k h0 h1] at hz
        exact ih z hz
/-- How many merges are left. -/
def kc (d : Dat) (k : Int) : Nat := if k < 0 then 0 else if (d.ms.length : Int) < k then d.ms.length else k.toNat
theorem kc_le (d : Dat) (k : Int) : kc d k ≤ d.ms.length := by
  unfold kc
  split
  · omega
  · split <;> omega
def renAt (I : List Int) (id : Int) : Int := (I[id.toNat]?).getD 0
def cutM (I : List Int) (x : Mrg) : Mrg := ⟨renAt I x.l, renAt I x.r, renAt I x.i⟩
/-- The data with the first merges alone. -/
def cutD (d : Dat) (k : Nat) : Dat := { d with ws := (renGo d k (256 + d.ms.length)).2, ms := (d.ms.take k).map (cutM (renGo d k (256 + d.ms.length)).1) }
theorem cutD_ws (d : Dat) (k : Nat) : (cutD d k).ws = (renGo d k (256 + d.ms.length)).2 := rfl
theorem renAt_bd (d : Dat) (k : Int) (n : Nat) (z : Int) : -1 ≤ renAt (renGo d k n).1 z ∧ renAt (renGo d k n).1 z ≤ 256 + (n : Int) := by
  unfold renAt
  cases e : (renGo d k n).1[z.toNat]? with
  | none => simp; omega
  | some y => exact renGo_bd d k n y (List.mem_of_getElem? e)
def FirstEnd (w : World) (L : Pl) (d : Dat) (n : Nat) (e : Ending) (w' : World) : Prop := ∃ (pi : Option Addr) (ci : Nat) (pw : Option Addr) (cw : Nat) (pm : Option Addr) (cm : Nat),
  e = .returned (.tuple #[.agg #[.slice pw (cutD d n).ws.length cw, .slice pm (cutD d n).ms.length cm, .slice L.p2 d.ls.length L.c2, .slice L.p3 d.ns.length L.c3, .slice L.p4 d.ss.length L.c4], .slice pi (256 + d.ms.length) ci]) ∧
  Arr w' 3 1 pi (256 + d.ms.length) ci (ints (renGo d n (256 + d.ms.length)).1) ∧ DR w' ⟨pw, cw, pm, cm, L.p2, L.c2, L.p3, L.c3, L.p4, L.c4⟩ (cutD d n) ∧ Ext (fun _ => False) w w' ∧ (∀ j, blkOf pi = some j → w.heap.size < j)
theorem FirstEnd.mk {w w' wr : World} {tc : Array Value} {L : Pl} {d : Dat} {n : Nat} {I : List Int} {Wd : List ByteArray} {M : List Mrg} {pi : Option Addr} {ci : Nat} {pw : Option Addr} {cw : Nat} {pm : Option Addr} {cm : Nat} (h : FsSt w wr tc L d I Wd M pi ci pw cw pm cm)
    (hR : DR w L d) (hD : RightD d) (hn : n ≤ d.ms.length) (hI : (renGo d n (256 + d.ms.length)).1 = I) (hW : (renGo d n (256 + d.ms.length)).2 = Wd) (hM : (d.ms.take n).map (cutM I) = M) (hx : Ext (fun j => j = w.heap.size + 1) wr w') :
    FirstEnd w L d n (.returned (.tuple #[.agg #[.slice pw Wd.length cw, .slice pm n cm, .slice L.p2 d.ls.length L.c2, .slice L.p3 d.ns.length L.c3, .slice L.p4 d.ss.length L.c4], .slice pi (256 + d.ms.length) ci])) w' := by
  have hl := (renGo_len d n (256 + d.ms.length))
  have hf := hD.few
  subst hI hW hM
  have hml : (cutD d n).ms.length = n := by unfold cutD; rw [List.length_map, List.length_take]; omega
  have hx2 : Ext (fun _ => False) w w' := h.ext.trans hx (fun i hi e => by omega)
  have a0 := arr_ext h.ids hx (fun j hj e => by have := h.f1 j hj; omega)
  have a1 := arr_ext h.wds hx (fun j hj e => by have := h.f2 j hj; omega)
  have a2 := arr_ext h.mgs hx (fun j hj e => by have := h.f3 j hj; omega)
  have R := hR.on hx2
  rw [hl.1] at a0
  refine ⟨pi, ci, pw, cw, pm, cm, by rw [hml]; rfl, a0, ?_, hx2, fun j hj => by have := h.f1 j hj; omega⟩
  refine ⟨Rd.of_arr a1, Rd.of_arr a2, R.r2, R.r3, R.r4, (arr_cap a1).1, (arr_cap a2).1, R.k2, R.k3, R.k4, ?_, ?_, R.b2, R.b3, R.b4, fun s hs => ?_, fun x hx => ?_⟩
  · rw [cutD_ws]; omega
  · rw [hml]; omega
  · have := renGo_ws hD n _ s hs; omega
  · unfold cutD at hx
    rw [List.mem_map] at hx
    obtain ⟨y, _, rfl⟩ := hx
    have h1 := renAt_bd d n (256 + d.ms.length) y.l
    have h2 := renAt_bd d n (256 + d.ms.length) y.r
    have h3 := renAt_bd d n (256 + d.ms.length) y.i
    unfold cutM inI
    exact ⟨⟨by simp only; omega, by simp only; omega⟩, ⟨by simp only; omega, by simp only; omega⟩, ⟨by simp only; omega, by simp only; omega⟩⟩

end Go.Proofs.YtjffafcagklpiaaDoor.Sl

/- tesseraref24.Down. -/
namespace Go.Proofs.YtjffafcagklpiaaDoor.Sl
open Go.Proofs.YtjffafcagklpiaaDoor.Lib
open Go.RowKit
set_option linter.unusedVariables false
set_option linter.unusedSimpArgs false

/-- tesseraref24.Down's loops. -/
structure DvSt (w wr : World) (d : Dat) (k : Int) (N nc tb ib : Nat) (tc : Array Value) (S O : List Int) (ps : Option Addr) (cs : Nat) (po : Option Addr) (co : Nat) : Prop where
  stk : Arr wr 3 1 ps S.length cs (ints S)
  out : Arr wr 3 1 po O.length co (ints O)
  nam : Arr wr 3 1 (some ⟨ib, 0, none⟩) N nc (ints (renGo d k (256 + d.ms.length)).1)
  ext : Ext (fun _ => False) w wr
  box : wr.heap[tb]? = some (.cells tc 26 (0, 0))
  f0 : w.heap.size ≤ ib ∧ w.heap.size ≤ tb ∧ tb ≠ ib
  f1 : ∀ j, blkOf ps = some j → w.heap.size ≤ j ∧ j ≠ ib ∧ j ≠ tb ∧ blkOf po ≠ some j
  f2 : ∀ j, blkOf po = some j → w.heap.size ≤ j ∧ j ≠ ib ∧ j ≠ tb
  ok : ∀ x ∈ S, 0 ≤ x ∧ x < (N : Int)
section
variable {w wr W : World} {d : Dat} {k : Int} {N nc tb ib : Nat} {tc : Array Value} {S O : List Int} {ps : Option Addr} {cs : Nat} {po : Option Addr} {co : Nat}
theorem DvSt.on (h : DvSt w wr d k N nc tb ib tc S O ps cs po co) (hx : Ext (fun _ => False) wr W) : DvSt w W d k N nc tb ib tc S O ps cs po co :=
  { h with stk := arr_ext h.stk hx (fun _ _ h => h), out := arr_ext h.out hx (fun _ _ h => h), nam := arr_ext h.nam hx (fun _ _ h => h), ext := h.ext.trans hx (fun _ _ h => h), box := hx.obj h.box (fun h => h) }
/-- The top is taken. -/
theorem DvSt.pop {x : Int} (h : DvSt w wr d k N nc tb ib tc (S ++ [x]) O ps cs po co) : DvSt w wr d k N nc tb ib tc S O ps cs po co :=
  { h with
    stk := by
      have := arr_take h.stk (m := S.length) (by simp)
      unfold ints at this ⊢
      rw [List.map_append, List.take_append_of_le_length (by simp), List.take_of_length_le (by simp)] at this
      exact this
    ok := fun y hy => h.ok y (List.mem_append_left _ hy) }
/-- Ids are put on the stack. -/
theorem DvSt.push {w1 : World} {p1 : Option Addr} {c1 : Nat} {T : List Int} (h : DvSt w wr d k N nc tb ib tc S O ps cs po co)
    (hA : Arr w1 3 1 p1 (S ++ T).length c1 (ints (S ++ T))) (hx1 : Ext (fun j => blkOf ps = some j) wr w1) (hm : Moved wr ps p1) (hT : ∀ x ∈ T, 0 ≤ x ∧ x < (N : Int)) : DvSt w w1 d k N nc tb ib tc (S ++ T) O p1 c1 po co := by
  have b1 := arr_lt h.nam (k := ib) rfl
  have b2 := blk_lt h.box
  have b3 := h.ext.size
  refine ⟨hA, arr_ext h.out hx1 (fun j hj e => (h.f1 j e).2.2.2 hj), arr_ext h.nam hx1 (fun j hj e => by have := h.f1 j e; simp [blkOf] at hj; omega), h.ext.trans hx1 (fun i hi e => by have := h.f1 i e; omega), hx1.obj h.box (fun e => by have := h.f1 _ e; omega), h.f0, fun j hj => ?_, h.f2, fun x hx => ?_⟩
  · rcases hm j hj with h1 | h1
    · exact h.f1 j h1
    · exact ⟨by omega, by omega, by omega, fun e => by have := arr_lt h.out e; omega⟩
  · rcases List.mem_append.1 hx with h1 | h1
    · exact h.ok x h1
    · exact hT x h1
/-- A name is put out. -/
theorem DvSt.put {w1 : World} {p1 : Option Addr} {c1 : Nat} {z : Int} (h : DvSt w wr d k N nc tb ib tc S O ps cs po co)
    (hA : Arr w1 3 1 p1 (O ++ [z]).length c1 (ints (O ++ [z]))) (hx1 : Ext (fun j => blkOf po = some j) wr w1) (hm : Moved wr po p1) : DvSt w w1 d k N nc tb ib tc S (O ++ [z]) ps cs p1 c1 := by
  have b1 := arr_lt h.nam (k := ib) rfl
  have b2 := blk_lt h.box
  have b3 := h.ext.size
  refine ⟨arr_ext h.stk hx1 (fun j hj e => (h.f1 j hj).2.2.2 e), hA, arr_ext h.nam hx1 (fun j hj e => by have := h.f2 j e; simp [blkOf] at hj; omega), h.ext.trans hx1 (fun i hi e => by have := h.f2 i e; omega), hx1.obj h.box (fun e => by have := h.f2 _ e; omega), h.f0, fun j hj => ?_, fun j hj => ?_, h.ok⟩
  · refine ⟨(h.f1 j hj).1, (h.f1 j hj).2.1, (h.f1 j hj).2.2.1, fun e => ?_⟩
    rcases hm j e with h1 | h1
    · exact (h.f1 j hj).2.2.2 h1
    · have := arr_lt h.stk hj; omega
  · rcases hm j hj with h1 | h1
    · exact h.f2 j h1
    · omega
/-- A new stack of one id. -/
theorem DvSt.fresh {x : Int} (h : DvSt w wr d k N nc tb ib tc S O ps cs po co) (hx : 0 ≤ x ∧ x < (N : Int)) : DvSt w (wr.alloc (.cells #[.int .i64 x] 3)) d k N nc tb ib tc [x] O (some ⟨wr.heap.size, 0, none⟩) 1 po co := by
  have h2 := h.on ((Ext.refl (fun _ => False) wr).alloc (.cells #[.int .i64 x] 3))
  have b1 := arr_lt h.nam (k := ib) rfl
  have b2 := blk_lt h.box
  have b3 := h.ext.size
  refine { h2 with stk := World.ownsRow_lit wr #[.int .i64 x] 1 (Nat.zero_le _) (by decide) rfl, f1 := fun j hj => ?_, ok := fun y hy => by simp at hy; subst hy; exact hx }
  simp [blkOf] at hj
  exact ⟨by omega, by omega, by omega, fun e => by have := arr_lt h.out e; omega⟩
theorem DvSt.wipe (h : DvSt w wr d k N nc tb ib tc S O ps cs po co) : DvSt w wr d k N nc tb ib tc [] O none 0 po co :=
  { h with stk := arr_nil _ _ _, f1 := fun j hj => (by cases hj), ok := fun x hx => (by simp at hx) }
end

/-- An id's new name. -/
def newOf (d : Dat) (k : Int) (i : Nat) : Int := if i < 256 then (i : Int) else if (((rankOf d.ms i).getD 0 : Nat) : Int) < k then 256 + ((renGo d k i).2.length : Int) else -1
theorem ren_at (d : Dat) (k : Int) : ∀ n i, i < n → (renGo d k n).1[i]? = some (newOf d k i) := by
  intro n
  induction n with
  | zero => intro i hi; omega
  | succ n ih =>
    intro i hi
    have hl := (renGo_len d k n).1
    have hz : ∃ z, (renGo d k (n + 1)).1 = (renGo d k n).1 ++ [z] ∧ newOf d k n = z := by
      unfold newOf
      by_cases h0 : n < 256
      · exact ⟨_, by rw [renGo_low d k h0], if_pos h0⟩
      · by_cases h1 : (((rankOf d.ms n).getD 0 : Nat) : Int) < k
        · exact ⟨_, by rw [renGo_in d k h0 h1], by rw [if_neg h0, if_pos h1]⟩
        · exact ⟨_, by rw [renGo_out d k h0 h1], by rw [if_neg h0, if_neg h1]⟩
    obtain ⟨z, e, ez⟩ := hz
    rw [e]
    by_cases hin : i < n
    · rw [List.getElem?_append_left (by omega)]
      exact ih i hin
    · obtain rfl : i = n := by omega
      rw [List.getElem?_append_right (by omega), hl, Nat.sub_self, ez]
      rfl
theorem nameOf_new {d : Dat} {k : Int} (hk : 0 ≤ k) {y : Int} (h0 : 0 ≤ y) (h1 : y < 256 + (d.ms.length : Int)) : nameOf d k y = newOf d k y.toNat := by
  unfold nameOf
  rw [show mx k 0 = k from if_neg (by omega), ren_at d k _ _ (by omega)]
  rfl
theorem split24 {d : Dat} (hd : RightD d) {k : Int} (hk : 0 ≤ k) {y : Int} (h0 : 0 ≤ y) (h1 : y < 256 + (d.ms.length : Int)) :
    (0 ≤ nameOf d k y ∧ leavesOf d k y = [y]) ∨
    (∃ (j : Nat) (x : Mrg), d.ms[j]? = some x ∧ y = x.i ∧ nameOf d k y = -1 ∧ leavesOf d k y = leavesOf d k x.l ++ leavesOf d k x.r ∧ 0 ≤ x.l ∧ x.l < 256 + (d.ms.length : Int) ∧ 0 ≤ x.r ∧ x.r < 256 + (d.ms.length : Int)) := by
  rw [nameOf_new hk h0 h1]
  unfold newOf
  by_cases hb : y < 256
  · exact .inl ⟨by rw [if_pos (by omega)]; omega, leavesOf_byte hd hb⟩
  · obtain ⟨j, x, hr, hj, rfl, _⟩ := hd.rank_ex (by omega) h1
    have e : ((x.i.toNat : Nat) : Int) = x.i := by omega
    rw [if_neg (by omega), e, hr]
    by_cases hkj : (j : Int) < k
    · exact .inl ⟨by rw [if_pos (by simpa using hkj)]; omega, leavesOf_low hd hj hkj⟩
    · have hl := hd.part_range (hd.pl j x hj)
      have hr := hd.part_range (hd.pr j x hj)
      exact .inr ⟨j, x, hj, rfl, by rw [if_neg (by simpa using hkj)], leavesOf_at hd hj hkj, hl.1, hl.2, hr.1, hr.2⟩
/-! ### k and k brought into the range -/
theorem kc_lt (d : Dat) (k : Int) {j : Nat} (hj : j < d.ms.length) : ((j : Int) < ((kc d k : Nat) : Int)) ↔ (j : Int) < k := by
  unfold kc
  split
  · omega
  · split <;> omega
theorem leavesG_kc (d : Dat) (k : Int) : ∀ f id, leavesG d.ms ((kc d k : Nat) : Int) f id = leavesG d.ms k f id := by
  intro f
  induction f with
  | zero => intro id; rfl
  | succ f ih =>
    intro id
    rw [leavesG, leavesG]
    cases hr : rankOf d.ms id with
    | none => rfl
    | some r =>
      obtain ⟨x, hx, _, hlt⟩ := rankOf_some hr
      have := kc_lt d k hlt
      by_cases h : (r : Int) < k
      · simp only [if_pos h, if_pos (this.2 h)]
      · simp only [if_neg h, if_neg (fun h2 => h (this.1 h2)), hx, ih]
theorem renGo_kc {d : Dat} (hd : RightD d) (k : Int) : ∀ n, n ≤ 256 + d.ms.length → renGo d ((kc d k : Nat) : Int) n = renGo d (mx k 0) n := by
  intro n
  induction n with
  | zero => intro _; rfl
  | succ n ih =>
    intro hn
    have e := ih (by omega)
    by_cases h0 : n < 256
    · rw [renGo_low d _ h0, renGo_low d _ h0, e]
    · obtain ⟨j, x, hr, hj, hxi, hlt⟩ := hd.rank_ex (id := (n : Int)) (by omega) (by omega)
      have h1 := kc_lt d k hlt
      have h2 : ((j : Int) < mx k 0) ↔ (j : Int) < k := by unfold mx; split <;> omega
      by_cases h : (j : Int) < k
      · rw [renGo_in d _ h0 (by rw [hr]; simpa using h1.2 h), renGo_in d _ h0 (by rw [hr]; simpa using h2.2 h), e]
      · rw [renGo_out d _ h0 (by rw [hr]; simpa using fun h3 => h (h1.1 h3)), renGo_out d _ h0 (by rw [hr]; simpa using fun h3 => h (h2.1 h3)), e]
theorem downT_kc {d : Dat} (hd : RightD d) (k : Int) (ids : List Int) : downT d ((kc d k : Nat) : Int) ids = downT d k ids := by
  have e1 : ∀ x, leavesOf d ((kc d k : Nat) : Int) x = leavesOf d k x := fun x => leavesG_kc d k _ x
  have e2 : ∀ x, nameOf d ((kc d k : Nat) : Int) x = nameOf d k x := fun x => by
    unfold nameOf
    rw [show mx ((kc d k : Nat) : Int) 0 = ((kc d k : Nat) : Int) from if_neg (by omega), renGo_kc hd k _ (Nat.le_refl _)]
  have e1' : leavesOf d ((kc d k : Nat) : Int) = leavesOf d k := funext e1
  have e2' : nameOf d ((kc d k : Nat) : Int) = nameOf d k := funext e2
  unfold downT
  rw [e1', e2']

theorem set3 {w : World} {b t : Nat} {u v y : Value} (h : w.heap[b]? = some (.cells #[u, v, y] t (0, 0))) (a c e : Value) : (((w.setCell ⟨b, 0, none⟩ a).setCell ⟨b, 1, none⟩ c).setCell ⟨b, 2, none⟩ e).heap[b]? = some (.cells #[a, c, e] t (0, 0)) := by
  have h1 := blk_set h 0 a
  have h2 := blk_set h1 1 c
  have h3 := blk_set h2 2 e
  simpa using h3
def Down24End (w : World) (O : List Int) (e : Ending) (w' : World) : Prop := ∃ (po : Option Addr) (co : Nat), e = .returned (.slice po O.length co) ∧ Rd eI w' po O ∧ Ext (fun _ => False) w w'

end Go.Proofs.YtjffafcagklpiaaDoor.Sl
