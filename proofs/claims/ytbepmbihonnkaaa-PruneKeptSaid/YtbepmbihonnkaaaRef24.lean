/- tesseraref24.rank, Depth: their contracts. -/
import Derived.Test.YtbepmbihonnkaaaPruneL
namespace Go.Proofs.Ytbepmbihonnkaaa.Sl
open Go.Proofs.Ytbepmbihonnkaaa.Lib
open Go.RowKit
set_option linter.unusedVariables false
set_option linter.unusedSimpArgs false

/-- What tesseraref24's rank tells. -/
def rank24 (ms : List Mrg) (id : Int) : Int := match rankOf ms id with | none => -1 | some j => (j : Int)
theorem rankOf_first {ms : List Mrg} {i : Nat} {id : Int} (hi : i < ms.length) (h : ms[i].i = id) (hno : ∀ y ∈ ms.take i, y.i ≠ id) : rankOf ms id = some i := by
  unfold rankOf
  rw [List.findIdx?_eq_some_iff_getElem]
  refine ⟨hi, decide_eq_true h, fun j hj => ?_⟩
  have := hno ms[j] (by rw [List.mem_take_iff_getElem]; exact ⟨j, by omega, rfl⟩)
  simpa using this
theorem rankOf_no {ms : List Mrg} {id : Int} (hno : ∀ y ∈ ms, y.i ≠ id) : rankOf ms id = none := by
  unfold rankOf
  rw [List.findIdx?_eq_none_iff]
  intro x hx
  simpa using hno x hx
theorem rank24_at {d : Dat} (hd : RightD d) {j : Nat} {x : Mrg} (hj : d.ms[j]? = some x) : rank24 d.ms x.i = (j : Int) := by
  unfold rank24
  rw [hd.rank_at hj]
theorem rank24_low {d : Dat} (hd : RightD d) {id : Int} (h : id < 256 ∨ 256 + (d.ms.length : Int) ≤ id) : rank24 d.ms id = -1 := by
  unfold rank24
  rw [hd.rank_low h]
theorem wf_in {n : Int} (h : inI n) : (Lit.int .i64 n).wf = true := by
  unfold inI at h
  simp [Lit.wf, IntKind.min, IntKind.max, IntKind.signed, IntKind.bits]
  omega
set_option maxHeartbeats 1000000 in
theorem rank24_any (w : World) (L : Pl) (d : Dat) (id : Int) (h : DR w L d) (hm : d.ms.length ≤ 1099511627776) (hw : d.ws.length ≤ 1099511627776) :
    Calls Try.prog 43 #[.agg #[.slice L.p0 d.ws.length L.c0, .slice L.p1 d.ms.length L.c1, .slice L.p2 d.ls.length L.c2, .slice L.p3 d.ns.length L.c3, .slice L.p4 d.ss.length L.c4], .int .i64 id] w fun e w' => e = .returned (.int .i64 (rank24 d.ms id)) ∧ Ext (fun _ => False) w w' := by
  have hX : Ext (fun _ => False) w (w.alloc (.cells (dataCells L d) 26)) := (Ext.refl _ _).alloc _
  have HX := Lib.hid hX
  have R := Lib.hid (h.on hX)
  have b1 : (w.alloc (.cells (dataCells L d) 26)).cell? ⟨w.heap.size, 1, none⟩ = some (.slice L.p1 d.ms.length L.c1) := blk_cell (heap_alloc_new w (.cells (dataCells L d) 26)) 1
  clear h hX
  go_enter Try.func43, Try.ntmps43
  go_wp2_with fail
  change Code.wp _ _ _ _ (w.alloc (.cells (dataCells L d) 26))
  obtain ⟨W, hW⟩ : ∃ W, w.alloc (.cells (dataCells L d) 26) = W := ⟨_, rfl⟩
  have b1 : W.cell? ⟨w.heap.size, 1, none⟩ = some (.slice L.p1 d.ms.length L.c1) := by rw [← hW]; exact b1
  rw [hW] at HX R ⊢
  clear hW
  go_loop [5] (fun i => ∃ n : Nat, i = .int .i64 n ∧ n ≤ d.ms.length ∧ ∀ y ∈ d.ms.take n, y.i ≠ id) (fun i => d.ms.length - (intOf i).toNat)
  case atStart => exact ⟨0, rfl, Nat.zero_le _, by simp⟩
  case round =>
    obtain ⟨n, rfl, hn, hno⟩ := hrel
    have NO := Lib.hid hno
    clear hno
    by_cases hlt : n < d.ms.length
    · have i1 : (n : Int) < (d.ms.length : Int) := by omega
      obtain ⟨y, hy⟩ : ∃ y, d.ms[n]? = some y := ⟨_, List.getElem?_eq_getElem hlt⟩
      obtain ⟨mb, mo, hp, hmb, c0, c1, c2⟩ := R.out.r1.cellM hy
      rw [hp] at b1
      have HY := Lib.hid hy
      clear hy hp hmb
      by_cases he : y.i = id
      · have d1 : (y.i == id) = true := beq_iff_eq.2 he
        have E := Lib.hid (show rank24 d.ms id = (n : Int) from by
          unfold rank24
          rw [rankOf_first hlt (by have := HY.out; rw [List.getElem?_eq_getElem hlt] at this; cases this; exact he) NO.out])
        clear he
        go_wp2_with fail
        go_ret
        exact ⟨by rw [E.out]; rfl, HX.out⟩
      · have d1 : (y.i == id) = false := beq_eq_false_iff_ne.2 he
        have N2 := Lib.hid (show ∀ z ∈ d.ms.take (n + 1), z.i ≠ id from fun z hz => by
          rw [List.take_add_one, HY.out] at hz
          rcases List.mem_append.1 hz with h | h
          · exact NO.out z h
          · simp at h; rw [h]; exact he)
        clear he
        go_wp2_with fail
        go_round
        case rel => exact ⟨n + 1, by go_num, by omega, N2.out⟩
        case measure => simp [intOf]; omega
    · have i1 : ¬ ((n : Int) < (d.ms.length : Int)) := by omega
      have E := Lib.hid (show rank24 d.ms id = -1 from by
        unfold rank24
        rw [rankOf_no (by have := NO.out; rwa [List.take_of_length_le (by omega)] at this)])
      go_wp2_with fail
      go_ret
      exact ⟨by rw [E.out]; rfl, HX.out⟩
theorem wordOf_ok {ws : List ByteArray} {id : Int} (h0 : 0 ≤ id) (h1 : id < 256 + (ws.length : Int)) : (wordOf ws id).2 = true := by
  unfold wordOf
  rw [if_neg (by omega), if_neg (by omega)]
  split <;> rfl
theorem wordOf_bad {ws : List ByteArray} {id : Int} (h : id < 0 ∨ 256 + (ws.length : Int) ≤ id) : (wordOf ws id).2 = false := by
  unfold wordOf
  by_cases h0 : id < 0
  · rw [if_pos h0]
  · rw [if_neg h0, if_pos (by omega)]

set_option maxRecDepth 100000 in
set_option maxHeartbeats 4000000 in
theorem depth24_go (d : Dat) (hd : RightD d) : ∀ (m : Nat) (id : Int) (w : World) (L : Pl), DR w L d → madeB (d.ms.take m) id = true →
    Calls Try.prog 15 #[.agg #[.slice L.p0 d.ws.length L.c0, .slice L.p1 d.ms.length L.c1, .slice L.p2 d.ls.length L.c2, .slice L.p3 d.ns.length L.c3, .slice L.p4 d.ss.length L.c4], .int .i64 id] w fun e w' => e = .returned (.int .i64 (depthOf d id)) ∧ Ext (fun _ => False) w w' := by
  intro m
  induction m using Nat.strongRecOn with
  | _ m ih =>
    intro id w L h hmade
    have hf := hd.few
    have hl := hd.len
    obtain ⟨hid0, hid1⟩ := hd.part_range hmade
    have hb := heap_alloc_new w (.cells (dataCells L d) 26)
    have X0 := Lib.hid ((Ext.refl (fun _ => False) w).alloc (.cells (dataCells L d) 26))
    have R := Lib.hid h
    have D := Lib.hid hd
    have IH := Lib.hid ih
    have HB := Lib.hid hb
    have PC := Lib.hid (part_cases hmade)
    have W1 := Lib.hid (ref5word_any _ L d id (h.on X0.out) (wf_in ⟨by omega, by omega⟩) (by omega))
    have WO := Lib.hid (wordOf_ok (ws := d.ws) hid0 (by rw [hl]; exact hid1))
    obtain ⟨⟨wd, ok⟩, hwo⟩ : ∃ t, wordOf d.ws id = t := ⟨_, rfl⟩
    rw [hwo] at W1 WO
    obtain rfl : ok = true := WO.out
    have HL := Lib.hid hl
    clear h hd ih hb hmade hwo hl
    go_enter Try.func15, Try.ntmps15
    go_wp2_with fail
    refine W1.out.mono ?_
    rintro e V ⟨rfl, hx⟩
    have X1 := Lib.hid (X0.out.trans hx (fun _ _ h => h))
    have B1 := Lib.hid (hx.obj HB.out (fun h => h))
    clear hx W1
    have b0 := blk_cell B1.out 0
    have b1 := blk_cell B1.out 1
    have b2 := blk_cell B1.out 2
    have b3 := blk_cell B1.out 3
    have b4 := blk_cell B1.out 4
    simp [dataCells] at b0 b1 b2 b3 b4
    have C1 := Lib.hid (rank24_any V L d id (R.out.on X1.out) (by omega) (by have := HL.out; omega))
    go_wp2_with fail
    refine C1.out.mono ?_
    rintro e V1 ⟨rfl, hx⟩
    have X2 := Lib.hid (X1.out.trans hx (fun _ _ h => h))
    have B2 := Lib.hid (hx.obj B1.out (fun h => h))
    clear hx C1 b0 b1 b2 b3 b4
    rcases PC.out with hby | ⟨j, x, hj, hx, rfl⟩
    · rw [rank24_low D.out (.inl hby.2)]
      have E := Lib.hid (depthOf_byte D.out hby.2)
      go_wp2_with fail
      go_ret
      exact ⟨by rw [E.out]; rfl, X2.out⟩
    · rw [rank24_at D.out hx]
      have E := Lib.hid (depthOf_at D.out hx)
      have bl := depthOf_bd d x.l
      have br := depthOf_bd d x.r
      have hjl := (List.getElem?_eq_some_iff.1 hx).1
      have j1 : (j : Int) < (d.ms.length : Int) := by omega
      obtain ⟨mb, mo, hp, hmb, c0, c1, c2⟩ := (R.out.on X2.out).r1.cellM hx
      have HP := Lib.hid hp
      have CE := Lib.hid (show ∀ w', Ext (fun _ => False) V1 w' → (w'.cell? ⟨w.heap.size, 0, none⟩ = some (.slice L.p0 d.ws.length L.c0) ∧ w'.cell? ⟨w.heap.size, 1, none⟩ = some (.slice (some ⟨mb, mo, none⟩) d.ms.length L.c1) ∧ w'.cell? ⟨w.heap.size, 2, none⟩ = some (.slice L.p2 d.ls.length L.c2) ∧ w'.cell? ⟨w.heap.size, 3, none⟩ = some (.slice L.p3 d.ns.length L.c3) ∧ w'.cell? ⟨w.heap.size, 4, none⟩ = some (.slice L.p4 d.ss.length L.c4) ∧ w'.cell? ⟨mb, mo + j * 3, none⟩ = some (.int .i64 x.l) ∧ w'.cell? ⟨mb, mo + j * 3 + 1, none⟩ = some (.int .i64 x.r)) ∧ Ext (fun _ => False) V1 w' from fun w' e => by
        have b := e.obj B2.out (fun h => h)
        have k1 := blk_cell b 1
        simp [dataCells] at k1
        rw [hp] at k1
        exact ⟨⟨blk_cell b 0, k1, blk_cell b 2, blk_cell b 3, blk_cell b 4, (e.cell (p := ⟨mb, _, none⟩) hmb (fun h => h)).trans c0, (e.cell (p := ⟨mb, _, none⟩) hmb (fun h => h)).trans c1⟩, e⟩)
      obtain ⟨dl, hdl⟩ : ∃ y, depthOf d x.l = y := ⟨_, rfl⟩
      obtain ⟨dr, hdr⟩ : ∃ y, depthOf d x.r = y := ⟨_, rfl⟩
      have CL := Lib.hid (show ∀ w', Ext (fun _ => False) V1 w' → Calls Try.prog 15 #[.agg #[.slice L.p0 d.ws.length L.c0, .slice (some ⟨mb, mo, none⟩) d.ms.length L.c1, .slice L.p2 d.ls.length L.c2, .slice L.p3 d.ns.length L.c3, .slice L.p4 d.ss.length L.c4], .int .i64 x.l] w' fun e w'' => e = .returned (.int .i64 dl) ∧ Ext (fun _ => False) V1 w'' from fun w' e => by
        have := IH.out j hj x.l w' L (R.out.on (X2.out.trans e (fun _ _ h => h))) (D.out.pl j x hx)
        rw [hp, hdl] at this
        exact this.mono fun e' w'' ⟨h1, h2⟩ => ⟨h1, e.trans h2 (fun _ _ h => h)⟩)
      have CR := Lib.hid (show ∀ w', Ext (fun _ => False) V1 w' → Calls Try.prog 15 #[.agg #[.slice L.p0 d.ws.length L.c0, .slice (some ⟨mb, mo, none⟩) d.ms.length L.c1, .slice L.p2 d.ls.length L.c2, .slice L.p3 d.ns.length L.c3, .slice L.p4 d.ss.length L.c4], .int .i64 x.r] w' fun e w'' => e = .returned (.int .i64 dr) ∧ Ext (fun _ => False) V1 w'' from fun w' e => by
        have := IH.out j hj x.r w' L (R.out.on (X2.out.trans e (fun _ _ h => h))) (D.out.pr j x hx)
        rw [hp, hdr] at this
        exact this.mono fun e' w'' ⟨h1, h2⟩ => ⟨h1, e.trans h2 (fun _ _ h => h)⟩)
      have D0 := Lib.hid (show Ext (fun _ => False) V1 V1.drew from Ext.drew (Ext.refl _ _))
      rw [hdl] at E bl
      rw [hdr] at E br
      obtain ⟨dl0, dl1⟩ := bl
      obtain ⟨dr0, dr1⟩ := br
      clear hp hmb c0 c1 c2 hdl hdr hx
      go_wp2_with fail
      go_region_held3 (fun w' => (w'.cell? ⟨w.heap.size, 0, none⟩ = some (.slice L.p0 d.ws.length L.c0) ∧ w'.cell? ⟨w.heap.size, 1, none⟩ = some (.slice (some ⟨mb, mo, none⟩) d.ms.length L.c1) ∧ w'.cell? ⟨w.heap.size, 2, none⟩ = some (.slice L.p2 d.ls.length L.c2) ∧ w'.cell? ⟨w.heap.size, 3, none⟩ = some (.slice L.p3 d.ns.length L.c3) ∧ w'.cell? ⟨w.heap.size, 4, none⟩ = some (.slice L.p4 d.ss.length L.c4) ∧ w'.cell? ⟨mb, mo + j * 3, none⟩ = some (.int .i64 x.l) ∧ w'.cell? ⟨mb, mo + j * 3 + 1, none⟩ = some (.int .i64 x.r)) ∧ Ext (fun _ => False) V1 w')
        (first | exact CE.out _ D0.out | exact CE.out _ E2.out)
        (first
          | (go_at_call 15; (with_reducible refine (CL.out _ ?_).mono ?_); (exact D0.out); rintro e V2 ⟨rfl, hx9⟩; have E2 := Lib.hid hx9; clear hx9))
      have D2 := Lib.hid (show Ext (fun _ => False) V1 V2.drew from Ext.drew E2.out)
      go_wp2_with fail
      go_region_held3 (fun w' => (w'.cell? ⟨w.heap.size, 0, none⟩ = some (.slice L.p0 d.ws.length L.c0) ∧ w'.cell? ⟨w.heap.size, 1, none⟩ = some (.slice (some ⟨mb, mo, none⟩) d.ms.length L.c1) ∧ w'.cell? ⟨w.heap.size, 2, none⟩ = some (.slice L.p2 d.ls.length L.c2) ∧ w'.cell? ⟨w.heap.size, 3, none⟩ = some (.slice L.p3 d.ns.length L.c3) ∧ w'.cell? ⟨w.heap.size, 4, none⟩ = some (.slice L.p4 d.ss.length L.c4) ∧ w'.cell? ⟨mb, mo + j * 3, none⟩ = some (.int .i64 x.l) ∧ w'.cell? ⟨mb, mo + j * 3 + 1, none⟩ = some (.int .i64 x.r)) ∧ Ext (fun _ => False) V1 w')
        (first | exact CE.out _ D2.out | exact CE.out _ E3.out)
        (first
          | (go_at_call 15; (with_reducible refine (CR.out _ ?_).mono ?_); (exact D2.out); rintro e V3 ⟨rfl, hx9⟩; have E3 := Lib.hid hx9; clear hx9))
      have X3 := Lib.hid (X2.out.trans E3.out (fun _ _ h => h))
      by_cases hlt : dl < dr
      · have E9 := Lib.hid (show depthOf d x.i = 1 + dr from by rw [E.out]; unfold mx; rw [if_pos hlt])
        have g1 : dr > dl := hlt
        go_wp2_with fail
        go_ret
        exact ⟨ret_int (by rw [E9.out]; omega), X3.out⟩
      · have E9 := Lib.hid (show depthOf d x.i = 1 + dl from by rw [E.out]; unfold mx; rw [if_neg hlt])
        have g1 : ¬ dr > dl := hlt
        go_wp2_with fail
        go_ret
        exact ⟨ret_int (by rw [E9.out]; omega), X3.out⟩
set_option maxHeartbeats 1000000 in
theorem depth24_any (w : World) (L : Pl) (d : Dat) (id : Int) (h : DR w L d) (hd : RightD d) (hid : inI id) :
    Calls Try.prog 15 #[.agg #[.slice L.p0 d.ws.length L.c0, .slice L.p1 d.ms.length L.c1, .slice L.p2 d.ls.length L.c2, .slice L.p3 d.ns.length L.c3, .slice L.p4 d.ss.length L.c4], .int .i64 id] w fun e w' => e = .returned (.int .i64 (depthT d id)) ∧ Ext (fun _ => False) w w' := by
  by_cases hv : id < 0 ∨ 256 + (d.ms.length : Int) ≤ id
  · have E := Lib.hid (show depthT d id = -1 from by
      unfold depthT
      by_cases h0 : id < 0
      · rw [if_pos h0]
      · rw [if_neg h0, if_pos (by omega)])
    have X0 := Lib.hid ((Ext.refl (fun _ => False) w).alloc (.cells (dataCells L d) 26))
    have W1 := Lib.hid (ref5word_any _ L d id (h.on X0.out) (wf_in hid) (by have := hd.len; have := hd.few; omega))
    have WO := Lib.hid (wordOf_bad (ws := d.ws) (id := id) (by rw [hd.len]; exact hv))
    obtain ⟨⟨wd, ok⟩, hwo⟩ : ∃ t, wordOf d.ws id = t := ⟨_, rfl⟩
    rw [hwo] at W1 WO
    obtain rfl : ok = false := WO.out
    clear h hd hwo hv
    go_enter Try.func15, Try.ntmps15
    go_wp2_with fail
    refine W1.out.mono ?_
    rintro e V ⟨rfl, hx⟩
    have X1 := Lib.hid (X0.out.trans hx (fun _ _ h => h))
    clear hx W1
    go_wp2_with fail
    go_ret
    exact ⟨by rw [E.out]; rfl, X1.out⟩
  · have e : depthT d id = depthOf d id := by
      unfold depthT
      rw [if_neg (by omega), if_neg (by omega)]
    rw [e]
    refine depth24_go d hd d.ms.length id w L h ?_
    rw [List.take_length]
    unfold madeB
    by_cases hb : id < 256
    · rw [decide_eq_true (show 0 ≤ id by omega), decide_eq_true hb]; rfl
    · obtain ⟨j, y, _, hy, e, _⟩ := hd.rank_ex (id := id) (by omega) (by omega)
      rw [isId_iff.2 ⟨j, y, hy, e⟩, Bool.and_true, Bool.or_eq_true]
      exact .inr (by simp; omega)
end Go.Proofs.Ytbepmbihonnkaaa.Sl
