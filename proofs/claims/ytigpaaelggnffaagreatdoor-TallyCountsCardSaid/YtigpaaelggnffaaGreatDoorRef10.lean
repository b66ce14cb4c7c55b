/- The document's chapter 10: tesseraref5.Merge, tesseraref10.Next, Bytes. -/
import Derived.Test.YtigpaaelggnffaaGreatDoorEncode
import Derived.Test.YtigpaaelggnffaaGreatDoorRef5
import Derived.Deep.RegionHeld3
namespace Go.Proofs.YtigpaaelggnffaaGreatDoor.Bpe
open Go.RowKit Go.Proofs.YtigpaaelggnffaaGreatDoor.Lib Go.Proofs.YtigpaaelggnffaaGreatDoor.Sl Go.Proofs.YtigpaaelggnffaaGreatDoor.Chain Go.Proofs.YtigpaaelggnffaaGreatDoor.ElBpe Go.Proofs.YtigpaaelggnffaaGreatDoor.HeapPure
set_option linter.unusedVariables false
set_option linter.unusedSimpArgs false

set_option maxRecDepth 100000 in
set_option maxHeartbeats 1000000 in
theorem ref5merge_any (w : World) (L : Pl) (d : Dat) (l r : Int) (h : DR w L d) (hm : d.ms.length ≤ 1099511627776) :
    Calls Tryz.prog 147 #[.agg #[.slice L.p0 d.ws.length L.c0, .slice L.p1 d.ms.length L.c1, .slice L.p2 d.ls.length L.c2, .slice L.p3 d.ns.length L.c3, .slice L.p4 d.ss.length L.c4], .int .i64 l, .int .i64 r] w fun e w' => e = .returned (mergeV d.ms l r) ∧ Ext (fun _ => False) w w' := by
  obtain ⟨W, hW, hX, b0, b1, hs⟩ := dbox w L d
  have X := Lib.hid hX
  have R := Lib.hid (h.on hX)
  have HW := Lib.hid hW
  clear h hX hW hs b0
  go_enter Tryz.func147, Tryz.ntmps147
  go_upto_region 1 with (fail)
  rw [HW.out]
  go_wp2_with fail
  go_loopw [9] (fun i wr => ∃ k : Nat, i = .int .i64 k ∧ k ≤ d.ms.length ∧ W = wr ∧ ∀ (j : Nat) (y : Mrg), j < k → d.ms[j]? = some y → ¬ (y.l = l ∧ y.r = r)) (fun i _ => d.ms.length - (intOf i).toNat)
  case atStart => exact ⟨0, rfl, Nat.zero_le _, rfl, fun j y hj => by omega⟩
  case round =>
    obtain ⟨k, rfl, hk, rfl, hno⟩ := hrel
    have NO := Lib.hid hno
    clear hno
    by_cases hlt : k < d.ms.length
    · have i1 : (k : Int) < (d.ms.length : Int) := by omega
      obtain ⟨y, hy⟩ : ∃ y, d.ms[k]? = some y := ⟨_, List.getElem?_eq_getElem (by omega)⟩
      obtain ⟨mb, mo, hp, hmb, c0, c1, c2⟩ := R.out.r1.cellM hy
      rw [hp] at b1
      have HY := Lib.hid hy
      have N2 := Lib.hid (show ¬ (y.l = l ∧ y.r = r) → ∀ (j : Nat) (z : Mrg), j < k + 1 → d.ms[j]? = some z → ¬ (z.l = l ∧ z.r = r) from fun hn j z hj hz => by
        rcases Nat.lt_or_ge j k with hh | hh
        · exact NO.out j z hh hz
        · obtain rfl : j = k := by omega
          rw [HY.out] at hz
          cases hz
          exact hn)
      clear hy hp hmb
      by_cases h1 : y.l = l
      · have d1 : (y.l == l) = true := beq_iff_eq.2 h1
        by_cases h2 : y.r = r
        · have d2 : (y.r == r) = true := beq_iff_eq.2 h2
          have E := Lib.hid (show mergeV d.ms l r = .tuple #[.int .i64 (k : Int), .int .i64 y.i, .bool true] from by
            unfold mergeV
            rw [← h1, ← h2, mergeOf_at HY.out (fun j z hj hz => by rw [h1, h2]; exact NO.out j z hj hz)])
          clear h1 h2
          go_wp2_with fail
          go_quiet (fail)
          go_wp2_with fail
          exact bodyPost_ret (v := .tuple #[.int .i64 (k : Int), .int .i64 y.i, .bool true]) (by simp [results, Tryz.results147, go_sem]) rfl ⟨by rw [E.out], X.out.drewN _⟩
        · have d2 : (y.r == r) = false := beq_eq_false_iff_ne.2 h2
          have N3 := Lib.hid (N2.out (fun hh => h2 hh.2))
          clear h1 h2
          go_wp2_with fail
          go_roundw
          case rel => exact ⟨k + 1, by go_num, by omega, trivial, N3.out⟩
          case measure => simp [intOf]; omega
      · have d1 : (y.l == l) = false := beq_eq_false_iff_ne.2 h1
        have N3 := Lib.hid (N2.out (fun hh => h1 hh.1))
        clear h1
        go_wp2_with fail
        go_roundw
        case rel => exact ⟨k + 1, by go_num, by omega, trivial, N3.out⟩
        case measure => simp [intOf]; omega
    · have i1 : ¬ ((k : Int) < (d.ms.length : Int)) := by omega
      have E := Lib.hid (show mergeV d.ms l r = .tuple #[.int .i64 0, .int .i64 0, .bool false] from by
        unfold mergeV
        cases e : mergeOf d.ms l r with
        | none => rfl
        | some t =>
          obtain ⟨j, id⟩ := t
          obtain ⟨y, hy, h1, h2, _⟩ := mergeOf_some e
          exact absurd ⟨h1, h2⟩ (NO.out j y (by have := (List.getElem?_eq_some_iff.1 hy).1; omega) hy))
      go_wp2_with fail
      exact bodyPost_ret (v := .tuple #[.int .i64 0, .int .i64 0, .bool false]) (by simp [results, Tryz.results147, go_sem]) rfl ⟨by rw [E.out], X.out⟩

/-! ### Next -/
/-- How the best step so far is told. -/
def bestV (t : Option (Nat × Nat × Int)) : Int × Int × Int := match t with
  | none => (-1, 0, 0)
  | some (r, i, id) => (r, i, id)
structure NxSt (w wr : World) (L : Pl) (d : Dat) (l : List Int) (k : Nat) (br ba bm : Int) : Prop where
  kl : k ≤ l.length
  best : bestV (nextGo d.ms l k) = (br, ba, bm)
  box : wr.heap[w.heap.size]? = some (.cells (dataCells L d) 26 (0, 0))
  res : wr.heap[w.heap.size + 1]? = some (.cells #[.int .i64 0, .int .i64 0] 211 (0, 0))
  bst : wr.heap[w.heap.size + 2]? = some (.cells #[.int .i64 br, .int .i64 ba] 211 (0, 0))
  ext : Ext (fun _ => False) w wr
theorem NxSt.on {w wr w' : World} {L : Pl} {d : Dat} {l : List Int} {k : Nat} {br ba bm : Int} (h : NxSt w wr L d l k br ba bm) (hx : Ext (fun _ => False) wr w') : NxSt w w' L d l k br ba bm :=
  ⟨h.kl, h.best, hx.obj h.box (fun h => h), hx.obj h.res (fun h => h), hx.obj h.bst (fun h => h), h.ext.trans hx (fun _ _ h => h)⟩
theorem NxSt.facts {w wr : World} {L : Pl} {d : Dat} {l : List Int} {k : Nat} {br ba bm : Int} (h : NxSt w wr L d l k br ba bm) :
    wr.cell? ⟨w.heap.size + 2, 0, none⟩ = some (.int .i64 br) ∧ wr.cell? ⟨w.heap.size + 2, 1, none⟩ = some (.int .i64 ba) ∧ wr.frozen? ⟨w.heap.size + 2, 0, none⟩ = false ∧ wr.frozen? ⟨w.heap.size + 2, 1, none⟩ = false ∧
    wr.cell? ⟨w.heap.size + 1, 0, none⟩ = some (.int .i64 0) ∧ wr.cell? ⟨w.heap.size + 1, 1, none⟩ = some (.int .i64 0) ∧ wr.frozen? ⟨w.heap.size + 1, 0, none⟩ = false ∧ wr.frozen? ⟨w.heap.size + 1, 1, none⟩ = false :=
  ⟨blk_cell h.bst 0, blk_cell h.bst 1, blk_frozen h.bst 0, blk_frozen h.bst 1, blk_cell h.res 0, blk_cell h.res 1, blk_frozen h.res 0, blk_frozen h.res 1⟩
theorem better_keep {ms : List Mrg} {l : List Int} {k : Nat} {a b : Int} (ha : l[k]? = some a) (hb : l[k + 1]? = some b) (hn : mergeOf ms a b = none) : nextGo ms l (k + 1) = nextGo ms l k := by
  rw [nextGo, better, ha, hb]
  simp only [hn]
theorem better_at {ms : List Mrg} {l : List Int} {k r : Nat} {a b id : Int} (ha : l[k]? = some a) (hb : l[k + 1]? = some b) (hn : mergeOf ms a b = some (r, id)) {br ba bm : Int} (h : bestV (nextGo ms l k) = (br, ba, bm)) :
    ((br < 0 ∨ (r : Int) < br) → bestV (nextGo ms l (k + 1)) = ((r : Int), (k : Int), id)) ∧ (¬ (br < 0 ∨ (r : Int) < br) → bestV (nextGo ms l (k + 1)) = (br, ba, bm)) := by
  rw [nextGo, better, ha, hb]
  simp only [hn]
  cases e : nextGo ms l k with
  | none =>
    rw [e] at h
    simp [bestV] at h
    obtain ⟨rfl, rfl, rfl⟩ := h
    exact ⟨fun _ => rfl, fun hh => absurd (.inl (by omega)) hh⟩
  | some t =>
    obtain ⟨r0, i0, id0⟩ := t
    rw [e] at h
    simp [bestV] at h
    obtain ⟨rfl, rfl, rfl⟩ := h
    simp only
    by_cases hh : r < r0
    · rw [if_pos hh]
      exact ⟨fun _ => rfl, fun h' => absurd (.inr (by omega)) h'⟩
    · rw [if_neg hh]
      exact ⟨fun h' => by omega, fun _ => rfl⟩
theorem NxSt.set {w wr : World} {L : Pl} {d : Dat} {l : List Int} {k : Nat} {br ba bm : Int} (h : NxSt w wr L d l k br ba bm) {br' ba' bm' : Int} (hb : bestV (nextGo d.ms l (k + 1)) = (br', ba', bm')) (hk : k + 1 ≤ l.length) :
    NxSt w ((wr.setCell ⟨w.heap.size + 2, 0, none⟩ (.int .i64 br')).setCell ⟨w.heap.size + 2, 1, none⟩ (.int .i64 ba')) L d l (k + 1) br' ba' bm' := by
  have hx : Ext (fun k => k = w.heap.size + 2) wr ((wr.setCell ⟨w.heap.size + 2, 0, none⟩ (.int .i64 br')).setCell ⟨w.heap.size + 2, 1, none⟩ (.int .i64 ba')) :=
    ((Ext.refl (fun k => k = w.heap.size + 2) _).setCell (p := ⟨w.heap.size + 2, 0, none⟩) (fun _ => rfl) _).setCell (p := ⟨w.heap.size + 2, 1, none⟩) (fun _ => rfl) _
  refine ⟨hk, hb, hx.obj h.box (by omega), hx.obj h.res (by omega), ?_, h.ext.trans hx (fun i hi e => by omega)⟩
  have h1 := blk_set h.bst 0 (.int .i64 br')
  have h2 := blk_set h1 1 (.int .i64 ba')
  exact h2
def NextEnd (w : World) (d : Dat) (l : List Int) (e : Ending) (w' : World) : Prop :=
  e = .returned (.tuple #[.agg #[.int .i64 (bestV (nextT d.ms l)).1, .int .i64 (bestV (nextT d.ms l)).2.1], .int .i64 (bestV (nextT d.ms l)).2.2, .bool (decide (0 ≤ (bestV (nextT d.ms l)).1))]) ∧ Ext (fun _ => False) w w'
set_option maxRecDepth 100000 in
set_option maxHeartbeats 4000000 in
theorem ref10next_any (w : World) (L : Pl) (d : Dat) (p : Option Addr) (c : Nat) (l : List Int) (h : DR w L d) (hm : d.ms.length ≤ 1099511627776) (hl : Rd eI w p l) (hn : l.length ≤ 1099511627776) :
    Calls Tryz.prog 122 #[.agg #[.slice L.p0 d.ws.length L.c0, .slice L.p1 d.ms.length L.c1, .slice L.p2 d.ls.length L.c2, .slice L.p3 d.ns.length L.c3, .slice L.p4 d.ss.length L.c4], .slice p l.length c] w fun e w' => NextEnd w d l e w' := by
  have R := Lib.hid h
  have I := Lib.hid hl
  clear h hl
  have S0 := Lib.hid (show NxSt w (((w.alloc (.cells #[.slice L.p0 d.ws.length L.c0, .slice L.p1 d.ms.length L.c1, .slice L.p2 d.ls.length L.c2, .slice L.p3 d.ns.length L.c3, .slice L.p4 d.ss.length L.c4] 26)).alloc (.cells #[.int .i64 0, .int .i64 0] 211)).alloc (.cells #[.int .i64 (-1), .int .i64 0] 211)) L d l 0 (-1) 0 0 from
    ⟨Nat.zero_le _, rfl, blk_alloc (blk_alloc (alloc_at _ _ _ rfl) _) _, blk_alloc (alloc_at _ _ _ (by simp)) _, alloc_at _ _ _ (by simp), (((Ext.refl _ _).alloc _).alloc _).alloc _⟩)
  go_enter Tryz.func122, Tryz.ntmps122
  go_wp2_with fail
  go_loopw [8, 9] (fun m i wr => ∃ (k : Nat) (br ba bm : Int), i = .int .i64 k ∧ m = .int .i64 bm ∧ NxSt w wr L d l k br ba bm) (fun _ i _ => l.length - (intOf i).toNat)
  case atStart => exact ⟨0, -1, 0, 0, rfl, rfl, S0.out⟩
  case round =>
    obtain ⟨k, br, ba, bm, rfl, rfl, hst⟩ := hrel
    have ST := Lib.hid hst
    obtain ⟨e0, e1, f0, f1, g0, g1, g2, g3⟩ := hst.facts
    clear hst S0
    have hk := ST.out.kl
    by_cases hlt : k + 1 < l.length
    · have i1 : (k : Int) + 1 < (l.length : Int) := by omega
      obtain ⟨x, hx⟩ : ∃ x, l[k]? = some x := ⟨_, List.getElem?_eq_getElem (by omega)⟩
      obtain ⟨y, hy⟩ : ∃ y, l[k + 1]? = some y := ⟨_, List.getElem?_eq_getElem (by omega)⟩
      obtain ⟨ib, io, hp, hib, cx⟩ := (I.out.on ST.out.ext).cellI hx
      obtain ⟨ib2, io2, hp2, hib2, cy⟩ := (I.out.on ST.out.ext).cellI hy
      rw [hp] at hp2
      injection hp2 with hp2
      injection hp2 with hp3 hp4
      subst hp3 hp4
      have hw : IntKind.i64.wrap ((k : Int) + 1) = (k : Int) + 1 := IntWalk.i64_in _ (by omega)
      have j1 : (k : Int) < (l.length : Int) := by omega
      have j0 : (0 : Int) ≤ (k : Int) := by omega
      have j2 : (0 : Int) ≤ (k : Int) + 1 := by omega
      have hw2 : wrap64 ((k : Int) + 1) = (k : Int) + 1 := IntWalk.wrap64_in _ (by omega)
      have XN := Lib.hid hx
      have YN := Lib.hid hy
      have ME := Lib.hid (ref5merge_any wr.drew L d x y ((R.out.on ST.out.ext).on ((Ext.refl _ _).drew)) hm)
      have CE := Lib.hid (show ∀ w', Ext (fun _ => False) wr w' → (w'.cell? ⟨w.heap.size, 0, none⟩ = some (.slice L.p0 d.ws.length L.c0) ∧ w'.cell? ⟨w.heap.size, 1, none⟩ = some (.slice L.p1 d.ms.length L.c1) ∧ w'.cell? ⟨w.heap.size, 2, none⟩ = some (.slice L.p2 d.ls.length L.c2) ∧ w'.cell? ⟨w.heap.size, 3, none⟩ = some (.slice L.p3 d.ns.length L.c3) ∧ w'.cell? ⟨w.heap.size, 4, none⟩ = some (.slice L.p4 d.ss.length L.c4) ∧ w'.cell? ⟨ib, io + k, none⟩ = some (.int .i64 x) ∧ w'.cell? ⟨ib, io + (k + 1), none⟩ = some (.int .i64 y)) ∧ Ext (fun _ => False) wr w' from fun w' e =>
        have b := (ST.out.on e).box
        ⟨⟨blk_cell b 0, blk_cell b 1, blk_cell b 2, blk_cell b 3, blk_cell b 4, (e.cell (p := ⟨ib, io + k, none⟩) hib (fun h => h)).trans cx, (e.cell (p := ⟨ib, io + (k + 1), none⟩) hib (fun h => h)).trans cy⟩, e⟩)
      have D0 := Lib.hid (show Ext (fun _ => False) wr wr.drew from Ext.drew (Ext.refl _ _))
      have MO : ∀ t, mergeOf d.ms x y = t → True := fun _ _ => trivial
      clear hx hy cx cy
      rw [hp]
      cases hmo : mergeOf d.ms x y with
      | none =>
        have KP := Lib.hid (show bestV (nextGo d.ms l (k + 1)) = (br, ba, bm) from by rw [better_keep XN.out YN.out hmo]; exact ST.out.best)
        have MV := Lib.hid (show mergeV d.ms x y = .tuple #[.int .i64 0, .int .i64 0, .bool false] from by unfold mergeV; rw [hmo])
        clear hmo MO
        clear e0 e1 f0 f1 g0 g1 g2 g3
        go_wp2_with fail
        go_region_held3 (fun w' => (w'.cell? ⟨w.heap.size, 0, none⟩ = some (.slice L.p0 d.ws.length L.c0) ∧ w'.cell? ⟨w.heap.size, 1, none⟩ = some (.slice L.p1 d.ms.length L.c1) ∧ w'.cell? ⟨w.heap.size, 2, none⟩ = some (.slice L.p2 d.ls.length L.c2) ∧ w'.cell? ⟨w.heap.size, 3, none⟩ = some (.slice L.p3 d.ns.length L.c3) ∧ w'.cell? ⟨w.heap.size, 4, none⟩ = some (.slice L.p4 d.ss.length L.c4) ∧ w'.cell? ⟨ib, io + k, none⟩ = some (.int .i64 x) ∧ w'.cell? ⟨ib, io + (k + 1), none⟩ = some (.int .i64 y)) ∧ Ext (fun _ => False) wr w')
          (first | exact CE.out _ (by assumption) | exact CE.out _ D0.out)
          ((go_at_call 147; (with_reducible refine ME.out.mono ?_); rw [MV.out]; rintro e w1 ⟨rfl, x1⟩; have E1 := D0.out.trans x1 (fun _ _ h => h)))
        have S1 := Lib.hid (ST.out.on E1)
        obtain ⟨e0, e1, f0, f1, g0, g1, g2, g3⟩ := S1.out.facts
        go_wp2_with fail
        go_roundw
        case rel => exact ⟨k + 1, br, ba, bm, by go_num, rfl, ⟨by omega, KP.out, S1.out.box, S1.out.res, S1.out.bst, S1.out.ext⟩⟩
        case measure => simp [intOf]; omega
      | some t =>
        obtain ⟨rk, id⟩ := t
        have BA := Lib.hid (better_at XN.out YN.out hmo ST.out.best)
        have MV0 := (show mergeV d.ms x y = .tuple #[.int .i64 (rk : Int), .int .i64 id, .bool true] from by unfold mergeV; rw [hmo])
        clear hmo MO
        obtain ⟨rr, hrr⟩ : ∃ rr : Int, (rk : Int) = rr := ⟨_, rfl⟩
        have BA2 := BA.out
        clear BA
        rw [hrr] at MV0 BA2
        have BA := Lib.hid BA2
        have MV := Lib.hid MV0
        clear BA2 MV0 hrr
        clear e0 e1 f0 f1 g0 g1 g2 g3
        go_wp2_with fail
        go_region_held3 (fun w' => (w'.cell? ⟨w.heap.size, 0, none⟩ = some (.slice L.p0 d.ws.length L.c0) ∧ w'.cell? ⟨w.heap.size, 1, none⟩ = some (.slice L.p1 d.ms.length L.c1) ∧ w'.cell? ⟨w.heap.size, 2, none⟩ = some (.slice L.p2 d.ls.length L.c2) ∧ w'.cell? ⟨w.heap.size, 3, none⟩ = some (.slice L.p3 d.ns.length L.c3) ∧ w'.cell? ⟨w.heap.size, 4, none⟩ = some (.slice L.p4 d.ss.length L.c4) ∧ w'.cell? ⟨ib, io + k, none⟩ = some (.int .i64 x) ∧ w'.cell? ⟨ib, io + (k + 1), none⟩ = some (.int .i64 y)) ∧ Ext (fun _ => False) wr w')
          (first | exact CE.out _ (by assumption) | exact CE.out _ D0.out)
          ((go_at_call 147; (with_reducible refine ME.out.mono ?_); rw [MV.out]; rintro e w1 ⟨rfl, x1⟩; have E1 := D0.out.trans x1 (fun _ _ h => h)))
        have S1 := Lib.hid (ST.out.on E1)
        obtain ⟨e0, e1, f0, f1, g0, g1, g2, g3⟩ := S1.out.facts
        by_cases h0 : br < 0
        · have d0 : decide (br < 0) = true := decide_eq_true h0
          have S2 := Lib.hid (S1.out.set (BA.out.1 (.inl h0)) (by omega))
          clear h0
          go_wp2_with fail
          go_roundw
          case rel => exact ⟨k + 1, rr, (k : Int), id, by go_num, rfl, S2.out⟩
          case measure => simp [intOf]; omega
        · have d0 : decide (br < 0) = false := decide_eq_false h0
          by_cases h1 : rr < br
          · have d1 : decide (rr < br) = true := decide_eq_true h1
            have S2 := Lib.hid (S1.out.set (BA.out.1 (.inr h1)) (by omega))
            clear h0 h1
            go_wp2_with fail
            go_roundw
            case rel => exact ⟨k + 1, rr, (k : Int), id, by go_num, rfl, S2.out⟩
            case measure => simp [intOf]; omega
          · have d1 : decide (rr < br) = false := decide_eq_false h1
            have KP := Lib.hid (BA.out.2 (by omega))
            clear h0 h1
            go_wp2_with fail
            go_roundw
            case rel => exact ⟨k + 1, br, ba, bm, by go_num, rfl, ⟨by omega, KP.out, S1.out.box, S1.out.res, S1.out.bst, S1.out.ext⟩⟩
            case measure => simp [intOf]; omega
    · have i1 : ¬ ((k : Int) + 1 < (l.length : Int)) := by omega
      have EB := Lib.hid (show bestV (nextT d.ms l) = (br, ba, bm) from by
        unfold nextT
        by_cases hz : k = l.length - 1
        · rw [← hz]; exact ST.out.best
        · have hk := ST.out.kl
          have hl0 : l.length = k ∧ 0 < k := by omega
          have : nextGo d.ms l k = nextGo d.ms l (l.length - 1) := by
            obtain ⟨j, rfl⟩ : ∃ j, k = j + 1 := ⟨k - 1, by omega⟩
            rw [hl0.1, Nat.add_sub_cancel, nextGo, better, List.getElem?_eq_none (i := j + 1) (by omega)]
            cases l[j]? <;> rfl
          rw [← this]; exact ST.out.best)
      clear hlt
      go_wp2_with fail
      go_region
      go_wp2_with fail
      obtain ⟨W, hW⟩ : ∃ W, ((wr.setCell ⟨w.heap.size + 1, 0, none⟩ (.int .i64 br)).setCell ⟨w.heap.size + 1, 1, none⟩ (.int .i64 ba)).drew = W := ⟨_, rfl⟩
      have r0 : W.cell? ⟨w.heap.size + 1, 0, none⟩ = some (.int .i64 br) := by
        rw [← hW]
        exact blk_cell (blk_set (blk_set ST.out.res 0 (.int .i64 br)) 1 (.int .i64 ba)) 0
      have r1 : W.cell? ⟨w.heap.size + 1, 1, none⟩ = some (.int .i64 ba) := by
        rw [← hW]
        exact blk_cell (blk_set (blk_set ST.out.res 0 (.int .i64 br)) 1 (.int .i64 ba)) 1
      have XE := Lib.hid (show Ext (fun _ => False) w W from by
        rw [← hW]
        refine Ext.drew ?_
        refine ST.out.ext.trans (T := fun k => k = w.heap.size + 1) (((Ext.refl (fun k => k = w.heap.size + 1) _).setCell (p := ⟨w.heap.size + 1, 0, none⟩) (fun _ => rfl) _).setCell (p := ⟨w.heap.size + 1, 1, none⟩) (fun _ => rfl) _) (fun i hi e => by omega))
      rw [hW]
      clear hW g0 g1 e0 e1
      exact bodyPost_ret (v := .tuple #[.agg #[.int .i64 br, .int .i64 ba], .int .i64 bm, .bool (decide (0 ≤ br))]) (by simp [results, Tryz.f122, go_sem, r0, r1]) rfl ⟨by rw [EB.out], XE.out⟩
end Go.Proofs.YtigpaaelggnffaaGreatDoor.Bpe
