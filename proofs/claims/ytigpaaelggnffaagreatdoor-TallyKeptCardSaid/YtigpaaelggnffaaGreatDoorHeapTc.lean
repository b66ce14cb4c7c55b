/- heap.Heap[tessera/tally.Row]: Pop. -/
import Derived.Test.YtigpaaelggnffaaGreatDoorHeapTb
namespace Go.Proofs.YtigpaaelggnffaaGreatDoor.HeapT
open Go.RowKit Go.Proofs.YtigpaaelggnffaaGreatDoor.Lib Go.Proofs.YtigpaaelggnffaaGreatDoor.HeapPure Go.Proofs.YtigpaaelggnffaaGreatDoor.ElTal
set_option linter.unusedVariables false
set_option linter.unusedSimpArgs false

set_option maxHeartbeats 1000000 in
/-- Pop of an empty one. -/
theorem pop_none {w : World} {g : Nat} {p : Option Addr} {c : Nat} (hM : Mem w g p c []) :
    Calls Tryz.prog 52 #[.pointer (some ⟨g, 0, none⟩)] w fun e w' => e = .returned (.tuple #[.agg #[.int .i64 0, .int .i64 0], .bool false]) ∧ Ext (fun _ => False) w w' := by
  have HL := Lib.hid (least_none (hM.ext ((Ext.refl _ _).alloc (.cells #[.int .i64 0, .int .i64 0] 45)) (fun h => h) (fun _ _ h => h)))
  clear hM
  go_enter Tryz.func52, Tryz.ntmps52
  go_wp2_with fail
  refine HL.out.mono ?_
  rintro e w1 ⟨rfl, hx1⟩
  have HX := Lib.hid (((Ext.refl (fun _ => False) w).alloc _).trans hx1 (fun _ _ h => h))
  have s1 := hx1.size
  simp at s1
  replace s1 := Nat.lt_of_succ_le s1
  have b1 := hx1.obj (heap_alloc_new w (.cells #[.int .i64 0, .int .i64 0] 45)) (fun h => h)
  have q0 := blk_cell b1 0
  have f0 := blk_frozen b1 0
  simp at q0
  have q1 := blk_cell b1 1
  have f1 := blk_frozen b1 1
  simp at q1
  clear hx1 b1
  go_wp2_with fail
  exact bodyPost_ret (v := .tuple #[.agg #[.int .i64 0, .int .i64 0], .bool false]) (by simp [results, Tryz.results52, go_sem, s1, q0, q1]) rfl ⟨rfl, by with_reducible repeat (first | exact HX.out | refine Ext.drew ?_ | refine Ext.alloc ?_ _ | refine Ext.setCell ?_ (fun h => by simp at h) _)⟩

/-- The state of Pop behind the call of Least. -/
structure PopSt (W w : World) (g a c b1 : Nat) (X : El) (ys : List El) : Prop where
  mem : Mem w g (some ⟨a, 0, none⟩) c ys
  ext : Ext (fun k => k = g ∨ k = a) W w
  res : w.heap[W.heap.size]? = some (.cells #[.int .i64 0, .int .i64 0] 45 (0, 0))
  box : w.heap[b1]? = some (.cells #[.int .i64 X.f0, .int .i64 X.f1] 45 (0, 0))
  lt : W.heap.size < b1
  gl : g < W.heap.size
  al : a < W.heap.size
theorem PopSt.step {W w w' : World} {g a c b1 : Nat} {X : El} {ys : List El} (h : PopSt W w g a c b1 X ys) (hx : Ext (fun _ => False) w w') : PopSt W w' g a c b1 X ys :=
  ⟨h.mem.ext hx (fun h => h) (fun _ _ h => h), h.ext.trans hx (fun _ _ h => h.elim), hx.obj h.res (fun h => h), hx.obj h.box (fun h => h), h.lt, h.gl, h.al⟩
theorem PopSt.set {W w : World} {g a c b1 : Nat} {X : El} {ys : List El} (h : PopSt W w g a c b1 X ys) (k : Nat) (Y : El) :
    PopSt W ((w.setCell ⟨a, k * 2, none⟩ (.int .i64 Y.f0)).setCell ⟨a, k * 2 + 1, none⟩ (.int .i64 Y.f1)) g a c b1 X (ys.set k Y) := by
  have h1 := h.al
  have h2 := h.lt
  exact ⟨h.mem.set k Y, ext_set h.ext (fun _ => .inr rfl) k Y, blk_far (blk_far (h.res) (p := ⟨a, _, none⟩) (by simp; omega) _) (p := ⟨a, _, none⟩) (by simp; omega) _, blk_far (blk_far (h.box) (p := ⟨a, _, none⟩) (by simp; omega) _) (p := ⟨a, _, none⟩) (by simp; omega) _, h.lt, h.gl, h.al⟩
theorem PopSt.take {W w : World} {g a c b1 : Nat} {X : El} {ys : List El} (h : PopSt W w g a c b1 X ys) (m : Nat) (hm : m ≤ ys.length) :
    PopSt W (w.setCell ⟨g, 1, none⟩ (.slice (some ⟨a, 0, none⟩) m c)) g a c b1 X (ys.take m) := by
  have h1 := h.gl
  have h2 := h.lt
  have hl : (ys.take m).length = m := by simp; omega
  have hf : flat (ys.take m) = (flat ys).take (m * 2) := by
    have e := flat_append (ys.take m) (ys.drop m)
    rw [List.take_append_drop] at e
    rw [e, List.take_left' (by rw [flat_length, hl])]
  refine ⟨⟨?_, ?_, h.mem.pg⟩, h.ext.setCell (fun _ => .inl rfl) _, blk_far h.res (by simp; omega) _, blk_far h.box (by simp; omega) _, h.lt, h.gl, h.al⟩
  · have := blk_set h.mem.blk 1 (.slice (some ⟨a, 0, none⟩) m c)
    rw [hl]
    simpa [HB] using this
  · rw [hl, hf]
    exact arr_far (arr_take h.mem.row hm) h.mem.pg _

/-- The outer loop's state: at place k. -/
def LoopSt (W w : World) (g a c b1 m : Nat) (X : El) (xs : List El) (gk k : Nat) : Prop :=
  ∃ ys, PopSt W w g a c b1 X ys ∧ ys.length = m ∧ (k < m ∨ m = 0 ∧ k = 0) ∧ down less ys k = popRest less xs ∧ m - k ≤ gk
/-- What Pop leaves. -/
def PopEnd (W : World) (g : Nat) (p : Option Addr) (c : Nat) (xs : List El) (X : El) (e : Ending) (w' : World) : Prop :=
  e = .returned (.tuple #[.agg #[.int .i64 X.f0, .int .i64 X.f1], .bool true]) ∧ Mem w' g p c (popRest less xs) ∧ Ext (fun k => k = g ∨ blkOf p = some k) W w'
theorem pop_end {W w : World} {g a c b1 k : Nat} {X : El} {xs ys : List El} (h : PopSt W w g a c b1 X ys) (hd : down less ys k = popRest less xs) (hs : low less ys k = k) :
    PopEnd W g (some ⟨a, 0, none⟩) c xs X (.returned (.tuple #[.agg #[.int .i64 X.f0, .int .i64 X.f1], .bool true])) ((w.setCell ⟨W.heap.size, 0, none⟩ (.int .i64 X.f0)).setCell ⟨W.heap.size, 1, none⟩ (.int .i64 X.f1)) := by
  have hx : Ext (fun k => W.heap.size ≤ k) w ((w.setCell ⟨W.heap.size, 0, none⟩ (.int .i64 X.f0)).setCell ⟨W.heap.size, 1, none⟩ (.int .i64 X.f1)) := (((Ext.refl _ _).setCell (p := ⟨W.heap.size, 0, none⟩) (fun _ => Nat.le_refl W.heap.size) _).setCell (p := ⟨W.heap.size, 1, none⟩) (fun _ => Nat.le_refl W.heap.size) _)
  refine ⟨rfl, ?_, (h.ext.mono ?_).trans hx (fun i hi h2 => by omega)⟩
  · rw [← hd, down_stop less ys k hs]
    have h1 := h.gl
    have h2 := h.al
    exact h.mem.ext hx (fun x => by omega) (fun i hi x => by simp at hi; omega)
  · rintro i (rfl | rfl)
    · exact .inl rfl
    · exact .inr rfl
theorem loop_step {W w : World} {g a c b1 m k gk lo : Nat} {X A B : El} {xs ys : List El} (h : PopSt W w g a c b1 X ys) (hlen : ys.length = m) (hk : k < m) (hd : down less ys k = popRest less xs)
    (hlo : low less ys k = lo) (hgt : k < lo) (hlm : lo < m) (hgk : m - k ≤ gk) (hA : at_ ys k = A) (hB : at_ ys lo = B) :
    LoopSt W ((((w.setCell ⟨a, k * 2, none⟩ (.int .i64 B.f0)).setCell ⟨a, k * 2 + 1, none⟩ (.int .i64 B.f1)).setCell ⟨a, lo * 2, none⟩ (.int .i64 A.f0)).setCell ⟨a, lo * 2 + 1, none⟩ (.int .i64 A.f1)).drew g a c b1 m X xs (m - lo) lo := by
  refine ⟨swap ys k lo, ?_, by rw [swap_length]; exact hlen, .inl hlm, ?_, Nat.le_refl _⟩
  · unfold swap
    rw [hA, hB]
    exact ((h.set k B).set lo A).step (Ext.refl _ _).drew
  · rw [← hd, down_step less ys k (by omega) (by omega), hlo]

set_option maxHeartbeats 2000000 in
set_option maxRecDepth 100000 in
/-- Pop. -/
theorem pop_some (W : World) (g : Nat) (p : Option Addr) (c : Nat) (xs : List El) (hM : Mem W g p c xs) (hne : xs ≠ []) (X : El) (hX : at_ xs 0 = X) (hn : xs.length < 1000000000) :
    Calls Tryz.prog 52 #[.pointer (some ⟨g, 0, none⟩)] W (PopEnd W g p c xs X) := by
  have hM0 := hM.ext ((Ext.refl (fun _ => False) W).alloc (.cells #[.int .i64 0, .int .i64 0] 45)) (fun h => h) (fun _ _ h => h)
  have HL := Lib.hid (least_some hM0 hne X hX)
  have HM0 := Lib.hid hM0
  obtain ⟨m, hm⟩ : ∃ m, xs.length = m + 1 := ⟨xs.length - 1, by have := List.length_pos_iff.2 hne; omega⟩
  obtain ⟨a, rfl⟩ := arr_some hM.row (by omega)
  have hga : g ≠ a := fun e => hM.pg (by simp [e])
  have kb : m < 1000000000 := by omega
  have gl := blk_lt hM.blk
  have al := arr_lt hM.row (k := a) rfl
  have HMM := Lib.hid hm
  clear hM0 hne hX hM hn hm
  go_enter Tryz.func52, Tryz.ntmps52
  go_wp2_with fail
  refine HL.out.mono ?_
  rintro e w1 ⟨rfl, hx1⟩
  have hX := ((Ext.refl (fun _ => False) W).alloc (.cells #[.int .i64 0, .int .i64 0] 45)).trans hx1 (fun _ _ h => h)
  have s1 := hx1.size
  simp at s1
  replace s1 := Nat.lt_of_succ_le s1
  have ST : PopSt W (w1.alloc (.cells #[.int .i64 X.f0, .int .i64 X.f1] 45)) g a c w1.heap.size X xs :=
    ⟨(HM0.out.ext hx1 (fun h => h) (fun _ _ h => h)).ext ((Ext.refl (fun _ => False) _).alloc _) (fun h => h) (fun _ _ h => h), (hX.mono (fun _ h => h.elim)).alloc _, blk_alloc (hx1.obj (heap_alloc_new W _) (fun h => h)) _, heap_alloc_new _ _, s1, gl, al⟩
  have HST := Lib.hid ST
  generalize hb1 : w1.heap.size = b1 at ST HST
  clear hx1 hX ST
  go_upto_region 4 with fail
  generalize w1.alloc (.cells #[.int .i64 X.f0, .int .i64 X.f1] 45) = wa at HST
  clear hb1 s1 HL HM0 w1
  have r1 := HST.out.mem.cell1
  rw [HMM.out] at r1
  obtain ⟨r1, rf⟩ := r1
  obtain ⟨Y, hY⟩ : ∃ Y, at_ xs m = Y := ⟨_, rfl⟩
  obtain ⟨e0, e1, ef0, ef1⟩ := HST.out.mem.elem m (by have := HMM.out; omega) Y hY
  have E0 := HST.out.mem.elem 0 (by have := HMM.out; omega) _ rfl
  (try simp at E0)
  obtain ⟨d0, d1, df0, df1⟩ := E0
  have HY := Lib.hid hY
  clear hY
  have i1 : (m : Int) < (m : Int) + 1 := by omega
  have i2 : (0 : Int) < (m : Int) + 1 := by omega
  go_upto_region 5 with fail
  go_cut [] (fun wc => PopSt W wc g a c b1 X (xs.set 0 Y))
  case first =>
    go_region
    go_wp2_with fail
    go_meet
    case rel => have := (HST.out.set 0 Y).step ((Ext.refl _ _).drew); simpa using this
  case rest =>
    have HC := Lib.hid hcut
    have hl2 : (xs.set 0 Y).length = m + 1 := by rw [List.length_set]; exact HMM.out
    have q1 := hcut.mem.cell1
    rw [hl2] at q1
    obtain ⟨q1, qf⟩ := q1
    clear e0 e1 ef0 ef1 d0 d1 df0 df1 r1 rf
    obtain ⟨e0, e1, ef0, ef1⟩ := hcut.mem.elem m (by omega) _ rfl
    have sz := blk_lt hcut.mem.blk
    have sa := arr_lt hcut.mem.row (k := a) rfl
    clear hcut hl2
    go_upto_region 7 with fail
    go_cut [] (fun wc => PopSt W wc g a c b1 X ((xs.set 0 Y).set m ⟨0, 0⟩))
    case first =>
      go_region
      go_wp2_with fail
      go_meet
      case rel => exact ((HC.out.set m ⟨0, 0⟩).step (((Ext.refl _ _).alloc _).drew))
    case rest =>
      have HD := Lib.hid hcut
      have hl2 : ((xs.set 0 Y).set m ⟨0, 0⟩).length = m + 1 := by rw [List.length_set, List.length_set]; exact HMM.out
      have q1 := hcut.mem.cell1
      rw [hl2] at q1
      obtain ⟨q1, qf⟩ := q1
      have hmc : m ≤ c := by have := (arr_cap hcut.mem.row).1; omega
      have hmc2 : (m : Int) ≤ (c : Int) := by omega
      clear hl2 e0 e1 ef0 ef1 hcut
      have HS : LoopSt W (wc.setCell ⟨g, 1, none⟩ (.slice (some ⟨a, 0, none⟩) m c)) g a c b1 m X xs m 0 := by
        have e : ((xs.set 0 Y).set m ⟨0, 0⟩).take m = (xs.set 0 Y).take m := by rw [List.take_set_of_le (Nat.le_refl m)]
        have hlen : ((xs.set 0 Y).take m).length = m := by rw [List.length_take, List.length_set, HMM.out]; omega
        refine ⟨(xs.set 0 Y).take m, ?_, hlen, by omega, ?_, by omega⟩
        · rw [← e]; exact HD.out.take m (by rw [List.length_set, List.length_set, HMM.out]; omega)
        · rw [popRest_down, HMM.out, Nat.add_sub_cancel, HY.out]
      have HS := Lib.hid HS
      clear hmc
      go_wp2_with fail
      go_loopg [8] m (fun gk i wr => ∃ k, i = .int .i64 (k : Nat) ∧ LoopSt W wr g a c b1 m X xs gk k)
      case atStart => exact ⟨0, rfl, HS.out⟩
      case round =>
        obtain ⟨k, rfl, hst⟩ := hrel
        have HST := Lib.hid hst
        obtain ⟨ys, hP, hlen, hk, hd, hgk⟩ := hst
        have kb2 : k < 1000000001 := by omega
        have HP := Lib.hid hP
        have HLEN := Lib.hid hlen
        have HK := Lib.hid hk
        have HD2 := Lib.hid hd
        clear hP hlen hd hk q1 qf
        go_upto_block 2 with fail
        go_cut [9, 10] (fun l _ wc => l = .int .i64 (low less ys k) ∧ PopSt W wc g a c b1 X ys)
        case first =>
          go_wp2_with fail
          go_loopw [9, 10] (fun l kk wr => ∃ j : Nat, kk = .int .i64 j ∧ 2 * k + 1 ≤ j ∧ j ≤ 2 * k + 3 ∧ l = .int .i64 (lowTo less ys k j) ∧ PopSt W wr g a c b1 X ys) (fun _ kk _ => 2 * k + 3 - (intOf kk).toNat)
          case atStart => exact ⟨2 * k + 1, by go_num, by omega, by omega, by rw [lowTo_start], HP.out⟩
          case round =>
            obtain ⟨j, rfl, hj1, hj2, rfl, hP⟩ := hrel
            have z1 := hP.mem.cell1
            rw [HLEN.out] at z1
            obtain ⟨z1, zf⟩ := z1
            have HPJ := Lib.hid hP
            have hg0 := hP.mem.cell0
            by_cases c1 : j ≤ 2 * k + 2
            · have d1 : decide ((j : Int) ≤ 2 * (k : Int) + 2) = true := by simp; omega
              by_cases c2 : j < m
              · have d2 : decide ((j : Int) < (m : Int)) = true := by simp; omega
                have hkm : k < m := by have := HK.out; omega
                have hlt := lowTo_lt less ys k j (by rw [HLEN.out]; exact hkm)
                rw [HLEN.out] at hlt
                have HSTEP := Lib.hid (lowTo_step less ys k j hj1 c1)
                generalize lowTo less ys k j = lo at hlt HSTEP
                obtain ⟨hlt, hlo⟩ := hlt
                obtain ⟨A, hA⟩ : ∃ A, at_ ys j = A := ⟨_, rfl⟩
                obtain ⟨B, hB⟩ : ∃ B, at_ ys lo = B := ⟨_, rfl⟩
                obtain ⟨e0, e1, ef0, ef1⟩ := hP.mem.elem j (by rw [HLEN.out]; exact c2) A hA
                obtain ⟨d0, d1, df0, df1⟩ := hP.mem.elem lo (by rw [HLEN.out]; exact hlt) B hB
                have HAB := Lib.hid (And.intro hA hB)
                have i1 : (j : Int) < (m : Int) := by omega
                have i2 : (lo : Int) < (m : Int) := by omega
                clear hA hB hP
                go_wp2_with fail
                go_still_tail 18, (by kernel_rfl)
                change wpList _ _ _ _ _ wr.drew
                go_wp2_with fail
                refine (less_any A B _).mono ?_
                rintro e w2 ⟨rfl, hx2⟩
                replace hx2 := hx2.undrew
                have HP2 := Lib.hid (HPJ.out.step hx2)
                clear hx2
                cases hl : less A B with
                | false =>
                  have HE : lowTo less ys k (j + 1) = lo := by rw [HSTEP.out]; unfold low1; rw [HAB.out.1, HAB.out.2, hl]; simp
                  have HE := Lib.hid HE
                  go_wp2_with fail
                  go_roundw
                  case rel => exact ⟨j + 1, by go_num, by omega, by omega, by rw [HE.out], HP2.out⟩
                  case measure => simp [intOf]; omega
                | true =>
                  have HE : lowTo less ys k (j + 1) = j := by rw [HSTEP.out]; unfold low1; rw [HAB.out.1, HAB.out.2, hl, HLEN.out, if_pos ⟨c2, rfl⟩]
                  have HE := Lib.hid HE
                  go_wp2_with fail
                  go_roundw
                  case rel => exact ⟨j + 1, by go_num, by omega, by omega, by rw [HE.out], HP2.out⟩
                  case measure => simp [intOf]; omega
              · have d2 : decide ((j : Int) < (m : Int)) = false := by simp; omega
                have HE := Lib.hid (lowTo_end less ys k j hj1 (.inr (by rw [HLEN.out]; omega)))
                go_wp2_with fail
                go_meet
                exact ⟨by rw [HE.out], HPJ.out⟩
            · have d1 : decide ((j : Int) ≤ 2 * (k : Int) + 2) = false := by simp; omega
              have HE := Lib.hid (lowTo_end less ys k j hj1 (.inl (by omega)))
              go_wp2_with fail
              go_meet
              exact ⟨by rw [HE.out], HPJ.out⟩
        case rest =>
          obtain ⟨rfl, hP2⟩ := hcut
          have HP2 := Lib.hid hP2
          by_cases hs : low less ys k = k
          · have HS2 := Lib.hid hs
            have RB0 := blk_cell hP2.box 0
            have RR0 := blk_cell hP2.res 0
            have FR0 := blk_frozen hP2.res 0
            simp at RB0 RR0
            have RB1 := blk_cell hP2.box 1
            have RR1 := blk_cell hP2.res 1
            have FR1 := blk_frozen hP2.res 1
            simp at RB1 RR1
            have e : ((low less ys k : Nat) : Int) = (k : Int) := by omega
            rw [e]
            clear hs e hP2
            go_wp2_with fail
            exact bodyPost_ret (v := .tuple #[.agg #[.int .i64 X.f0, .int .i64 X.f1], .bool true]) (by simp [results, Tryz.results52, go_sem, RR0, RR1]) rfl (pop_end HP2.out HD2.out HS2.out)
          · have HS2 := Lib.hid hs
            have hkm : k < m := by
              rcases HK.out with h | ⟨h, h2⟩
              · exact h
              · subst h2
                have hn : ys = [] := List.eq_nil_of_length_eq_zero (by rw [HLEN.out, h])
                rw [hn, low_nil] at hs
                exact absurd rfl hs
            have hb := low_bd less ys k (by rw [HLEN.out]; exact hkm)
            rw [HLEN.out] at hb
            have hne : ((low less ys k : Nat) : Int) ≠ (k : Int) := by omega
            have hgt : k < low less ys k := by omega
            have T0 := fun (A B : El) (hA : at_ ys k = A) (hB : at_ ys (low less ys k) = B) => loop_step (gk := gk) (k := k) HP2.out HLEN.out hkm HD2.out (lo := low less ys k) rfl hgt hb.1 hgk hA hB
            generalize low less ys k = lo at hne hb hgt T0
            obtain ⟨A, hA⟩ : ∃ A, at_ ys k = A := ⟨_, rfl⟩
            obtain ⟨B, hB⟩ : ∃ B, at_ ys lo = B := ⟨_, rfl⟩
            obtain ⟨e0, e1, ef0, ef1⟩ := hP2.mem.elem k (by rw [HLEN.out]; exact hkm) A hA
            obtain ⟨d0, d1, df0, df1⟩ := hP2.mem.elem lo (by rw [HLEN.out]; exact hb.1) B hB
            have z1 := hP2.mem.cell1
            rw [HLEN.out] at z1
            obtain ⟨z1, zf⟩ := z1
            have T := Lib.hid (T0 A B hA hB)
            have hne2 : ((lo : Int) == (k : Int)) = false := by simpa using hne
            have i3 : (k : Int) < (m : Int) := by omega
            have i4 : (lo : Int) < (m : Int) := by omega
            have hlm := hb.1
            clear hs hb hA hB hP2 T0 hne q1 qf
            go_wp2_with fail
            go_region
            go_wp2_with fail
            go_roundg (m - lo)
            case measure => omega
            case rel => exact ⟨lo, by go_num, T.out⟩
end Go.Proofs.YtigpaaelggnffaaGreatDoor.HeapT
