/- The walk of ChainPlays (the iterator's contract is handed in). -/
import Derived.Test.YtjaehghnjolaaaaChainLaws
import Derived.BigQuiet
import Derived.Deep.DeepCutAuto
namespace Go.Proofs.Ytjaehghnjolaaaa.Chain
open Go.RowKit Go.Proofs.Ytjaehghnjolaaaa.Lib
set_option linter.unusedVariables false
set_option linter.unusedSimpArgs false

def bools (l : List Bool) : List Value := l.map Value.bool
theorem bools_length (l : List Bool) : (bools l).length = l.length := by simp [bools]
theorem infoB : (Try.prog.info? 4).map (fun i => (i.zero, i.size, i.bytes)) = some (some (.bool false), 1, 1) := by kernel_rfl
def alL (n : Nat) (al : Nat → Bool) : List Bool := (List.range n).map al
theorem alL_get (n : Nat) (al : Nat → Bool) (j : Nat) (h : j < n) : (bools (alL n al))[j]? = some (.bool (al j)) := by simp [bools, alL, h]
theorem alL_cut (n : Nat) (al : Nat → Bool) (j : Nat) (h : j < n) : (bools (alL n al)).set j (.bool false) = bools (alL n (cutAl al j)) := by
  apply List.ext_getElem?
  intro i
  rw [List.getElem?_set]
  by_cases hi : i < n
  · rw [alL_get n al i hi, alL_get n _ i hi]
    by_cases e : j = i
    · subst e
      simp [cutAl, bools, alL, hi]
    · rw [if_neg e]
      simp [cutAl]
      intro _ e2; exact e e2.symm
  · rw [List.getElem?_eq_none (by simp [bools, alL]; omega), List.getElem?_eq_none (by simp [bools, alL]; omega)]
    simp [bools, alL]; omega
theorem alL_all (n : Nat) : List.replicate n (Value.bool true) = bools (alL n (allAl n)) := by
  apply List.ext_getElem?
  intro i
  by_cases hi : i < n
  · rw [alL_get n _ i hi]; simp [hi, allAl]
  · rw [List.getElem?_eq_none (by simp; omega), List.getElem?_eq_none (by simp [bools, alL]; omega)]
/-- The chain at g, the row of what stands at a, in memory newer than W. -/
structure PlSt (W w : World) (g a s n : Nat) (al : Nat → Bool) : Prop where
  ch : IsChain w g (fun k => W.heap.size ≤ k ∧ k < s) n al
  row : Arr w 4 1 (some ⟨a, 0, none⟩) n n (bools (alL n al))
  ext : Ext (fun _ => False) W w
  sa : s ≤ a
  ws : W.heap.size ≤ s
theorem PlSt.on {W w w1 : World} {g a s n : Nat} {al : Nat → Bool} (h : PlSt W w g a s n al) (hx : Ext (fun _ => False) w w1) : PlSt W w1 g a s n al :=
  ⟨h.ch.ext hx (fun _ _ _ h => h), arr_ext h.row hx (fun _ _ h => h), h.ext.trans hx (fun _ _ h => h), h.sa, h.ws⟩
theorem PlSt.cut {W w w1 : World} {g a s n j : Nat} {al : Nat → Bool} (h : PlSt W w g a s n al) (hj : j < n) (hc : IsChain w1 g (fun k => W.heap.size ≤ k ∧ k < s) n (cutAl al j)) (hx : Ext (fun k => W.heap.size ≤ k ∧ k < s) w w1) :
    PlSt W (w1.setCell ⟨a, j, none⟩ (.bool false)) g a s n (cutAl al j) := by
  have hsa := h.sa
  have hws := h.ws
  have hr := arr_ext h.row hx (fun k hk hS => by simp at hk; omega)
  have hx2 := (Ext.refl (fun k => k = a) w1).setCell (p := ⟨a, j, none⟩) (fun _ => rfl) (.bool false)
  refine ⟨hc.ext hx2 (fun k hk _ hS => by omega), ?_, (h.ext.trans hx (fun i hi hS => by omega)).trans hx2 (fun i hi hS => by omega), hsa, hws⟩
  rw [← alL_cut n al j hj]
  exact arr_set hr j _
/-- Loop 1: k of the row are true. -/
def FillB (W w : World) (g a s n k : Nat) : Prop := IsChain w g (fun k => W.heap.size ≤ k ∧ k < s) n (allAl n) ∧ Ext (fun _ => False) W w ∧ ∃ R, Arr w 4 1 (some ⟨a, 0, none⟩) n n (List.replicate k (.bool true) ++ R)
theorem FillB.step {W w : World} {g a s n k : Nat} (h : FillB W w g a s n k) (hk : k < n) (hsa : s ≤ a) (hws : W.heap.size ≤ s) : FillB W (w.setCell ⟨a, k, none⟩ (.bool true)) g a s n (k + 1) := by
  obtain ⟨hc, hx, R, hR⟩ := h
  have hx2 := (Ext.refl (fun k => k = a) w).setCell (p := ⟨a, k, none⟩) (fun _ => rfl) (.bool true)
  refine ⟨hc.ext hx2 (fun i hi _ hS => by omega), hx.trans hx2 (fun i hi hS => by omega), R.drop 1, ?_⟩
  have hl := arr_len hR
  simp at hl
  have e : (List.replicate k (Value.bool true) ++ R).set k (.bool true) = List.replicate (k + 1) (.bool true) ++ R.drop 1 := by
    match R, hl with
    | [], hl => simp at hl; omega
    | r :: R, _ =>
      rw [List.set_append_right _ _ (by simp), List.replicate_succ']
      simp
  rw [← e]
  exact arr_set hR k _
theorem FillB.done {W w : World} {g a s n : Nat} (h : FillB W w g a s n n) (hsa : s ≤ a) (hws : W.heap.size ≤ s) : PlSt W w g a s n (allAl n) := by
  obtain ⟨hc, hx, R, hR⟩ := h
  have hl := arr_len hR
  simp at hl
  subst hl
  rw [List.append_nil, alL_all] at hR
  exact ⟨hc, hR, hx, hsa, hws⟩
theorem prev_dead {al : Nat → Bool} {k : Nat} (h : al k = false) : prevOf al ((k : Int) + 1) = prevOf al k := by
  refine (prevOf_is al _).uniq ?_
  rcases prevOf_is al k with ⟨e, hn⟩ | ⟨j, e, h1, h2, h3⟩
  · refine .inl ⟨e, fun i hi => ?_⟩
    by_cases hik : i = k
    · rw [hik, h]
    · exact hn i (by omega)
  · refine .inr ⟨j, e, by omega, h2, fun i h4 h5 => ?_⟩
    by_cases hik : i = k
    · rw [hik, h]
    · exact h3 i h4 (by omega)
theorem prev_alive {al : Nat → Bool} {k : Nat} (h : al k = true) : prevOf al ((k : Int) + 1) = k :=
  (prevOf_is al _).uniq (.inr ⟨k, rfl, by omega, h, fun i h4 h5 => by omega⟩)
theorem prev_zero (al : Nat → Bool) : prevOf al 0 = -1 := (prevOf_is al 0).uniq (.inl ⟨rfl, fun j hj => by omega⟩)
theorem next_last {n : Nat} {al : Nat → Bool} (h : 0 ≤ prevOf al n) : nextOf n al (prevOf al n) = -1 := by
  refine (nextOf_is n al _).uniq (.inl ⟨rfl, fun i h1 h2 => ?_⟩)
  rcases prevOf_is al n with ⟨e, hn⟩ | ⟨j, e, h3, h4, h5⟩
  · exact hn i (by omega)
  · exact h5 i (by omega) (by omega)
theorem prev_in {al : Nat → Bool} {i : Int} (h : 0 ≤ prevOf al i) : inAl al (prevOf al i) = true := by
  rcases (prevOf_is al i).range with e | ⟨_, h1, h2⟩
  · omega
  · simp [inAl, h1, h2]
theorem IsChain.out {w : World} {g n : Nat} {S : Nat → Prop} {al : Nat → Bool} (h : IsChain w g S n al) {v : Int} (hv : v < 0 ∨ (n : Int) ≤ v) : inAl al v = false := by
  obtain ⟨_, _, _, _, _, _, _, _, _, hI, _⟩ := h
  rcases hv with h | h
  · have : ¬ (0 ≤ v) := by omega
    simp [inAl, this]
  · simp [inAl, hI.out v.toNat (by omega)]

set_option maxHeartbeats 2000000 in
set_option maxRecDepth 100000 in
/-- ChainPlays, but for the iterator: its contract is handed in. -/
theorem plays_any (hall : ∀ (w : World) (W : World) (g a s n : Nat) (al : Nat → Bool) (stop : Int), PlSt W w g a s n al → n ≤ 200 → 0 ≤ stop → stop ≤ 20 →
      Calls Try.prog 17 #[.pointer (some ⟨g, 0, none⟩), .slice (some ⟨a, 0, none⟩) n n, .int .i64 (cnt al n), .int .i64 stop] w fun e w' => e = .returned (.bool true) ∧ Ext (fun _ => False) w w')
    (W : World) (m : Int) (_ : (Lit.int .i64 m).wf = true) (p : Option Addr) (len cap : Nat) (hlen : len * 8 ≤ 140737488351232) (_ : len ≤ cap) (_ : cap ≤ maxLen) (xs : Nat → Int)
    (hxs : ∀ i, i < len → ∃ b o, p = some ⟨b, o, none⟩ ∧ b < W.heap.size ∧ W.cell? ⟨b, o + i, none⟩ = some (.int .i64 (xs i))) (_ : ∀ i, i < len → (Lit.int .i64 (xs i)).wf = true) (st : Int) (_ : (Lit.int .i64 st).wf = true) :
    Calls Try.prog 5 #[.int .i64 m, .slice p len cap, .int .i64 st] W fun e w' => e = .returned (.bool true) ∧ Ext (fun _ => False) W w' := by
  have hb := Book.within_bd m 0 200 (by decide)
  have HALL := Lib.hid hall
  clear hall
  go_enter Try.func5, Try.ntmps5
  go_wp2_with fail
  refine (Book.within_any m 0 200 W (by decide) (by decide) (by decide)).mono ?_
  rintro e w' ⟨rfl, rfl⟩
  generalize Book.within m 0 200 = N at hb
  obtain ⟨n, rfl⟩ := Int.eq_ofNat_of_zero_le (show 0 ≤ N by omega)
  have hn2 : n ≤ 200 := by omega
  go_wp2_with fail
  refine (new_any W n n (by rw [mn_eq, mx_eq]; omega)).mono ?_
  rintro e w1 ⟨rfl, h1, x1⟩
  have H1 := Lib.hid h1
  have X1 := Lib.hid x1
  have HX := Lib.hid hxs
  have s1 := x1.size
  clear h1 x1 hxs
  go_wp2_with (at_make; (refine arr_make rfl (.tmp 22) (.tmp 22) 31 4 1 1 (.bool false) rfl Try.underlying31 infoB .i64 .i64 _ _ n rfl rfl rfl rfl (by omega) (by decide) rfl ?_); intro w2 hA hx2; have F0 := Lib.hid (show FillB W w2 W.heap.size w1.heap.size w1.heap.size n 0 from ⟨H1.out.ext hx2 (fun _ _ _ h => h), X1.out.trans hx2 (fun _ _ h => h), _, hA⟩); clear hA hx2)
  go_loopw [10] (fun i wr => ∃ k : Nat, k ≤ n ∧ i = .int .i64 k ∧ FillB W wr W.heap.size w1.heap.size w1.heap.size n k) (fun i _ => n - (intOf i).toNat)
  case atStart => exact ⟨0, Nat.zero_le _, rfl, F0.out⟩
  case round =>
    obtain ⟨k, hk, rfl, hst⟩ := hrel
    clear F0
    have HST := Lib.hid hst
    by_cases hlt : k < n
    · obtain ⟨_, _, R, hR⟩ := hst
      have T := Lib.hid (HST.out.step hlt (Nat.le_refl _) s1)
      have i1 : (k : Int) < (n : Int) := by omega
      obtain ⟨u, hu⟩ : ∃ u, wr.cell? ⟨w1.heap.size, k, none⟩ = some u := ⟨_, (arr_cell hR _ (by omega)).trans (List.getElem?_eq_getElem (by have := arr_len hR; omega))⟩
      have hf := arr_frozen hR k
      clear hR
      go_wp2_with fail
      go_roundw
      case rel => exact ⟨k + 1, by omega, by go_num, T.out⟩
      case measure => simp [intOf]; omega
    · obtain rfl : n = k := by omega
      have P0 := Lib.hid (hst.done (Nat.le_refl _) s1)
      have C0 := cnt_all n n (Nat.le_refl _)
      have HS1 := Lib.hid s1
      clear hst HST H1 X1
      have L0 : Int.ofNat (cnt (allAl n) n) = (n : Int) := by rw [C0]; rfl
      go_wp2_with fail
      go_loopw [9, 11] (fun l i wr2 => ∃ (k : Nat) (al : Nat → Bool), k ≤ len ∧ k ≤ 300 ∧ i = .int .i64 k ∧ l = .int .i64 (cnt al n) ∧ PlSt W wr2 W.heap.size w1.heap.size w1.heap.size n al) (fun _ i _ => 300 - (intOf i).toNat)
      case atStart => exact ⟨0, allAl n, Nat.zero_le _, Nat.zero_le _, rfl, by rw [C0], P0.out⟩
      case round =>
        obtain ⟨k, al, hk1, hk2, rfl, rfl, hst⟩ := hrel
        clear C0 L0 P0
        have HST := Lib.hid hst
        by_cases hlt : k < len ∧ k < 300
        · obtain ⟨hl1, hl2⟩ := hlt
          obtain ⟨b, o, rfl, hbl, hcl⟩ := HX.out k hl1
          have hcl' := (hst.ext.cell (p := ⟨b, o + k, none⟩) hbl (fun h => h)).trans hcl
          have hb2 := Nat.lt_of_lt_of_le hbl hst.ext.size
          have i1 : (k : Int) < (len : Int) := by omega
          have i2 : (k : Int) < 300 := by omega
          have CLE := cnt_le al n
          generalize xs k = v at hcl'
          clear hcl hbl
          by_cases hv : 0 ≤ v ∧ v < n
          · obtain ⟨hv1, hv2⟩ := hv
            obtain ⟨j, rfl⟩ := Int.eq_ofNat_of_zero_le hv1
            have hjn : j < n := by omega
            have d1 : decide ((j : Int) ≥ 0) = true := by simp
            have d2 : decide ((j : Int) < (n : Int)) = true := by simp; omega
            have rj := (arr_cell hst.row j (by omega)).trans (alL_get n al j hjn)
            have ra := arr_lt hst.row rfl
            have rf := arr_frozen hst.row j
            simp at ra
            cases hin : al j with
            | false =>
              have hin' : inAl al j = false := by simp [inAl, hin]
              have P1 := Lib.hid (has_val hst.ch j false hin')
              have P2 := Lib.hid (cut_out hst.ch j hin')
              rw [hin] at rj
              clear hst hin hin'
              go_wp2_with fail
              refine P1.out.mono ?_
              rintro e w' ⟨rfl, rfl⟩
              go_wp2_with fail
              refine P2.out.mono ?_
              rintro e w' ⟨rfl, rfl⟩
              go_wp2_with fail
              refine P1.out.mono ?_
              rintro e w' ⟨rfl, rfl⟩
              go_wp2_with fail
              go_roundw
              case rel => exact ⟨k + 1, al, by omega, by omega, by go_num, rfl, HST.out⟩
              case measure => simp [intOf]; omega
            | true =>
              have hin' : inAl al j = true := by simp [inAl, hin]
              have P1 := Lib.hid (has_val hst.ch j true hin')
              have P2 := Lib.hid (cut_in hst.ch j hin')
              have CC := cnt_cut al j hin n
              rw [if_pos hjn] at CC
              rw [hin] at rj
              have RW := Lib.hid hst.row
              clear hst hin hin'
              go_wp2_with fail
              refine P1.out.mono ?_
              rintro e w' ⟨rfl, rfl⟩
              go_wp2_with fail
              refine P2.out.mono ?_
              rintro e w4 ⟨rfl, hC4, hx4⟩
              rw [show ((j : Nat) : Int).toNat = j from rfl] at hC4
              have T := Lib.hid (HST.out.cut hjn hC4 hx4)
              have P3 := Lib.hid (has_val hC4 j false (by simp [inAl, cutAl_self]))
              have hr4 := arr_ext RW.out hx4 (fun i hi hS => by simp at hi; omega)
              have rj4 := (arr_cell hr4 j (by omega)).trans (alL_get n al j hjn)
              have rf4 := arr_frozen hr4 j
              have s4 := Nat.lt_of_lt_of_le ra hx4.size
              clear hC4 hx4 hr4
              go_wp2_with fail
              refine P3.out.mono ?_
              rintro e w' ⟨rfl, rfl⟩
              go_wp2_with fail
              go_roundw
              case rel => exact ⟨k + 1, cutAl al j, by omega, by omega, by go_num, by rw [← CC]; go_num, T.out⟩
              case measure => simp [intOf]; omega
          · have hin' : inAl al v = false := hst.ch.out (by omega)
            have P1 := Lib.hid (has_val hst.ch v false hin')
            have P2 := Lib.hid (cut_out hst.ch v hin')
            rcases (show v < 0 ∨ (0 ≤ v ∧ n ≤ v) by omega) with hv0 | ⟨hv0, hv1⟩
            · have d1 : decide (v ≥ 0) = false := by simp; omega
              have d2 : decide (0 ≤ v) = false := by simp; omega
              clear hst hin'
              go_wp2_with fail
              refine P1.out.mono ?_
              rintro e w' ⟨rfl, rfl⟩
              go_wp2_with fail
              refine P2.out.mono ?_
              rintro e w' ⟨rfl, rfl⟩
              go_wp2_with fail
              refine P1.out.mono ?_
              rintro e w' ⟨rfl, rfl⟩
              go_wp2_with fail
              go_roundw
              case rel => exact ⟨k + 1, al, by omega, by omega, by go_num, rfl, HST.out⟩
              case measure => simp [intOf]; omega
            · have d1 : decide (v ≥ 0) = true := by simp; omega
              have d2 : decide (0 ≤ v) = true := by simp; omega
              have d3 : decide (v < (n : Int)) = false := by simp; omega
              clear hst hin'
              go_wp2_with fail
              refine P1.out.mono ?_
              rintro e w' ⟨rfl, rfl⟩
              go_wp2_with fail
              refine P2.out.mono ?_
              rintro e w' ⟨rfl, rfl⟩
              go_wp2_with fail
              refine P1.out.mono ?_
              rintro e w' ⟨rfl, rfl⟩
              go_wp2_with fail
              go_roundw
              case rel => exact ⟨k + 1, al, by omega, by omega, by go_num, rfl, HST.out⟩
              case measure => simp [intOf]; omega
        · have LN := Lib.hid (len_val hst.ch (cnt al n : Nat) rfl)
          rcases (show ¬ ((k : Int) < (len : Int)) ∨ ((k : Int) < (len : Int) ∧ ¬ ((k : Int) < 300)) by omega) with i1 | ⟨i1, i2⟩
          all_goals
            clear hst
            go_wp2_with fail
            refine LN.out.mono ?_
            rintro e w' ⟨rfl, rfl⟩
            go_wp2_with fail
            go_loopw [14, 15] (fun la i wr3 => ∃ (k : Nat), k ≤ n ∧ i = .int .i64 k ∧ la = .int .i64 (prevOf al k) ∧ wr = wr3) (fun _ i _ => n - (intOf i).toNat)
            case atStart => exact ⟨0, Nat.zero_le _, rfl, by rw [show ((0 : Nat) : Int) = 0 from rfl, prev_zero], rfl⟩
            case round =>
              obtain ⟨k2, hk3, rfl, rfl, rfl⟩ := hrel
              have hst := HST.out
              have HPI := Lib.hid (fun h : 0 ≤ prevOf al k2 => prev_in h)
              by_cases hlt2 : k2 < n
              · have j1 : (k2 : Int) < (n : Int) := by omega
                have rj := (arr_cell hst.row k2 (by omega)).trans (alL_get n al k2 hlt2)
                have ra := arr_lt hst.row rfl
                simp at ra
                cases hin : al k2 with
                | false =>
                  have hin' : inAl al k2 = false := by simp [inAl, hin]
                  have P1 := Lib.hid (next_val hst.ch k2 (-1) (by rw [hin']; rfl))
                  have P2 := Lib.hid (prev_val hst.ch k2 (-1) (by rw [hin']; rfl))
                  have PD := Lib.hid (prev_dead hin)
                  rw [hin] at rj
                  clear hst hin hin'
                  generalize prevOf al k2 = la at PD HPI
                  go_wp2_with fail
                  refine P1.out.mono ?_
                  rintro e w' ⟨rfl, rfl⟩
                  go_wp2_with fail
                  refine P2.out.mono ?_
                  rintro e w' ⟨rfl, rfl⟩
                  go_wp2_with fail
                  go_roundw
                  case rel => exact ⟨k2 + 1, by omega, by go_num, by rw [Int.natCast_add, show ((1 : Nat) : Int) = 1 from rfl, PD.out], by first | rfl | trivial⟩
                  case measure => simp [intOf]; omega
                | true =>
                  have hin' : inAl al k2 = true := by simp [inAl, hin]
                  have P2 := Lib.hid (prev_val hst.ch k2 (prevOf al k2) (by rw [hin']; rfl))
                  have PA := Lib.hid (prev_alive hin)
                  have NX := Lib.hid (fun h : 0 ≤ prevOf al k2 => next_val hst.ch (prevOf al k2) k2 (by
                    rw [prev_in h, if_pos rfl]
                    obtain ⟨q, hq⟩ := Int.eq_ofNat_of_zero_le h
                    rcases (prevOf_is al k2).range with e | ⟨_, _, h2⟩
                    · omega
                    · rw [hq] at h2 ⊢
                      exact (next_is_prev hin hlt2 (by simpa using h2)).2 hq))
                  rw [hin] at rj
                  clear hst hin hin' HPI
                  generalize prevOf al k2 = la at P2 NX
                  go_wp2_with fail
                  refine P2.out.mono ?_
                  rintro e w' ⟨rfl, rfl⟩
                  by_cases hla : 0 ≤ la
                  · have d1 : decide (la ≥ 0) = true := by simpa using hla
                    have d2 : decide (0 ≤ la) = true := by simpa using hla
                    have NX2 := Lib.hid (NX.out hla)
                    go_wp2_with fail
                    refine NX2.out.mono ?_
                    rintro e w' ⟨rfl, rfl⟩
                    go_wp2_with fail
                    go_roundw
                    case rel => exact ⟨k2 + 1, by omega, by go_num, by rw [Int.natCast_add, show ((1 : Nat) : Int) = 1 from rfl, PA.out], by first | rfl | trivial⟩
                    case measure => simp [intOf]; omega
                  · have d1 : decide (la ≥ 0) = false := by simpa using hla
                    have d2 : decide (0 ≤ la) = false := by simpa using hla
                    go_wp2_with fail
                    go_roundw
                    case rel => exact ⟨k2 + 1, by omega, by go_num, by rw [Int.natCast_add, show ((1 : Nat) : Int) = 1 from rfl, PA.out], by first | rfl | trivial⟩
                    case measure => simp [intOf]; omega
              · obtain rfl : n = k2 := by omega
                have hbs := Book.within_bd st 0 20 (by decide)
                have AL := Lib.hid (HALL.out _ W W.heap.size w1.heap.size w1.heap.size n al (Book.within st 0 20) HST.out hn2 hbs.1 hbs.2)
                have NX := Lib.hid (fun h : 0 ≤ prevOf al n => next_val hst.ch (prevOf al n) (-1) (by rw [prev_in h, if_pos rfl]; exact next_last h))
                clear hst HPI
                generalize prevOf al n = la at NX
                by_cases hla : 0 ≤ la
                · have d1 : decide (la ≥ 0) = true := by simpa using hla
                  have d2 : decide (0 ≤ la) = true := by simpa using hla
                  have NX2 := Lib.hid (NX.out hla)
                  go_wp2_with fail
                  refine NX2.out.mono ?_
                  rintro e w' ⟨rfl, rfl⟩
                  go_wp2_with fail
                  refine (Book.within_any st 0 20 _ (by decide) (by decide) (by decide)).mono ?_
                  rintro e w' ⟨rfl, rfl⟩
                  go_wp2_with fail
                  refine AL.out.mono ?_
                  rintro e w5 ⟨rfl, hx5⟩
                  have X5 := Lib.hid (HST.out.ext.trans hx5 (fun _ _ h => h))
                  clear hx5
                  go_wp2_with fail
                  refine (known_any _).mono ?_
                  rintro e w6 ⟨rfl, hx⟩
                  have X6 := Lib.hid (X5.out.trans hx (fun _ _ h => h))
                  clear hx
                  go_wp2_with fail
                  go_ret
                  exact ⟨rfl, X6.out⟩
                · have d1 : decide (la ≥ 0) = false := by simpa using hla
                  have d2 : decide (0 ≤ la) = false := by simpa using hla
                  go_wp2_with fail
                  refine (Book.within_any st 0 20 _ (by decide) (by decide) (by decide)).mono ?_
                  rintro e w' ⟨rfl, rfl⟩
                  go_wp2_with fail
                  refine AL.out.mono ?_
                  rintro e w5 ⟨rfl, hx5⟩
                  have X5 := Lib.hid (HST.out.ext.trans hx5 (fun _ _ h => h))
                  clear hx5
                  go_wp2_with fail
                  refine (known_any _).mono ?_
                  rintro e w6 ⟨rfl, hx⟩
                  have X6 := Lib.hid (X5.out.trans hx (fun _ _ h => h))
                  clear hx
                  go_wp2_with fail
                  go_ret
                  exact ⟨rfl, X6.out⟩
end Go.Proofs.Ytjaehghnjolaaaa.Chain
