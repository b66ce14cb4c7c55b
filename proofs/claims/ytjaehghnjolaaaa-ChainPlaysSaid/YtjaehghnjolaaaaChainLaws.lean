/- The walks of chapter 9's statements. -/
import Derived.Test.YtjaehghnjolaaaaChain
import Derived.Test.YtjaehghnjolaaaaBook
namespace Go.Proofs.Ytjaehghnjolaaaa.Chain
open Go.RowKit Go.Proofs.Ytjaehghnjolaaaa.Lib
set_option linter.unusedVariables false
set_option linter.unusedSimpArgs false

section
variable {w : World} {g n : Nat} {S : Nat → Prop} {al : Nat → Bool}
theorem next_val (h : IsChain w g S n al) (i r : Int) (hr : (if inAl al i then nextOf n al i else -1) = r) :
    Calls Try.prog 11 #[.pointer (some ⟨g, 0, none⟩), .int .i64 i] w fun e w' => e = .returned (.int .i64 r) ∧ w = w' := hr ▸ next_any h i
theorem prev_val (h : IsChain w g S n al) (i r : Int) (hr : (if inAl al i then prevOf al i else -1) = r) :
    Calls Try.prog 12 #[.pointer (some ⟨g, 0, none⟩), .int .i64 i] w fun e w' => e = .returned (.int .i64 r) ∧ w = w' := hr ▸ prev_any h i
theorem len_val (h : IsChain w g S n al) (r : Int) (hr : (cnt al n : Int) = r) :
    Calls Try.prog 14 #[.pointer (some ⟨g, 0, none⟩)] w fun e w' => e = .returned (.int .i64 r) ∧ w = w' := hr ▸ len_any h
theorem has_val (h : IsChain w g S n al) (i : Int) (r : Bool) (hr : inAl al i = r) :
    Calls Try.prog 13 #[.pointer (some ⟨g, 0, none⟩), .int .i64 i] w fun e w' => e = .returned (.bool r) ∧ w = w' := hr ▸ has_any h i
end

/-- known. -/
theorem known_any (W : World) : Calls Try.prog 15 #[] W fun e w' => e = .returned (.bool true) ∧ Ext (fun _ => False) W w' := by
  go_enter Try.func15, Try.ntmps15
  go_wp2_with fail
  refine (new_any W 4 4 (by decide)).mono ?_
  rintro e w1 ⟨rfl, h1, x1⟩
  have g1 : W.heap.size < w1.heap.size := by obtain ⟨p, c, q, d, nx, pv, f, l, hM, _⟩ := h1; exact blk_lt hM.blk
  have H1 := Lib.hid h1
  have X1 := Lib.hid x1
  clear h1 x1
  go_wp2_with fail
  refine (cut_in H1.out 1 (by decide)).mono ?_
  rintro e w2 ⟨rfl, h2, x2⟩
  have H2 := Lib.hid h2
  have X2 := Lib.hid (X1.out.trans x2 (T := fun k => W.heap.size ≤ k ∧ k < w1.heap.size) (fun i hi hh => by omega))
  clear h2 x2
  go_wp2_with fail
  refine (cut_in H2.out 2 (by decide)).mono ?_
  rintro e w3 ⟨rfl, h3, x3⟩
  have H3 := Lib.hid h3
  have X3 := Lib.hid (X2.out.trans x3 (T := fun k => W.heap.size ≤ k ∧ k < w1.heap.size) (fun i hi hh => by omega))
  clear h3 x3
  go_wp2_with fail
  refine (next_val H3.out 0 3 (by decide)).mono ?_
  rintro e w' ⟨rfl, rfl⟩
  go_wp2_with fail
  refine (prev_val H3.out 3 0 (by decide)).mono ?_
  rintro e w' ⟨rfl, rfl⟩
  go_wp2_with fail
  refine (len_val H3.out 2 (by decide)).mono ?_
  rintro e w' ⟨rfl, rfl⟩
  go_wp2_with fail
  go_ret
  exact ⟨rfl, X3.out⟩

theorem chain_lt {w : World} {g n : Nat} {S : Nat → Prop} {al : Nat → Bool} (h : IsChain w g S n al) : g < w.heap.size := by
  obtain ⟨p, c, q, d, nx, pv, f, l, hM, _⟩ := h; exact blk_lt hM.blk

theorem nil_eq (w : World) (p : Option Addr) : (binOp .eql 22 (.pointer p) (.pointer none)).run Try.prog w = .ok (.bool p.isNone) w := by
  cases p <;> kernel_rfl

/-- ChainNumbers. -/
theorem numbers_any (W : World) : Calls Try.prog 3 #[] W fun e w' => e = .returned (.bool true) ∧ Ext (fun _ => False) W w' := by
  go_enter Try.func3, Try.ntmps3
  go_wp2_with fail
  refine (new_any W 4 4 (by decide)).mono ?_
  rintro e w1 ⟨rfl, h1, x1⟩
  have g1 := chain_lt h1
  have H1 := Lib.hid h1
  have X1 := Lib.hid x1
  clear h1 x1
  go_wp2_with fail
  refine (new_any w1 (-1) 0 (by decide)).mono ?_
  rintro e w2 ⟨rfl, h2, x2⟩
  have g2 := chain_lt h2
  have D1 := Lib.hid (H1.out.ext x2 (fun _ _ _ h => h))
  have D2 := Lib.hid h2
  have X2 := Lib.hid (X1.out.trans x2 (fun _ _ h => h))
  clear h2 x2
  go_wp2_with fail
  refine (new_any w2 1048581 1048576 (by decide)).mono ?_
  rintro e w3 ⟨rfl, h3, x3⟩
  have g3 := chain_lt h3
  have E1 := Lib.hid (D1.out.ext x3 (fun _ _ _ h => h))
  have E2 := Lib.hid (D2.out.ext x3 (fun _ _ _ h => h))
  have E3 := Lib.hid h3
  have X3 := Lib.hid (X2.out.trans x3 (fun _ _ h => h))
  clear h3 x3
  go_wp2_with fail
  refine (cut_in E1.out 1 (by decide)).mono ?_
  rintro e w4 ⟨rfl, h4, x4⟩
  have F1 := Lib.hid h4
  have F2 := Lib.hid (E2.out.ext x4 (fun k h1 _ h2 => by omega))
  have F3 := Lib.hid (E3.out.ext x4 (fun k h1 _ h2 => by omega))
  have X4 := Lib.hid (X3.out.trans x4 (fun i hi h => by omega))
  clear h4 x4
  go_wp2_with fail
  refine (next_val F1.out 1 (-1) (by decide)).mono ?_
  rintro e w' ⟨rfl, rfl⟩
  go_wp2_with fail
  refine (cut_out F1.out 1 (by decide)).mono ?_
  rintro e w' ⟨rfl, rfl⟩
  go_wp2_with fail
  refine (next_val F1.out 9 (-1) (by decide)).mono ?_
  rintro e w' ⟨rfl, rfl⟩
  go_wp2_with fail
  refine (prev_val F1.out 0 (-1) (by decide)).mono ?_
  rintro e w' ⟨rfl, rfl⟩
  go_wp2_with fail
  refine (next_val F1.out 3 (-1) (by decide)).mono ?_
  rintro e w' ⟨rfl, rfl⟩
  go_wp2_with fail
  refine (has_val F1.out (-1) false (by decide)).mono ?_
  rintro e w' ⟨rfl, rfl⟩
  go_wp2_with fail
  refine (len_val F2.out 0 (by decide)).mono ?_
  rintro e w' ⟨rfl, rfl⟩
  go_wp2_with fail
  refine (len_val F3.out 1048576 (by rw [cnt_all _ _ (Nat.le_refl _)]; rfl)).mono ?_
  rintro e w' ⟨rfl, rfl⟩
  go_wp2_with fail
  refine (known_any _).mono ?_
  rintro e w5 ⟨rfl, x5⟩
  have X5 := Lib.hid (X4.out.trans x5 (fun _ _ h => h))
  clear x5
  go_wp2_with fail
  go_ret
  exact ⟨rfl, X5.out⟩

/-- The state of ChainBoth's loop. -/
def BothSt (W w : World) (n : Nat) : Prop := ∃ al, IsChain w W.heap.size (fun k => W.heap.size ≤ k) n al ∧ Ext (fun _ => False) W w

set_option maxHeartbeats 1000000 in
set_option maxRecDepth 100000 in
/-- ChainBoth, the argument opened: l's numbers at address p. -/
theorem both_any (W : World) (m : Int) (_ : (Lit.int .i64 m).wf = true) (p : Option Addr) (len cap : Nat) (hlen : len * 8 ≤ 140737488351232) (_ : len ≤ cap) (_ : cap ≤ maxLen) (xs : Nat → Int)
    (hxs : ∀ i, i < len → ∃ b o, p = some ⟨b, o, none⟩ ∧ b < W.heap.size ∧ W.cell? ⟨b, o + i, none⟩ = some (.int .i64 (xs i))) (_ : ∀ i, i < len → (Lit.int .i64 (xs i)).wf = true) :
    Calls Try.prog 4 #[.int .i64 m, .slice p len cap] W fun e w' => e = .returned (.bool true) ∧ Ext (fun _ => False) W w' := by
  have hb := Book.within_bd m 1 200 (by decide)
  go_enter Try.func4, Try.ntmps4
  go_wp2_with fail
  refine (Book.within_any m 1 200 W (by decide) (by decide) (by decide)).mono ?_
  rintro e w' ⟨rfl, rfl⟩
  generalize Book.within m 1 200 = N at hb
  obtain ⟨n, rfl⟩ := Int.eq_ofNat_of_zero_le (show 0 ≤ N by omega)
  go_wp2_with fail
  refine (new_any W n n (by rw [mn_eq, mx_eq]; omega)).mono ?_
  rintro e w1 ⟨rfl, h1, x1⟩
  have HS : BothSt W w1 n := ⟨_, h1.mono (fun k _ h => h.1), x1⟩
  have H1 := Lib.hid HS
  have HX := Lib.hid hxs
  clear h1 x1 HS hxs
  go_wp2_with fail
  go_loopw [6] (fun i wr => ∃ k : Nat, k ≤ len ∧ i = .int .i64 k ∧ BothSt W wr n) (fun i _ => len - (intOf i).toNat)
  case atStart => exact ⟨0, Nat.zero_le _, rfl, H1.out⟩
  case round =>
    obtain ⟨k, hk, rfl, hst⟩ := hrel
    have HST := Lib.hid hst
    obtain ⟨al, hC, hx⟩ := hst
    have HC := Lib.hid hC
    have X := Lib.hid hx
    clear hC hx
    by_cases hlt : k < len
    · by_cases h3 : k < 300
      · obtain ⟨b, o, rfl, hbl, hcl⟩ := HX.out k hlt
        have hcl' := (X.out.cell (p := ⟨b, o + k, none⟩) hbl (fun h => h)).trans hcl
        clear hbl hcl
        have hr := Book.within_bd (xs k) 0 (n - 1) (by omega)
        go_wp2_with fail
        refine (Book.within_any (xs k) 0 (n - 1) wr (by omega) (by decide) (by omega)).mono ?_
        rintro e w' ⟨rfl, rfl⟩
        generalize Book.within (xs k) 0 (n - 1) = K at hr
        obtain ⟨j, rfl⟩ := Int.eq_ofNat_of_zero_le (show 0 ≤ K by omega)
        have hjn : j < n := by omega
        cases hin : al j with
        | false =>
          have hin' : inAl al j = false := by simp [inAl, hin]
          have P1 := Lib.hid (prev_val HC.out j (-1) (by rw [hin']; rfl))
          have P2 := Lib.hid (next_val HC.out j (-1) (by rw [hin']; rfl))
          have P3 := Lib.hid (has_val HC.out j false hin')
          clear hin hin'
          go_wp2_with fail
          refine P1.out.mono ?_
          rintro e w' ⟨rfl, rfl⟩
          go_wp2_with fail
          refine P2.out.mono ?_
          rintro e w' ⟨rfl, rfl⟩
          go_wp2_with fail
          refine P3.out.mono ?_
          rintro e w' ⟨rfl, rfl⟩
          go_wp2_with fail
          go_roundw
          case rel => exact ⟨k + 1, by omega, by go_num, HST.out⟩
          case measure => simp [intOf]; omega
        | true =>
          have hin' : inAl al j = true := by simp [inAl, hin]
          have P1 := Lib.hid (prev_val HC.out j (prevOf al j) (by rw [hin']; rfl))
          have P2 := Lib.hid (next_val HC.out j (nextOf n al j) (by rw [hin']; rfl))
          have P3 := Lib.hid (has_val HC.out j true hin')
          have P4 := Lib.hid (cut_in HC.out j hin')
          have Q1 := Lib.hid (fun h => cut_next hjn hin h)
          have Q2 := Lib.hid (fun h => cut_prev (n := n) hin h)
          clear hin hin'
          generalize prevOf al j = a at P1 Q1 Q2
          generalize nextOf n al j = c at P2 Q1 Q2
          go_wp2_with fail
          refine P1.out.mono ?_
          rintro e w' ⟨rfl, rfl⟩
          go_wp2_with fail
          refine P2.out.mono ?_
          rintro e w' ⟨rfl, rfl⟩
          go_wp2_with fail
          refine P3.out.mono ?_
          rintro e w' ⟨rfl, rfl⟩
          go_wp2_with fail
          refine P4.out.mono ?_
          rintro e w2 ⟨rfl, h2, x2⟩
          rw [show ((j : Nat) : Int).toNat = j from rfl] at h2
          have H2 := Lib.hid h2
          have T := Lib.hid (show BothSt W w2 n from ⟨_, h2, X.out.trans x2 (fun i hi h => by omega)⟩)
          clear h2 x2
          by_cases ha : 0 ≤ a
          · have ha' : decide (0 ≤ a) = true := by simpa using ha
            have R1 := Lib.hid (next_val H2.out a c (Q1.out ha))
            go_wp2_with fail
            refine R1.out.mono ?_
            rintro e w' ⟨rfl, rfl⟩
            by_cases hc : 0 ≤ c
            · have hc' : decide (0 ≤ c) = true := by simpa using hc
              have R2 := Lib.hid (prev_val H2.out c a (Q2.out hc))
              go_wp2_with fail
              refine R2.out.mono ?_
              rintro e w' ⟨rfl, rfl⟩
              go_wp2_with fail
              go_roundw
              case rel => exact ⟨k + 1, by omega, by go_num, T.out⟩
              case measure => simp [intOf]; omega
            · have hc' : decide (0 ≤ c) = false := by simpa using hc
              go_wp2_with fail
              go_roundw
              case rel => exact ⟨k + 1, by omega, by go_num, T.out⟩
              case measure => simp [intOf]; omega
          · have ha' : decide (0 ≤ a) = false := by simpa using ha
            by_cases hc : 0 ≤ c
            · have hc' : decide (0 ≤ c) = true := by simpa using hc
              have R2 := Lib.hid (prev_val H2.out c a (Q2.out hc))
              go_wp2_with fail
              refine R2.out.mono ?_
              rintro e w' ⟨rfl, rfl⟩
              go_wp2_with fail
              go_roundw
              case rel => exact ⟨k + 1, by omega, by go_num, T.out⟩
              case measure => simp [intOf]; omega
            · have hc' : decide (0 ≤ c) = false := by simpa using hc
              go_wp2_with fail
              go_roundw
              case rel => exact ⟨k + 1, by omega, by go_num, T.out⟩
              case measure => simp [intOf]; omega
      · go_wp2_with fail
        refine (known_any _).mono ?_
        rintro e w5 ⟨rfl, x5⟩
        have X5 := Lib.hid (X.out.trans x5 (fun _ _ h => h))
        clear x5
        go_wp2_with fail
        go_ret
        exact ⟨rfl, X5.out⟩
    · go_wp2_with fail
      refine (known_any _).mono ?_
      rintro e w5 ⟨rfl, x5⟩
      have X5 := Lib.hid (X.out.trans x5 (fun _ _ h => h))
      clear x5
      go_wp2_with fail
      go_ret
      exact ⟨rfl, X5.out⟩
end Go.Proofs.Ytjaehghnjolaaaa.Chain
