/- Merged of PRef, PCheck4, Ref5. -/
import Derived.Test.YtbepmbihonnkaaaPSpan
import Derived.Test.YtbepmbihonnkaaaModelNew
import Derived.Test.YtbepmbihonnkaaaPPruneDownx4
import Derived.Test.YtbepmbihonnkaaaPPruneDownx6
import Derived.Test.YtbepmbihonnkaaaPPruneDownx5
import Derived.Test.YtbepmbihonnkaaaBook
/- What the printed functions of the document's chapters 4, 5 compute; their contracts over a model's data. -/
namespace Go.Proofs.Ytbepmbihonnkaaa.Sl
open Go.Proofs.Ytbepmbihonnkaaa.Lib hiding mx mn
open Go.RowKit Go.Proofs.Ytbepmbihonnkaaa.PPruneDown Go.Proofs.YtbepmbihonnkaaaW.PrintWords Go.Proofs.YtbepmbihonnkaaaW.PrintLast Go.Proofs.YtbepmbihonnkaaaW.PrintMore
set_option linter.unusedVariables false
set_option linter.unusedSimpArgs false

abbrev PMrg := S35
def toM (x : Mrg) : PMrg := ⟨x.l, x.r, x.i⟩
theorem kdM {w : World} {p : Option Addr} {l : List Mrg} (h : Rd eM w p l) (hl : l.length ≤ 9223372036854775807) : Kd.C k35 w p (l.map toM).length (l.map toM) :=
  readsRow (E := eM) toM h hl (fun x => k35_mk w (toM x))
theorem kdS {w : World} {p : Option Addr} {l : List ByteArray} (h : Rd eS w p l) (hl : l.length ≤ 9223372036854775807) : Kd.C Kd.string w p l.length l := by
  have := readsRow (E := eS) (K := fun x cs => cs = [Value.string x]) id h hl (fun x => rfl)
  rwa [List.map_id] at this
theorem kdP' {w : World} {p : Option Addr} {l : List Spn} (h : Rd eP w p l) (hl : l.length ≤ 9223372036854775807) : Kd.C k94 w p (l.map toP).length (l.map toP) :=
  readsRow (E := eP) toP h hl (fun x => k94_mk w (toP x))
theorem rdM {l : List Mrg} {i : Nat} {x : Mrg} (h : l[i]? = some x) : rd_T35 (l.map toM) (i : Int) = toM x := by
  unfold rd_T35
  simp [List.getD_eq_getElem?_getD, h]
theorem rdS {l : List ByteArray} {i : Nat} {x : ByteArray} (h : l[i]? = some x) : rdOf ByteArray.empty l (i : Int) = x := by
  unfold rdOf
  simp [List.getD_eq_getElem?_getD, h]

theorem pWord (k : Nat) (ws : List ByteArray) (ms : List PMrg) (a b c : List PSpn) (id : Int) (hw : ws.length ≤ 1099511627776) (hid : (Lit.int .i64 id).wf = true) : tesseraref5_Word.f (k + 1) ws ms a b c id = some (wordOf ws id) := by
  have hb : -9223372036854775808 ≤ id ∧ id ≤ 9223372036854775807 := by simpa [Lit.wf, IntKind.min, IntKind.max, IntKind.signed, IntKind.bits] using hid
  unfold tesseraref5_Word.f
  by_cases h0 : id ≥ 0
  · rw [if_pos h0]
    rw [tesseraref5_Word.j0]
    by_cases h1 : id < 256
    · rw [if_pos (by simpa using h1), wordOf_byte h0 h1]
      have : id % 256 = id := by omega
      rw [this]
      rfl
    · rw [if_neg (by simpa using h1), if_pos (by omega)]
      have hw1 : wrap64 (id - 256) = id - 256 := by unfold wrap64; omega
      rw [hw1]
      by_cases h2 : id - 256 < (ws.length : Int)
      · rw [if_pos h2, if_pos (by omega)]
        obtain ⟨i, hi⟩ : ∃ i : Nat, id = (i : Int) + 256 := ⟨(id - 256).toNat, by omega⟩
        subst hi
        have e := List.getElem?_eq_getElem (show i < ws.length by omega)
        rw [wordOf_word e, show (i : Int) + 256 - 256 = i by omega, rdS e]
      · rw [if_neg h2, wordOf_none (.inr (by omega))]
  · rw [if_neg h0]
    rw [tesseraref5_Word.j0, if_neg (by simp), if_neg (by omega), wordOf_none (.inl (by omega))]

theorem pMade_go (ws : List ByteArray) (ms : List Mrg) (a b c : List PSpn) (n : Nat) (id : Int) (hn : n ≤ ms.length) (hm : ms.length ≤ 1099511627776) : ∀ (m i k : Nat), n - i = m → i ≤ n → m + 1 ≤ k → (∀ y ∈ ms.take i, y.i ≠ id) →
    tesseraref5_made.l0 k n id i ws (ms.map toM) a b c = some (decide (256 ≤ id) && isId (ms.take n) id) := by
  intro m
  induction m with
  | zero =>
    intro i k hi hin hk hno
    obtain ⟨k, rfl⟩ : ∃ m, k = m + 1 := ⟨k - 1, by omega⟩
    obtain rfl : i = n := by omega
    rw [tesseraref5_made.l0, if_neg (by omega)]
    have : isId (ms.take i) id = false := by
      unfold isId
      rw [List.any_eq_false]
      intro y hy
      simpa using hno y hy
    rw [this, Bool.and_false]
  | succ m ih =>
    intro i k hi hin hk hno
    obtain ⟨k, rfl⟩ : ∃ m, k = m + 1 := ⟨k - 1, by omega⟩
    have e := List.getElem?_eq_getElem (show i < ms.length by omega)
    rw [tesseraref5_made.l0, if_pos (by omega), if_pos (by omega), if_pos (by rw [List.length_map]; omega), rdM e, w64 (by omega)]
    by_cases hc : ms[i].i = id
    · refine (if_pos hc).trans ?_
      have : isId (ms.take n) id = true := by
        unfold isId
        rw [List.any_eq_true]
        exact ⟨ms[i], by rw [List.mem_take_iff_getElem]; exact ⟨i, by omega, rfl⟩, by simpa using hc⟩
      rw [this, Bool.and_true]
    · refine (if_neg hc).trans ?_
      refine ih (i + 1) k (by omega) (by omega) (by omega) (fun y hy => ?_)
      rw [List.take_succ_eq_append_getElem (by omega)] at hy
      rcases List.mem_append.1 hy with hy | hy
      · exact hno y hy
      · simp at hy; rw [hy]; exact hc
theorem pMade (ws : List ByteArray) (ms : List Mrg) (a b c : List PSpn) (n : Nat) (id : Int) (hn : n ≤ ms.length) (hm : ms.length ≤ 1099511627776) (k : Nat) (hk : n + 2 ≤ k) :
    tesseraref5_made.f k ws (ms.map toM) a b c n id = some (madeB (ms.take n) id) := by
  obtain ⟨k, rfl⟩ : ∃ m, k = m + 1 := ⟨k - 1, by omega⟩
  unfold tesseraref5_made.f madeB
  have G := pMade_go ws ms a b c n id hn hm n 0 k (by omega) (by omega) (by omega) (by simp)
  by_cases h0 : id ≥ 0
  · rw [if_pos h0, tesseraref5_made.j0]
    by_cases h1 : id < 256
    · rw [if_pos (by simpa using h1)]
      have h0' : 0 ≤ id := h0
      simp [h0', h1]
    · rw [if_neg (by simpa using h1)]
      refine G.trans ?_
      rw [decide_eq_false h1, Bool.and_false, Bool.false_or]
  · rw [if_neg h0, tesseraref5_made.j0, if_neg (by simp)]
    refine G.trans ?_
    rw [decide_eq_false (show ¬ 0 ≤ id from h0), Bool.false_and, Bool.false_or]

/-! ### words -/
theorem pWords_in (ws : List ByteArray) (ms : List PMrg) (a b c : List PSpn) (hl : ws.length ≤ 1099511627776) (i : Nat) (s : ByteArray) (hs : ws[i]? = some s) (R : Int × Int × Int) : ∀ (m j k : Nat), i - j = m → j ≤ i → m + 1 ≤ k → (∀ t ∈ ws.take j, t ≠ s) →
    (∀ k', k' + m + 1 = k → tesseraref5_words.l0 k' ((i + 1 : Nat) : Int) ws ms a b c = some R) → tesseraref5_words.l1 k i j ws ms a b c = some (if had s (ws.take i) = true then (22, 4, (i : Int)) else R) := by
  have hi := (List.getElem?_eq_some_iff.1 hs).1
  intro m
  induction m with
  | zero =>
    intro j k hj hji hk hno hR
    obtain ⟨k, rfl⟩ : ∃ m, k = m + 1 := ⟨k - 1, by omega⟩
    obtain rfl : j = i := by omega
    rw [tesseraref5_words.l1, if_neg (by omega), w64 (by omega), hR k (by omega), if_neg (fun h => hno s (had_iff.1 h) rfl)]
  | succ m ih =>
    intro j k hj hji hk hno hR
    obtain ⟨k, rfl⟩ : ∃ m, k = m + 1 := ⟨k - 1, by omega⟩
    have e := List.getElem?_eq_getElem (show j < ws.length by omega)
    rw [tesseraref5_words.l1, if_pos (by omega), if_pos (by omega), if_pos (by omega), if_pos (by omega), if_pos (by omega), rdS e, rdS hs, w64 (by omega)]
    by_cases hc : ws[j] = s
    · rw [if_pos (by rw [hc]), if_pos (had_iff.2 (by rw [List.mem_take_iff_getElem]; exact ⟨j, by omega, hc⟩))]
    · have hc2 : ¬ (ws[j].toList = s.toList) := fun h => hc (by
        rw [ByteArray.toList_eq, ByteArray.toList_eq] at h
        revert h
        generalize ws[j] = x
        intro h
        cases x; cases s
        simp at h
        rw [h])
      rw [if_neg hc2]
      refine ih (j + 1) k (by omega) (by omega) (by omega) (fun t ht => ?_) (fun k' hk' => hR k' (by omega))
      rw [List.take_succ_eq_append_getElem (by omega)] at ht
      rcases List.mem_append.1 ht with ht | ht
      · exact hno t ht
      · simp at ht; rw [ht]; exact hc
def faultW (r : Int × Int) : Int × Int × Int := if r.2 = 0 then (0, 0, 0) else (r.2, 4, r.1)
theorem pWords_go (ws : List ByteArray) (ms : List PMrg) (a b c : List PSpn) (hl : ws.length ≤ 1099511627776) (t : List ByteArray) : ∀ (i k : Nat), ws.drop i = t → i ≤ ws.length → t.length * (ws.length + 3) + 1 ≤ k →
    tesseraref5_words.l0 k (i : Int) ws ms a b c = some (faultW (wordsGo i (ws.take i) t)) := by
  induction t with
  | nil =>
    intro i k ht hil hk
    obtain ⟨k, rfl⟩ : ∃ m, k = m + 1 := ⟨k - 1, by omega⟩
    obtain rfl := drop_nil ht hil
    rw [tesseraref5_words.l0, if_neg (by omega)]
    rfl
  | cons s t ih =>
    intro i k ht hil hk
    obtain ⟨k, rfl⟩ : ∃ m, k = m + 2 := ⟨k - 2, by simp [Nat.succ_mul] at hk; omega⟩
    obtain ⟨hs, hlt, htl⟩ := drop_cons ht
    rw [List.length_cons, Nat.succ_mul] at hk
    have et : ws.take (i + 1) = ws.take i ++ [s] := by rw [List.take_succ_eq_append_getElem hlt]; congr 2; exact (List.getElem?_eq_some_iff.1 hs).2
    have step : ∀ v : Bool, v = decide (s.size < 2 ∨ 256 < s.size) → tesseraref5_words.j1 (k + 1) i v ws ms a b c = some (faultW (wordsGo i (ws.take i) (s :: t))) := by
      intro v hv
      rw [tesseraref5_words.j1, wordsGo]
      by_cases hc : s.size < 2 ∨ 256 < s.size
      · rw [if_pos (by rw [hv]; exact decide_eq_true hc), if_pos hc]
        rfl
      · rw [if_neg (by rw [hv, decide_eq_false hc]; decide), if_neg hc]
        have := pWords_in ws ms a b c hl i s hs (faultW (wordsGo (i + 1) (ws.take (i + 1)) t)) i 0 k (by omega) (by omega) (by omega) (by simp) (fun k' hk' => ih (i + 1) k' htl (by omega) (by omega))
        refine this.trans ?_
        rw [et]
        by_cases hh : had s (ws.take i) = true
        · rw [if_pos hh, if_pos hh]; rfl
        · rw [if_neg hh, if_neg hh]
    rw [tesseraref5_words.l0, if_pos (by omega), if_pos (by omega), rdS hs]
    by_cases hc : (s.size : Int) < 2
    · rw [if_pos hc]
      exact step _ (decide_eq_true (.inl (by omega))).symm
    · rw [if_neg hc]
      refine step _ ?_
      by_cases hd : (s.size : Int) > 256
      · rw [decide_eq_true hd, decide_eq_true (.inr (by omega))]
      · rw [decide_eq_false hd, decide_eq_false (by omega)]
theorem pWords (ws : List ByteArray) (ms : List PMrg) (a b c : List PSpn) (hl : ws.length ≤ 1099511627776) : ∃ k, tesseraref5_words.f k ws ms a b c = some (faultW (wordsGo 0 [] ws)) :=
  ⟨_, pWords_go ws ms a b c hl ws 0 _ rfl (Nat.zero_le _) (Nat.le_refl _)⟩
end Go.Proofs.Ytbepmbihonnkaaa.Sl

/- What the printed tesseraref4.Check computes; its contract. -/
namespace Go.Proofs.Ytbepmbihonnkaaa.Sl
open Go.Proofs.Ytbepmbihonnkaaa.Lib hiding mx mn
open Go.RowKit Go.Proofs.Ytbepmbihonnkaaa.PPruneDown Go.Proofs.YtbepmbihonnkaaaW.PrintWords Go.Proofs.YtbepmbihonnkaaaW.PrintLast Go.Proofs.YtbepmbihonnkaaaW.PrintMore
set_option linter.unusedVariables false
set_option linter.unusedSimpArgs false

theorem wr1 : wrap64 (0 + 1) = 1 := by unfold wrap64; omega
theorem wr2 : wrap64 (1 + 1) = 2 := by unfold wrap64; omega
theorem wr3 : wrap64 (2 + 1) = 3 := by unfold wrap64; omega
theorem kmn_min (x y : Int) : min x y = if y < x then y else x := by split <;> omega
theorem pCheck4 (ls ns ss : List Spn) (N : Nat) (hN : 800000 ≤ N) : tesseraref4_Check.f (N + 20) (ls.map toP) (ns.map toP) (ss.map toP) = some (check4 ls ns ss) := by
  have r0 : rd_L5 [ls.map toP, ns.map toP, ss.map toP] 0 = ls.map toP := rfl
  have r1 : rd_L5 [ls.map toP, ns.map toP, ss.map toP] 1 = ns.map toP := rfl
  have r2 : rd_L5 [ls.map toP, ns.map toP, ss.map toP] 2 = ss.map toP := rfl
  have hl : (([ls.map toP, ns.map toP, ss.map toP] : List (List PSpn)).length : Int) = 3 := rfl
  unfold tesseraref4_Check.f check4
  generalize hX : ([ls.map toP, ns.map toP, ss.map toP] : List (List PSpn)) = X at r0 r1 r2 hl ⊢
  rw [tesseraref4_Check.l0, if_pos (by decide), if_pos (by decide), if_pos (by rw [hl]; decide), r0, List.length_map]
  by_cases h0 : 512 < ls.length
  · rw [if_pos (by omega), if_pos h0, wr1]
  rw [if_neg (by omega), if_neg h0, wr1]
  rw [tesseraref4_Check.l0, if_pos (by decide), if_pos (by decide), if_pos (by rw [hl]; decide), r1, List.length_map]
  by_cases h1 : 512 < ns.length
  · rw [if_pos (by omega), if_pos h1, wr2]
  rw [if_neg (by omega), if_neg h1, wr2]
  rw [tesseraref4_Check.l0, if_pos (by decide), if_pos (by decide), if_pos (by rw [hl]; decide), r2, List.length_map]
  by_cases h2 : 512 < ss.length
  · rw [if_pos (by omega), if_pos h2, wr3]
  rw [if_neg (by omega), if_neg h2, wr3]
  rw [tesseraref4_Check.l0, if_neg (by decide)]
  -- right
  rw [tesseraref4_Check.l1, if_pos (by decide), if_pos (by decide), if_pos (by rw [hl]; decide), r0, pRefRight ls (by omega) _ (by omega), Option.bind_some]
  by_cases h3 : (right ls).2 = 0
  rotate_left
  · rw [if_neg h3, if_pos h3, wr1]
  rw [if_pos h3, if_neg (Decidable.not_not.2 h3), wr1]
  rw [tesseraref4_Check.l1, if_pos (by decide), if_pos (by decide), if_pos (by rw [hl]; decide), r1, pRefRight ns (by omega) _ (by omega), Option.bind_some]
  by_cases h4 : (right ns).2 = 0
  rotate_left
  · rw [if_neg h4, if_pos h4, wr2]
  rw [if_pos h4, if_neg (Decidable.not_not.2 h4), wr2]
  rw [tesseraref4_Check.l1, if_pos (by decide), if_pos (by decide), if_pos (by rw [hl]; decide), r2, pRefRight ss (by omega) _ (by omega), Option.bind_some]
  by_cases h5 : (right ss).2 = 0
  rotate_left
  · rw [if_neg h5, if_pos h5, wr3]
  rw [if_pos h5, if_neg (Decidable.not_not.2 h5), wr3]
  rw [tesseraref4_Check.l1, if_neg (by decide)]
  -- over
  have o0 := right_ok h3
  have o1 := right_ok h4
  have o2 := right_ok h5
  have hm : ∀ a b : List Spn, a.length ≤ 512 → b.length ≤ 512 → a.length * (3 * b.length + 2) + 1 ≤ 800000 := fun a b ha hb => by
    have := Nat.mul_le_mul ha (show 3 * b.length + 2 ≤ 1538 by omega)
    omega
  rw [tesseraref4_Check.l2, if_pos (by decide)]
  rw [tesseraref4_Check.l3, if_pos (by decide), if_pos (by decide), if_pos (by rw [hl]; decide), if_pos (by decide), if_pos (by rw [hl]; decide), r1, r0, pMeet ns ls o1 o0 (by omega) (by omega) _ (by have := hm ns ls (by omega) (by omega); omega), Option.bind_some]
  rcases meet_cases ns ls with m1 | ⟨k1, hk1, m1⟩
  rotate_left
  · rw [m1, if_pos rfl, if_pos (by decide), wr1, tesseraref4_Check.l3, if_neg (by decide), if_pos (by show (0 : Int) ≤ k1; omega), wr2, if_pos rfl]
  rw [m1, if_neg (by decide), wr1, tesseraref4_Check.l3, if_neg (by decide), if_neg (by decide), wr2, if_neg (by decide)]
  rw [tesseraref4_Check.l2, if_pos (by decide)]
  rw [tesseraref4_Check.l3, if_pos (by decide), if_pos (by decide), if_pos (by rw [hl]; decide), if_pos (by decide), if_pos (by rw [hl]; decide), r2, r0, pMeet ss ls o2 o0 (by omega) (by omega) _ (by have := hm ss ls (by omega) (by omega); omega), Option.bind_some]
  rcases meet_cases ss ls with m2 | ⟨k2, hk2, m2⟩
  · rw [m2, if_neg (by decide), wr1]
    rw [tesseraref4_Check.l3, if_pos (by decide), if_pos (by decide), if_pos (by rw [hl]; decide), if_pos (by decide), if_pos (by rw [hl]; decide), r2, r1, pMeet ss ns o2 o1 (by omega) (by omega) _ (by have := hm ss ns (by omega) (by omega); omega), Option.bind_some]
    rcases meet_cases ss ns with m3 | ⟨k3, hk3, m3⟩
    · rw [m3, if_neg (by decide), wr2, tesseraref4_Check.l3, if_neg (by decide), if_neg (by decide), wr3, if_neg (by decide), if_neg (by decide)]
      rw [tesseraref4_Check.l2, if_neg (by decide), pIn ss 32 (by omega) _ (by omega), pIn ls 39 (by omega) _ (by omega), pIn ns 39 (by omega) _ (by omega), pIn ss 39 (by omega) _ (by omega)]
      simp only [Option.bind_some]
      cases inn ss 32 <;> cases inn ls 39 <;> cases inn ns 39 <;> cases inn ss 39 <;> rfl
    · rw [m3, if_pos rfl, if_pos (by decide), wr2, tesseraref4_Check.l3, if_neg (by decide), if_pos (by show (0 : Int) ≤ k3; omega), wr3, if_neg (by decide), if_pos rfl]
  · rw [m2, if_pos rfl, if_pos (by decide), wr1]
    rw [tesseraref4_Check.l3, if_pos (by decide), if_pos (by decide), if_pos (by rw [hl]; decide), if_pos (by decide), if_pos (by rw [hl]; decide), r2, r1, pMeet ss ns o2 o1 (by omega) (by omega) _ (by have := hm ss ns (by omega) (by omega); omega), Option.bind_some]
    rcases meet_cases ss ns with m3 | ⟨k3, hk3, m3⟩
    · rw [m3, if_neg (by decide), wr2, tesseraref4_Check.l3, if_neg (by decide), if_pos (by show (0 : Int) ≤ k2; omega), wr3, if_pos rfl, if_neg (by decide)]
    · rw [m3, if_pos rfl, if_neg (by show ¬ ((k2 : Int) < 0); omega), if_pos rfl, if_pos rfl]
      show (if (k3 : Int) < (k2 : Int) then _ else _) = some (16, 3, min (k2 : Int) (k3 : Int))
      rw [kmn_min]
      by_cases hc : (k3 : Int) < (k2 : Int)
      · rw [if_pos hc, if_pos hc, wr2, tesseraref4_Check.l3, if_neg (by decide), if_pos (by show (0 : Int) ≤ k3; omega), wr3]
      · rw [if_neg hc, if_neg hc, wr2, tesseraref4_Check.l3, if_neg (by decide), if_pos (by show (0 : Int) ≤ k2; omega), wr3]
end Go.Proofs.Ytbepmbihonnkaaa.Sl

/- The document's chapters 4, 5 over a model's data: contracts. -/
namespace Go.Proofs.Ytbepmbihonnkaaa.Sl
open Go.Proofs.Ytbepmbihonnkaaa.Lib
open Go.RowKit
set_option linter.unusedVariables false
set_option linter.unusedSimpArgs false

section
open Go.Proofs.YtbepmbihonnkaaaW.PrintWords (Kd.V Kd.F Foot)
theorem kdV {w : World} {p : Option Addr} {c : Nat} {l : List Spn} (h : Rd eP w p l) (hc : l.length ≤ c) (hl : l.length ≤ 9223372036854775807) (e base : Nat) : Go.Proofs.YtbepmbihonnkaaaW.PrintWords.Kd.V PPruneDown.k94 e w base (fun k => blkOf p = some k) (.slice p (l.map toP).length c) (l.map toP) := by
  refine ⟨p, c, rfl, by simpa using hc, fun W' hW => ?_⟩
  refine kdP' (fun i x hi => ?_) hl
  obtain ⟨b, o, hp, hb, hcell⟩ := h i x hi
  have hk := hW b (by rw [hp]; rfl) hb
  refine ⟨b, o, hp, ?_, fun j hj => ?_⟩
  · rw [Array.getElem?_eq_getElem hb] at hk
    exact (Array.getElem?_eq_some_iff.1 hk).1
  · rw [← hcell j hj]
    exact World.cell?_of_block hk
end
theorem ref4_any (w : World) (p0 p1 p2 : Option Addr) (c0 c1 c2 : Nat) (ls ns ss : List Spn) (r0 : Rd eP w p0 ls) (r1 : Rd eP w p1 ns) (r2 : Rd eP w p2 ss) (k0 : ls.length ≤ c0) (k1 : ns.length ≤ c1) (k2 : ss.length ≤ c2)
    (b0 : ls.length * 8 ≤ 140737488351232) (b1 : ns.length * 8 ≤ 140737488351232) (b2 : ss.length * 8 ≤ 140737488351232) :
    Calls Try.prog 58 #[.slice p0 ls.length c0, .slice p1 ns.length c1, .slice p2 ss.length c2] w fun e w' => e = .returned (.agg #[.int .i64 (check4 ls ns ss).1, .int .i64 (check4 ls ns ss).2.1, .int .i64 (check4 ls ns ss).2.2]) ∧ Ext (fun _ => False) w w' := by
  have := PPruneDown.tesseraref4_Check.calls (800000 + 20) (fun k => blkOf p0 = some k) p0 c0 (ls.map toP) (fun k => blkOf p1 = some k) p1 c1 (ns.map toP) (fun k => blkOf p2 = some k) p2 c2 (ss.map toP) _ _ _ w
    (kdV r0 k0 (by omega) _ _) (kdV r1 k1 (by omega) _ _) (kdV r2 k2 (by omega) _ _) (pCheck4 ls ns ss 800000 (Nat.le_refl _))
  rw [List.length_map, List.length_map, List.length_map] at this
  exact this.mono fun e w' ⟨h1, h2⟩ => ⟨h1, Ext.of_below h2⟩
theorem ref5word_any (w : World) (L : Pl) (d : Dat) (id : Int) (h : DR w L d) (hid : (Lit.int .i64 id).wf = true) (hw : d.ws.length ≤ 1099511627776) :
    Calls Try.prog 19 #[.agg #[.slice L.p0 d.ws.length L.c0, .slice L.p1 d.ms.length L.c1, .slice L.p2 d.ls.length L.c2, .slice L.p3 d.ns.length L.c3, .slice L.p4 d.ss.length L.c4], .int .i64 id] w fun e w' => e = .returned (.tuple #[.string (wordOf d.ws id).1, .bool (wordOf d.ws id).2]) ∧ Ext (fun _ => False) w w' := by
  have b1 := h.b1
  have b2 := h.b2
  have b3 := h.b3
  have b4 := h.b4
  have := PPruneDown.tesseraref5_Word.calls 1 L.p0 L.c0 d.ws L.p1 L.c1 (d.ms.map toM) L.p2 L.c2 (d.ls.map toP) L.p3 L.c3 (d.ns.map toP) L.p4 L.c4 (d.ss.map toP) id (wordOf d.ws id).1 (wordOf d.ws id).2 w (kdS h.r0 (by omega)) h.k0 (kdM h.r1 (by omega)) (by simpa using h.k1) (kdP' h.r2 (by omega)) (by simpa using h.k2) (kdP' h.r3 (by omega)) (by simpa using h.k3) (kdP' h.r4 (by omega)) (by simpa using h.k4) (pWord 0 d.ws _ _ _ _ id hw hid)
  simp only [List.length_map] at this
  exact this.mono fun e w' ⟨h1, h2⟩ => ⟨h1, Ext.of_below h2⟩
theorem ref5made_any (w : World) (L : Pl) (d : Dat) (n : Nat) (id : Int) (h : DR w L d) (hn : n ≤ d.ms.length) (hw : d.ms.length ≤ 1099511627776) :
    Calls Try.prog 81 #[.agg #[.slice L.p0 d.ws.length L.c0, .slice L.p1 d.ms.length L.c1, .slice L.p2 d.ls.length L.c2, .slice L.p3 d.ns.length L.c3, .slice L.p4 d.ss.length L.c4], .int .i64 n, .int .i64 id] w fun e w' => e = .returned (.bool (madeB (d.ms.take n) id)) ∧ Ext (fun _ => False) w w' := by
  have b0 := h.b0
  have b2 := h.b2
  have b3 := h.b3
  have b4 := h.b4
  have := PPruneDown.tesseraref5_made.calls (n + 2) L.p0 L.c0 d.ws L.p1 L.c1 (d.ms.map toM) L.p2 L.c2 (d.ls.map toP) L.p3 L.c3 (d.ns.map toP) L.p4 L.c4 (d.ss.map toP) n id (madeB (d.ms.take n) id) w (kdS h.r0 (by omega)) h.k0 (kdM h.r1 (by omega)) (by simpa using h.k1) (kdP' h.r2 (by omega)) (by simpa using h.k2) (kdP' h.r3 (by omega)) (by simpa using h.k3) (kdP' h.r4 (by omega)) (by simpa using h.k4) (pMade d.ws d.ms _ _ _ n id hn hw _ (Nat.le_refl _))
  simp only [List.length_map] at this
  exact this.mono fun e w' ⟨h1, h2⟩ => ⟨h1, Ext.of_below h2⟩
theorem ref5words_any (w : World) (L : Pl) (d : Dat) (h : DR w L d) (hw : d.ws.length ≤ 1099511627776) :
    Calls Try.prog 59 #[.agg #[.slice L.p0 d.ws.length L.c0, .slice L.p1 d.ms.length L.c1, .slice L.p2 d.ls.length L.c2, .slice L.p3 d.ns.length L.c3, .slice L.p4 d.ss.length L.c4]] w fun e w' => e = .returned (.agg #[.int .i64 (faultW (wordsGo 0 [] d.ws)).1, .int .i64 (faultW (wordsGo 0 [] d.ws)).2.1, .int .i64 (faultW (wordsGo 0 [] d.ws)).2.2]) ∧ Ext (fun _ => False) w w' := by
  have b1 := h.b1
  have b2 := h.b2
  have b3 := h.b3
  have b4 := h.b4
  obtain ⟨k, hk⟩ := pWords d.ws (d.ms.map toM) (d.ls.map toP) (d.ns.map toP) (d.ss.map toP) hw
  have := PPruneDown.tesseraref5_words.calls k L.p0 L.c0 d.ws L.p1 L.c1 (d.ms.map toM) L.p2 L.c2 (d.ls.map toP) L.p3 L.c3 (d.ns.map toP) L.p4 L.c4 (d.ss.map toP) _ _ _ w (kdS h.r0 (by omega)) h.k0 (kdM h.r1 (by omega)) (by simpa using h.k1) (kdP' h.r2 (by omega)) (by simpa using h.k2) (kdP' h.r3 (by omega)) (by simpa using h.k3) (kdP' h.r4 (by omega)) (by simpa using h.k4) hk
  simp only [List.length_map] at this
  exact this.mono fun e w' ⟨h1, h2⟩ => ⟨h1, Ext.of_below h2⟩
/-- More merges than are worked out here. -/
def large (d : Dat) : Bool := decide (300 < d.ms.length) && decide (d.ms.length ≤ 4096)
theorem large_any (w : World) (L : Pl) (d : Dat) (h : DR w L d) :
    Calls Try.prog 36 #[.agg #[.slice L.p0 d.ws.length L.c0, .slice L.p1 d.ms.length L.c1, .slice L.p2 d.ls.length L.c2, .slice L.p3 d.ns.length L.c3, .slice L.p4 d.ss.length L.c4]] w fun e w' => e = .returned (.bool (large d)) ∧ Ext (fun _ => False) w w' := by
  have b0 := h.b0
  have b1 := h.b1
  have b2 := h.b2
  have b3 := h.b3
  have b4 := h.b4
  have hf : PPruneDown.tesserakeep_Large.f d.ws (d.ms.map toM) (d.ls.map toP) (d.ns.map toP) (d.ss.map toP) = some (large d) := by
    unfold PPruneDown.tesserakeep_Large.f large
    rw [List.length_map]
    by_cases h1 : (d.ms.length : Int) > 300
    · rw [if_pos h1, decide_eq_true (show 300 < d.ms.length by omega), Bool.true_and]
      congr 1
      by_cases h2 : d.ms.length ≤ 4096
      · rw [decide_eq_true h2, decide_eq_true (by omega)]
      · rw [decide_eq_false h2, decide_eq_false (by omega)]
    · rw [if_neg h1, decide_eq_false (show ¬ 300 < d.ms.length by omega), Bool.false_and]
  have := PPruneDown.tesserakeep_Large.calls L.p0 L.c0 d.ws L.p1 L.c1 (d.ms.map toM) L.p2 L.c2 (d.ls.map toP) L.p3 L.c3 (d.ns.map toP) L.p4 L.c4 (d.ss.map toP) _ w (kdS h.r0 (by omega)) h.k0 (kdM h.r1 (by omega)) (by simpa using h.k1) (kdP' h.r2 (by omega)) (by simpa using h.k2) (kdP' h.r3 (by omega)) (by simpa using h.k3) (kdP' h.r4 (by omega)) (by simpa using h.k4) hf
  simp only [List.length_map] at this
  exact this.mono fun e w' ⟨h1, h2⟩ => ⟨h1, Ext.of_below h2⟩
end Go.Proofs.Ytbepmbihonnkaaa.Sl
