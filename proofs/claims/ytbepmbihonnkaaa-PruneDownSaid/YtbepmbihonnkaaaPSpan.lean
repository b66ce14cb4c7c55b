/- What the printed functions on spans compute. -/
import Derived.Test.YtbepmbihonnkaaaSpanPure
import Derived.Test.YtbepmbihonnkaaaPPruneDownx1
import Derived.Test.YtbepmbihonnkaaaPPruneDownx2
import Derived.Test.YtbepmbihonnkaaaPPruneDownx3
namespace Go.Proofs.Ytbepmbihonnkaaa.Sl
open Go.Proofs.Ytbepmbihonnkaaa.Lib hiding mx mn
open Go.RowKit Go.Proofs.Ytbepmbihonnkaaa.PPruneDown Go.Proofs.YtbepmbihonnkaaaW.PrintWords Go.Proofs.YtbepmbihonnkaaaW.PrintLast Go.Proofs.YtbepmbihonnkaaaW.PrintMore
set_option linter.unusedVariables false
set_option linter.unusedSimpArgs false

abbrev PSpn := S94
def toP (x : Spn) : PSpn := ⟨x.lo, x.hi⟩
theorem readsRow {α β : Type} {E : En α} {K : β → List Value → Prop} {w : World} {p : Option Addr} {l : List α} (f : α → β) (h : Rd E w p l) (hl : l.length ≤ 9223372036854775807) (hK : ∀ x, K (f x) (E.enc x)) : ReadsRow K E.sz w p (l.map f).length (l.map f) := by
  refine ⟨rfl, by simpa using hl, fun h0 => ?_⟩
  rw [List.length_map] at h0
  obtain ⟨b, o, rfl, hb, _⟩ := h 0 _ (List.getElem?_eq_getElem h0)
  refine ⟨_, rfl, fun j q hq => ?_⟩
  rw [List.getElem?_map, Option.map_eq_some_iff] at hq
  obtain ⟨x, hx, rfl⟩ := hq
  obtain ⟨b', o', hp, hb', hc⟩ := h j x hx
  obtain ⟨rfl, rfl, _⟩ : b = b' ∧ o = o' ∧ True := by simpa using hp
  refine ⟨E.enc x, E.len x, hK x, fun i u hu => ?_⟩
  have hi : i < E.sz := by
    have := (List.getElem?_eq_some_iff.1 hu).1
    rwa [E.len] at this
  rw [Addr.add_lit, ← Nat.add_assoc, hc i hi, hu]
theorem kdP {w : World} {p : Option Addr} {l : List Spn} (h : Rd eP w p l) (hl : l.length ≤ 1099511627776) : Kd.C k94 w p (l.map toP).length (l.map toP) :=
  readsRow (E := eP) toP h (by omega) (fun x => k94_mk w (toP x))
theorem rdP {l : List Spn} {i : Nat} {x : Spn} (h : l[i]? = some x) : rd_T94 (l.map toP) (i : Int) = toP x := by
  unfold rd_T94
  simp [List.getD_eq_getElem?_getD, h]
theorem w64 {i : Nat} (h : i ≤ 1099511627777) : wrap64 ((i : Int) + 1) = ((i + 1 : Nat) : Int) := by unfold wrap64; omega
theorem w64p {i : Nat} (h : i ≤ 1099511627777) (h0 : 0 < i) : wrap64 ((i : Int) - 1) = ((i - 1 : Nat) : Int) := by unfold wrap64; omega

theorem pValid (k : Nat) (a : Int) : utf8_ValidRune.f (k + 1) a = some (valid a) := by
  unfold utf8_ValidRune.f valid
  by_cases h : 0 ≤ a
  · rw [if_pos h]
    simp only [utf8_ValidRune.j0]
    by_cases h1 : a < 55296
    · simp [h, h1]; omega
    · by_cases h2 : 57343 < a
      · by_cases h3 : a ≤ 1114111 <;> simp [h, h1, h2, h3]
      · simp [h, h1, h2]
  · rw [if_neg h]
    simp only [utf8_ValidRune.j0]
    by_cases h2 : 57343 < a
    · omega
    · simp [h, h2]
theorem pRune (a : Int) : tesseraref3_Rune.f a = some (valid a) := by
  unfold tesseraref3_Rune.f valid
  by_cases h : a ≥ 0
  · have h' : 0 ≤ a := h
    by_cases h1 : a ≤ 1114111 <;> by_cases h2 : a < 55296 <;> simp [h, h', h1, h2]
  · have h' : ¬ 0 ≤ a := h
    simp [h, h']
theorem pSize {lo hi : Int} (h1 : valid lo = true) (h2 : valid hi = true) (h : lo ≤ hi) : ∃ n, 0 < n ∧ spans_Size.f 2 [(⟨lo, hi⟩ : PSpn)] = some n := by
  obtain ⟨a1, a2, a3⟩ := valid_iff.1 h1
  obtain ⟨b1, b2, b3⟩ := valid_iff.1 h2
  have he : spans_Size.f 2 [(⟨lo, hi⟩ : PSpn)] = some (wrap64 (0 + (wrap64 ((wrap64 ((wrap64 (wrap32 (hi - lo))) + 1)) - (mx 0 (wrap64 ((wrap64 (wrap32 ((mn hi 57343) - (mx lo 55296)))) + 1))))))) := by
    unfold spans_Size.f
    have hc : spans_cut.f lo hi = some (lo, hi, true) := by
      unfold spans_cut.f mx mn
      rw [if_neg (by omega), if_neg (by omega)]
      simp [h]
    have hr : rd_T94 [(⟨lo, hi⟩ : PSpn)] 0 = ⟨lo, hi⟩ := rfl
    have hw1 : wrap64 (0 + 1) = 1 := by unfold wrap64; omega
    simp only [spans_Size.l0, hr, hc, Option.bind_some, hw1, List.length_cons, List.length_nil]
    rw [if_pos (by decide), if_pos (by decide), if_pos (by decide), if_pos trivial, if_neg (by decide)]
  refine ⟨_, ?_, he⟩
  have e1 : wrap32 (hi - lo) = hi - lo := by unfold wrap32; omega
  have e2 : wrap32 (mn hi 57343 - mx lo 55296) = mn hi 57343 - mx lo 55296 := by unfold wrap32 mn mx; split <;> split <;> omega
  rw [e1, e2]
  have e3 : wrap64 (hi - lo) = hi - lo := by unfold wrap64; omega
  have e4 : wrap64 (mn hi 57343 - mx lo 55296) = mn hi 57343 - mx lo 55296 := by unfold wrap64 mn mx; split <;> split <;> omega
  rw [e3, e4]
  unfold mx mn wrap64
  split <;> split <;> split <;> omega
theorem pRight_go (l : List Spn) (hl : l.length ≤ 1099511627776) (t : List Spn) : ∀ (i : Nat) (prev : Option Int) (k : Nat), l.drop i = t → i ≤ l.length → prev = (if i = 0 then none else (l[i - 1]?).map (·.hi)) → 2 * t.length + 1 ≤ k →
    spans_Right.l0 k (l.map toP) (l.map toP) (l.length : Int) i = some (rightGo i prev t) := by
  induction t with
  | nil =>
    intro i prev k ht hil hp hk
    obtain ⟨k, rfl⟩ : ∃ m, k = m + 1 := ⟨k - 1, by omega⟩
    have : i = l.length := by have := congrArg List.length ht; simp at this; omega
    subst this
    simp only [spans_Right.l0, rightGo]
    rw [if_neg (by omega)]
  | cons x t ih =>
    intro i prev k ht hil hp hk
    obtain ⟨k, rfl⟩ : ∃ m, k = m + 3 := ⟨k - 3, by simp at hk; omega⟩
    have hx : l[i]? = some x := by
      have := congrArg (fun z => z[0]?) ht
      simpa using this
    have hlt : i < l.length := (List.getElem?_eq_some_iff.1 hx).1
    have htl : l.drop (i + 1) = t := by
      have := congrArg List.tail ht
      simpa using this
    have IH := ih (i + 1) (some x.hi) (k + 1) htl (by omega) (by simp [hx]) (by simp at hk; omega)
    rw [spans_Right.l0, if_pos (by omega), if_pos (by omega), if_pos (by rw [List.length_map]; omega), rdP hx]
    simp only [pValid, Option.bind_some]
    show (if valid x.lo = true then _ else _) = _
    have step : ∀ b : Bool, b = !(valid x.lo && valid x.hi) → spans_Right.j1 (k + 2) (l.map toP) i (l.map toP) l.length i b x.lo x.hi = some (rightGo i prev (x :: t)) := by
      intro b hb
      rw [spans_Right.j1]
      unfold rightGo bad1
      by_cases hv : (valid x.lo && valid x.hi) = true
      · rw [if_neg (by rw [hb, hv]; decide), if_pos hv]
        by_cases hh : x.hi < x.lo
        · rw [if_pos hh, if_pos hh, if_neg (by decide)]
        · rw [if_neg hh, if_neg hh]
          by_cases h0 : i = 0
          · subst h0
            rw [if_pos rfl] at hp
            subst hp
            rw [if_neg (by simp), w64 (by omega)]
            exact IH
          · rw [if_neg h0] at hp
            have hy := List.getElem?_eq_getElem (show i - 1 < l.length by omega)
            rw [hy] at hp
            subst hp
            rw [if_pos (by omega), w64p (by omega) (by omega), if_pos (by omega), if_pos (by rw [List.length_map]; omega), rdP hy, w64 (by omega)]
            simp only [Option.map_some]
            by_cases hq : x.lo ≤ l[i - 1].hi
            · refine (if_pos hq).trans ?_
              rw [if_pos hq, if_neg (by decide)]
            · refine (if_neg hq).trans ?_
              rw [if_neg hq, if_pos rfl]
              exact IH
      · have hv' : (valid x.lo && valid x.hi) = false := by simpa using hv
        rw [if_pos (by rw [hb, hv']; rfl), if_neg hv, if_neg (by decide)]
    by_cases hv : valid x.lo = true
    · rw [if_pos hv]
      exact step _ (by rw [hv]; simp [toP])
    · rw [if_neg hv]
      exact step _ (by simp at hv; simp [hv])
theorem pRight (l : List Spn) (hl : l.length ≤ 1099511627776) : ∃ k, spans_Right.f k (l.map toP) = some (right l) := by
  refine ⟨2 * l.length + 1, ?_⟩
  have := pRight_go l hl l 0 none (2 * l.length + 1) rfl (Nat.zero_le _) rfl (Nat.le_refl _)
  unfold spans_Right.f
  rw [List.length_map]
  exact this

/-! ### the document's -/
theorem drop_cons {α : Type} {l : List α} {i : Nat} {x : α} {t : List α} (h : l.drop i = x :: t) : l[i]? = some x ∧ i < l.length ∧ l.drop (i + 1) = t := by
  have hx : l[i]? = some x := by
    have := congrArg (fun z => z[0]?) h
    simpa using this
  refine ⟨hx, (List.getElem?_eq_some_iff.1 hx).1, ?_⟩
  have := congrArg List.tail h
  simpa using this
theorem drop_nil {α : Type} {l : List α} {i : Nat} (h : l.drop i = []) (hi : i ≤ l.length) : i = l.length := by
  have := congrArg List.length h
  simp at this
  omega
theorem pRefRight_go (l : List Spn) (hl : l.length ≤ 1099511627776) (t : List Spn) : ∀ (i : Nat) (prev : Option Int) (k : Nat), l.drop i = t → i ≤ l.length → prev = (if i = 0 then none else (l[i - 1]?).map (·.hi)) → 2 * t.length + 1 ≤ k →
    tesseraref3_Right.l0 k (l.map toP) i = some (rightGo i prev t) := by
  induction t with
  | nil =>
    intro i prev k ht hil hp hk
    obtain ⟨k, rfl⟩ : ∃ m, k = m + 1 := ⟨k - 1, by omega⟩
    obtain rfl := drop_nil ht hil
    simp only [tesseraref3_Right.l0, rightGo]
    rw [if_neg (by rw [List.length_map]; omega)]
  | cons x t ih =>
    intro i prev k ht hil hp hk
    obtain ⟨k, rfl⟩ : ∃ m, k = m + 3 := ⟨k - 3, by simp at hk; omega⟩
    obtain ⟨hx, hlt, htl⟩ := drop_cons ht
    have IH := ih (i + 1) (some x.hi) (k + 1) htl (by omega) (by simp [hx]) (by simp at hk; omega)
    rw [tesseraref3_Right.l0, if_pos (by rw [List.length_map]; omega), if_pos (by omega), rdP hx]
    simp only [pRune, Option.bind_some]
    show (if valid x.lo = true then _ else _) = _
    have step : ∀ b : Bool, b = !(valid x.lo && valid x.hi) → tesseraref3_Right.j1 (k + 2) (l.map toP) i b = some (rightGo i prev (x :: t)) := by
      intro b hb
      rw [tesseraref3_Right.j1]
      unfold rightGo bad1
      by_cases hv : (valid x.lo && valid x.hi) = true
      · rw [if_neg (by rw [hb, hv]; decide), if_pos hv, if_pos (by omega), if_pos (by rw [List.length_map]; omega), rdP hx]
        by_cases hh : x.hi < x.lo
        · refine (if_pos hh).trans ?_
          rw [if_pos hh, if_neg (by decide)]
        · refine (if_neg hh).trans ?_
          rw [if_neg hh]
          by_cases h0 : i = 0
          · subst h0
            rw [if_pos rfl] at hp
            subst hp
            rw [if_neg (by simp), w64 (by omega)]
            exact IH
          · rw [if_neg h0] at hp
            have hy := List.getElem?_eq_getElem (show i - 1 < l.length by omega)
            rw [hy] at hp
            subst hp
            rw [if_pos (by omega), w64p (by omega) (by omega), if_pos (by omega), if_pos (by rw [List.length_map]; omega), rdP hy, w64 (by omega)]
            simp only [Option.map_some]
            by_cases hq : x.lo ≤ l[i - 1].hi
            · refine (if_pos hq).trans ?_
              rw [if_pos hq, if_neg (by decide)]
            · refine (if_neg hq).trans ?_
              rw [if_neg hq, if_pos rfl]
              exact IH
      · have hv' : (valid x.lo && valid x.hi) = false := by simpa using hv
        rw [if_pos (by rw [hb, hv']; rfl), if_neg hv, if_neg (by decide)]
    by_cases hv : valid x.lo = true
    · rw [if_pos hv]
      exact step _ (by rw [hv]; simp [toP])
    · rw [if_neg hv]
      exact step _ (by simp at hv; simp [hv])
theorem pRefRight (l : List Spn) (hl : l.length ≤ 1099511627776) : ∀ k, 2 * l.length + 1 ≤ k → tesseraref3_Right.f k (l.map toP) = some (right l) := fun k hk =>
  pRefRight_go l hl l 0 none k rfl (Nat.zero_le _) rfl hk
theorem pIn_go (l : List Spn) (r : Int) (hl : l.length ≤ 1099511627776) (t : List Spn) : ∀ (i : Nat) (k : Nat), l.drop i = t → i ≤ l.length → t.length + 1 ≤ k → tesseraref3_In.l0 k (l.map toP) r i = some (inn t r) := by
  induction t with
  | nil =>
    intro i k ht hil hk
    obtain ⟨k, rfl⟩ : ∃ m, k = m + 1 := ⟨k - 1, by omega⟩
    obtain rfl := drop_nil ht hil
    rw [tesseraref3_In.l0, if_neg (by rw [List.length_map]; omega)]
    simp [inn]
  | cons x t ih =>
    intro i k ht hil hk
    obtain ⟨k, rfl⟩ : ∃ m, k = m + 1 := ⟨k - 1, by omega⟩
    obtain ⟨hx, hlt, htl⟩ := drop_cons ht
    have IH := ih (i + 1) k htl (by omega) (by simp at hk; omega)
    rw [tesseraref3_In.l0, if_pos (by rw [List.length_map]; omega), if_pos (by omega), rdP hx, w64 (by omega), IH]
    simp only [pRune, Option.bind_some]
    unfold inn
    rw [List.any_cons]
    by_cases h1 : x.lo ≤ r
    · refine (if_pos h1).trans ?_
      by_cases h2 : r ≤ x.hi
      · refine (if_pos h2).trans ?_
        simp [h1, h2]
      · refine (if_neg h2).trans ?_
        simp [h2]
    · refine (if_neg h1).trans ?_
      simp [h1]
theorem pIn (l : List Spn) (r : Int) (hl : l.length ≤ 1099511627776) : ∀ k, l.length + 1 ≤ k → tesseraref3_In.f k (l.map toP) r = some (inn l r) := fun k hk => pIn_go l r hl l 0 k rfl (Nat.zero_le _) hk
/-- Both ends runes: the two touch. -/
def met (x y : Spn) : Bool := touch x y
theorem pMeet_in (a b : List Spn) (ha : ∀ x ∈ a, valid x.lo = true ∧ valid x.hi = true ∧ x.lo ≤ x.hi) (hb : ∀ x ∈ b, valid x.lo = true ∧ valid x.hi = true ∧ x.lo ≤ x.hi) (hbl : b.length ≤ 1099511627776) (i : Nat) (x : Spn) (hx : a[i]? = some x) (R : Int × Bool) (t : List Spn) :
    ∀ (j k : Nat), b.drop j = t → j ≤ b.length → 3 * t.length + 1 ≤ k → (∀ k', k' + 3 * t.length + 1 = k → tesseraref3_Meet.l0 k' (a.map toP) (b.map toP) (wrap64 ((i : Int) + 1)) = some R) →
      (∀ k', tesseraref3_Meet.l0 k' (a.map toP) (b.map toP) (wrap64 ((i : Int) + 1)) = some R → ∀ k'', k' ≤ k'' → tesseraref3_Meet.l0 k'' (a.map toP) (b.map toP) (wrap64 ((i : Int) + 1)) = some R) →
      tesseraref3_Meet.l1 k (a.map toP) (b.map toP) i j = some (if t.any (touch x) then ((i : Int), true) else R) := by
  have hxa := ha x (List.mem_of_getElem? hx)
  have hil : i < a.length := (List.getElem?_eq_some_iff.1 hx).1
  induction t with
  | nil =>
    intro j k ht hjl hk hR hM
    obtain ⟨k, rfl⟩ : ∃ m, k = m + 1 := ⟨k - 1, by omega⟩
    obtain rfl := drop_nil ht hjl
    rw [tesseraref3_Meet.l1, if_neg (by rw [List.length_map]; omega), hR k (by simp)]
    simp
  | cons y t ih =>
    intro j k ht hjl hk hR hM
    obtain ⟨k, rfl⟩ : ∃ m, k = m + 3 := ⟨k - 3, by simp at hk; omega⟩
    obtain ⟨hy, hlt, htl⟩ := drop_cons ht
    have hyb := hb y (List.mem_of_getElem? hy)
    have hR0 : tesseraref3_Meet.l0 (k + 2 - 3 * t.length - 3) (a.map toP) (b.map toP) (wrap64 ((i : Int) + 1)) = some R := hR _ (by simp at hk ⊢; omega)
    have IH := ih (j + 1) k htl (by omega) (by simp at hk; omega) (fun k' hk' => hM _ hR0 k' (by simp at hk; omega)) hM
    rw [tesseraref3_Meet.l1, if_pos (by rw [List.length_map]; omega), if_pos (by omega), if_pos (by rw [List.length_map]; omega), if_pos (by omega), rdP hx, rdP hy]
    have fin : ∀ lo hi : Int, (lo = x.lo ∨ lo = y.lo) → (hi = x.hi ∨ hi = y.hi) → x.lo ≤ lo → y.lo ≤ lo → hi ≤ x.hi → hi ≤ y.hi → tesseraref3_Meet.j3 (k + 1) (a.map toP) (b.map toP) i j lo hi = some (if (y :: t).any (touch x) then ((i : Int), true) else R) := by
      intro lo hi e1 e2 h1 h2 h3 h4
      rw [tesseraref3_Meet.j3, List.any_cons]
      by_cases hh : lo ≤ hi
      · have hv : valid lo = true := by rcases e1 with rfl | rfl; exact hxa.1; exact hyb.1
        have ht : touch x y = true := by simp [touch]; omega
        rw [if_pos hh, ht]
        simp [pRune, hv]
      · have ht : touch x y = false := by
          simp only [touch, Bool.and_eq_false_iff, decide_eq_false_iff_not]
          rcases e1 with rfl | rfl <;> rcases e2 with rfl | rfl <;> omega
        rw [if_neg hh, ht, w64 (by omega), IH]
        simp
    have mid : ∀ lo : Int, (lo = x.lo ∨ lo = y.lo) → x.lo ≤ lo → y.lo ≤ lo → tesseraref3_Meet.j2 (k + 2) (a.map toP) (b.map toP) i j lo x.hi = some (if (y :: t).any (touch x) then ((i : Int), true) else R) := by
      intro lo e1 h1 h2
      rw [tesseraref3_Meet.j2, if_pos (by omega), if_pos (by rw [List.length_map]; omega), rdP hy]
      by_cases hh : y.hi < x.hi
      · refine (if_pos hh).trans ?_
        exact fin lo y.hi e1 (.inr rfl) h1 h2 (by omega) (by omega)
      · refine (if_neg hh).trans ?_
        exact fin lo x.hi e1 (.inl rfl) h1 h2 (by omega) (by omega)
    by_cases hh : y.lo > x.lo
    · refine (if_pos hh).trans ?_
      exact mid y.lo (.inr rfl) (by omega) (by omega)
    · refine (if_neg hh).trans ?_
      exact mid x.lo (.inl rfl) (by omega) (by omega)
theorem meet_mono_le {a0 a1 : List PSpn} {i : Int} {R : Int × Bool} {k k' : Nat} (h : tesseraref3_Meet.l0 k a0 a1 i = some R) (hk : k ≤ k') : tesseraref3_Meet.l0 k' a0 a1 i = some R := by
  induction hk with
  | refl => exact h
  | step _ ih => exact (tesseraref3_Meet.mono_l _).1 _ _ _ _ ih
theorem pMeet_go (a b : List Spn) (ha : ∀ x ∈ a, valid x.lo = true ∧ valid x.hi = true ∧ x.lo ≤ x.hi) (hb : ∀ x ∈ b, valid x.lo = true ∧ valid x.hi = true ∧ x.lo ≤ x.hi) (hal : a.length ≤ 1099511627776) (hbl : b.length ≤ 1099511627776) (t : List Spn) :
    ∀ (i k : Nat), a.drop i = t → i ≤ a.length → t.length * (3 * b.length + 2) + 1 ≤ k → tesseraref3_Meet.l0 k (a.map toP) (b.map toP) i = some (firstGo (fun x => b.any (touch x)) i t) := by
  induction t with
  | nil =>
    intro i k ht hil hk
    obtain ⟨k, rfl⟩ : ∃ m, k = m + 1 := ⟨k - 1, by omega⟩
    obtain rfl := drop_nil ht hil
    rw [tesseraref3_Meet.l0, if_neg (by rw [List.length_map]; omega)]
    rfl
  | cons x t ih =>
    intro i k ht hil hk
    obtain ⟨k, rfl⟩ : ∃ m, k = m + 1 := ⟨k - 1, by omega⟩
    obtain ⟨hx, hlt, htl⟩ := drop_cons ht
    rw [List.length_cons, Nat.succ_mul] at hk
    rw [tesseraref3_Meet.l0, if_pos (by rw [List.length_map]; omega)]
    have hw := w64 (i := i) (by omega)
    have := pMeet_in a b ha hb hbl i x hx (firstGo (fun x => b.any (touch x)) (i + 1) t) b 0 k rfl (Nat.zero_le _) (by omega) (fun k' hk' => by rw [hw]; exact ih (i + 1) k' htl (by omega) (by omega)) (fun k' h k'' hk => meet_mono_le h hk)
    rw [show ((0 : Nat) : Int) = 0 from rfl] at this
    rw [this, firstGo]
theorem pMeet (a b : List Spn) (ha : Ok a) (hb : Ok b) (hal : a.length ≤ 1099511627776) (hbl : b.length ≤ 1099511627776) : ∀ k, a.length * (3 * b.length + 2) + 1 ≤ k → tesseraref3_Meet.f k (a.map toP) (b.map toP) = some (meet a b) := fun k hk =>
  pMeet_go a b ha.1 hb.1 hal hbl a 0 k rfl (Nat.zero_le _) hk
end Go.Proofs.Ytbepmbihonnkaaa.Sl
