/- Merged of FenP, BpeFen. -/
import Derived.Test.YtiminpcpnblppaaBpeInv
import Derived.Laws.Entries
import Derived.IntWalk
import Derived.Test.YtiminpcpnblppaaBpeMerge
/- A tree of partial sums, pure: the lowest bit of a number; what below and cut do. -/
namespace Go.Proofs.Ytiminpcpnblppaa.Bpe
open Go.RowKit Go.Proofs.Ytiminpcpnblppaa.Lib Go.Proofs.Ytiminpcpnblppaa.Sl Go.Proofs.Ytiminpcpnblppaa.Chain
set_option linter.unusedVariables false
set_option linter.unusedSimpArgs false

theorem bit_and (a b x y : Nat) (hx : x < 2) (hy : y < 2) : (2 * a + x) &&& (2 * b + y) = 2 * (a &&& b) + (x &&& y) := by
  have h1 := @Nat.and_div_two (2 * a + x) (2 * b + y)
  have h2 := @Nat.and_mod_two_pow (2 * a + x) (2 * b + y) 1
  rw [show (2 * a + x) / 2 = a by omega, show (2 * b + y) / 2 = b by omega] at h1
  rw [Nat.pow_one, show (2 * a + x) % 2 = x by omega, show (2 * b + y) % 2 = y by omega] at h2
  omega
theorem comp_and : ∀ (w q : Nat), q < 2 ^ w → q &&& (2 ^ w - 1 - q) = 0 := by
  intro w
  induction w with
  | zero =>
    intro q h
    have hq : q = 0 := by simpa using h
    subst hq
    rfl
  | succ w ih =>
    intro q h
    have hp : 2 ^ (w + 1) = 2 * 2 ^ w := by rw [Nat.pow_succ]; omega
    have h1 := ih (q / 2) (by omega)
    have e1 : q = 2 * (q / 2) + q % 2 := by omega
    have e2 : 2 ^ (w + 1) - 1 - q = 2 * (2 ^ w - 1 - q / 2) + (1 - q % 2) := by omega
    rw [e2]
    have := bit_and (q / 2) (2 ^ w - 1 - q / 2) (q % 2) (1 - q % 2) (by omega) (by omega)
    rw [← e1] at this
    rw [this, h1]
    rcases Nat.mod_two_eq_zero_or_one q with h | h <;> rw [h] <;> rfl
/-- The lowest bit of a number. -/
def low (n : Nat) : Nat := if h : n = 0 then 0 else if n % 2 = 1 then 1 else 2 * low (n / 2)
termination_by n
theorem low_odd {n : Nat} (h : n % 2 = 1) : low n = 1 := by
  rw [low, dif_neg (by omega), if_pos h]
theorem low_even {n : Nat} (h0 : n ≠ 0) (h : n % 2 = 0) : low n = 2 * low (n / 2) := by
  rw [low, dif_neg h0, if_neg (by omega)]
theorem low_and : ∀ (w i : Nat), 0 < i → i < 2 ^ w → i &&& (2 ^ w - i) = low i := by
  intro w
  induction w with
  | zero =>
    intro i h0 h
    have hq : i = 0 := by simpa using h
    omega
  | succ w ih =>
    intro i h0 h
    have hp : 2 ^ (w + 1) = 2 * 2 ^ w := by rw [Nat.pow_succ]; omega
    rcases Nat.mod_two_eq_zero_or_one i with hm | hm
    · rw [low_even (by omega) hm, ← ih (i / 2) (by omega) (by omega)]
      have := bit_and (i / 2) (2 ^ w - i / 2) 0 0 (by omega) (by omega)
      rw [show 2 * (i / 2) + 0 = i by omega, show 2 * (2 ^ w - i / 2) + 0 = 2 ^ (w + 1) - i by omega] at this
      rw [this]
      rfl
    · rw [low_odd hm]
      have := bit_and (i / 2) (2 ^ w - 1 - i / 2) 1 1 (by omega) (by omega)
      rw [show 2 * (i / 2) + 1 = i by omega, show 2 * (2 ^ w - 1 - i / 2) + 1 = 2 ^ (w + 1) - i by omega] at this
      rw [this, comp_and w _ (by omega)]
      rfl
theorem low_bd : ∀ n : Nat, 0 < n → 1 ≤ low n ∧ low n ≤ n := by
  intro n
  induction n using Nat.strongRecOn with
  | ind n ih =>
    intro h
    rcases Nat.mod_two_eq_zero_or_one n with hm | hm
    · rw [low_even (by omega) hm]
      have := ih (n / 2) (by omega) (by omega)
      omega
    · rw [low_odd hm]; omega
/-- Between i and i + low i: no number reaches below i. -/
theorem low_add : ∀ (i m : Nat), 0 < m → m < low i → low (i + m) ≤ m := by
  intro i
  induction i using Nat.strongRecOn with
  | ind i ih =>
    intro m h0 h
    by_cases hi : i = 0
    · subst hi; rw [low] at h; simp at h
    rcases Nat.mod_two_eq_zero_or_one i with hm | hm
    · rw [low_even hi hm] at h
      rcases Nat.mod_two_eq_zero_or_one m with hk | hk
      · rw [low_even (by omega) (by omega), show (i + m) / 2 = i / 2 + m / 2 by omega]
        have := ih (i / 2) (by omega) (m / 2) (by omega) (by omega)
        omega
      · rw [low_odd (by omega)]; omega
    · rw [low_odd hm] at h; omega
theorem low_next : ∀ i : Nat, 0 < i → 2 * low i ≤ low (i + low i) := by
  intro i
  induction i using Nat.strongRecOn with
  | ind i ih =>
    intro h
    rcases Nat.mod_two_eq_zero_or_one i with hm | hm
    · have := ih (i / 2) (by omega) (by omega)
      rw [low_even (by omega) hm, low_even (n := i + 2 * low (i / 2)) (by omega) (by omega), show (i + 2 * low (i / 2)) / 2 = i / 2 + low (i / 2) by omega]
      omega
    · rw [low_odd hm, low_even (by omega) (by omega)]
      have := low_bd ((i + 1) / 2) (by omega)
      omega

theorem low_bits (i : Nat) (h0 : 0 < i) (h : i < 4611686018427387904) : bits .and .i64 (i : Int) (-(i : Int)) = (low i : Int) := by
  have h1 := low_and 64 i h0 (by omega)
  have h2 := low_bd i h0
  have e : (BitVec.ofInt 64 (i : Int) &&& BitVec.ofInt 64 (-(i : Int))).toNat = low i := by
    rw [BitVec.toNat_and, ← h1]
    congr 1
    · rw [BitVec.ofInt_natCast, BitVec.toNat_ofNat]; omega
    · rw [BitVec.toNat_ofInt]
      omega
  show IntKind.i64.wrap ((BitVec.ofInt 64 (i : Int) &&& BitVec.ofInt 64 (-(i : Int))).toNat : Int) = _
  rw [e]
  exact IntWalk.i64_in _ (by omega)
/-- What the tree keeps at i. -/
def cover (al : Nat → Bool) (i : Nat) : Int := (cnt al i : Int) - (cnt al (i - low i) : Int)
structure Tree (al : Nat → Bool) (n : Nat) (t : List Int) : Prop where
  len : t.length = n + 1
  at_ : ∀ i, 0 < i → i ≤ n → t[i]? = some (cover al i)
/-- A cut under way: below i it is done. -/
structure CutTr (al : Nat → Bool) (j n : Nat) (t : List Int) (i : Nat) : Prop where
  len : t.length = n + 1
  lo : i - low i ≤ j
  hi : j < i
  done : ∀ k, 0 < k → k < i → k ≤ n → t[k]? = some (cover (cutAl al j) k)
  todo : ∀ k, i ≤ k → k ≤ n → t[k]? = some (cover al k)
theorem cover_in {al : Nat → Bool} {j k : Nat} (ha : al j = true) (h1 : k - low k ≤ j) (h2 : j < k) : cover (cutAl al j) k = cover al k - 1 := by
  have e1 := cnt_cut al j ha k
  have e2 := cnt_cut al j ha (k - low k)
  rw [if_pos h2] at e1
  rw [if_neg (by omega)] at e2
  unfold cover
  omega
theorem cover_out {al : Nat → Bool} {j k : Nat} (ha : al j = true) (h : j < k - low k ∨ k ≤ j) : cover (cutAl al j) k = cover al k := by
  have e1 := cnt_cut al j ha k
  have e2 := cnt_cut al j ha (k - low k)
  unfold cover
  rcases h with h | h
  · rw [if_pos (by omega)] at e1
    rw [if_pos h] at e2
    omega
  · rw [if_neg (by omega)] at e1
    rw [if_neg (by omega)] at e2
    omega
theorem Tree.begin {al : Nat → Bool} {j n : Nat} {t : List Int} (h : Tree al n t) (ha : al j = true) : CutTr al j n t (j + 1) := by
  have hb := low_bd (j + 1) (by omega)
  refine ⟨h.len, by omega, by omega, fun k h0 h1 h2 => ?_, fun k h1 h2 => h.at_ k (by omega) h2⟩
  rw [cover_out ha (.inr (by omega))]
  exact h.at_ k h0 h2
theorem CutTr.step {al : Nat → Bool} {j n i : Nat} {t : List Int} (h : CutTr al j n t i) (ha : al j = true) (hi : i ≤ n) : CutTr al j n (t.set i (cover al i - 1)) (i + low i) := by
  have h1 := h.hi
  have h2 := h.lo
  have hb := low_bd i (by omega)
  have hn := low_next i (by omega)
  have hb2 := low_bd (i + low i) (by omega)
  have hl := h.len
  refine ⟨by rw [List.length_set]; exact h.len, by omega, by omega, fun k k0 k1 k2 => ?_, fun k k1 k2 => ?_⟩
  · rcases Nat.lt_trichotomy k i with hk | hk | hk
    · rw [List.getElem?_set_ne (by omega)]
      exact h.done k k0 hk k2
    · subst hk
      rw [List.getElem?_set_self (by omega), cover_in ha h2 h1]
    · rw [List.getElem?_set_ne (by omega), h.todo k (by omega) k2, cover_out ha]
      obtain ⟨m, rfl⟩ : ∃ m, k = i + m := ⟨k - i, by omega⟩
      have := low_add i m (by omega) (by omega)
      exact .inl (by omega)
  · rw [List.getElem?_set_ne (by omega)]
    exact h.todo k (by omega) k2
theorem CutTr.end_ {al : Nat → Bool} {j n i : Nat} {t : List Int} (h : CutTr al j n t i) (hi : n < i) : Tree (cutAl al j) n t := ⟨h.len, fun k h0 h1 => h.done k h0 (by omega) h1⟩
end Go.Proofs.Ytiminpcpnblppaa.Bpe

/- bpe.counts: begun, below, cut. -/
namespace Go.Proofs.Ytiminpcpnblppaa.Bpe
open Go.RowKit Go.Proofs.Ytiminpcpnblppaa.Lib Go.Proofs.Ytiminpcpnblppaa.Sl Go.Proofs.Ytiminpcpnblppaa.Chain
set_option linter.unusedVariables false
set_option linter.unusedSimpArgs false

/-- A tree of partial sums at tb. -/
def Fen (w : World) (tb n : Nat) (al : Nat → Bool) : Prop := ∃ t, Arr w 3 1 (some ⟨tb, 0, none⟩) (n + 1) (n + 1) (Chain.ints t) ∧ Tree al n t
theorem Fen.lt {w : World} {tb n : Nat} {al : Nat → Bool} (h : Fen w tb n al) : tb < w.heap.size := let ⟨_, h1, _⟩ := h; arr_lt h1 rfl
theorem Fen.ext {S : Nat → Prop} {w w' : World} {tb n : Nat} {al : Nat → Bool} (h : Fen w tb n al) (hx : Ext S w w') (hn : ¬ S tb) : Fen w' tb n al :=
  let ⟨t, h1, h2⟩ := h; ⟨t, arr_ext h1 hx (fun k hk => by injection hk with hk; have hk : tb = k := hk; rw [← hk]; exact hn), h2⟩
theorem ints_get {t : List Int} {i : Nat} {x : Int} (h : t[i]? = some x) : (Chain.ints t)[i]? = some (.int .i64 x) := by unfold Chain.ints; rw [List.getElem?_map, h]; rfl
theorem cover_bd (al : Nat → Bool) (i : Nat) : 0 ≤ cover al i ∧ cover al i ≤ i := by
  have h1 := cnt_mono al (show i - low i ≤ i by omega)
  have h2 := cnt_le al i
  unfold cover
  omega
/-- The first k sums are laid. -/
def lowL (k : Nat) : List Int := (List.range k).map fun i => (low i : Int)
theorem lowL_succ (k : Nat) : lowL (k + 1) = lowL k ++ [(low k : Int)] := by simp [lowL, List.range_succ]
theorem lowL_tree (n : Nat) : Tree (allAl n) n (lowL (n + 1)) := by
  refine ⟨by simp [lowL], fun i h0 h1 => ?_⟩
  unfold lowL
  rw [List.getElem?_map, List.getElem?_range (by omega)]
  have hb := low_bd i h0
  have e1 := cnt_all n i h1
  have e2 := cnt_all n (i - low i) (by omega)
  unfold cover
  rw [e1, e2]
  show some (low i : Int) = _
  congr 1
  omega
structure BgnSt (w wr : World) (n k : Nat) : Prop where
  kl : k ≤ n + 1
  row : Arr wr 3 1 (some ⟨w.heap.size, 0, none⟩) (n + 1) (n + 1) (Chain.ints (lowL k) ++ List.replicate (n + 1 - k) (.int .i64 0))
  ext : Ext (fun _ => False) w wr
theorem BgnSt.step {w wr : World} {n k : Nat} (h : BgnSt w wr n k) (hk : k ≤ n) : BgnSt w (wr.setCell ⟨w.heap.size, k, none⟩ (.int .i64 (low k : Int))) n (k + 1) := by
  have ht : (Chain.ints (lowL k)).length = k := by simp [Chain.ints, lowL]
  refine ⟨by omega, ?_, h.ext.trans ((Ext.refl (fun j => j = w.heap.size) wr).setCell (p := ⟨w.heap.size, k, none⟩) (fun _ => rfl) _) (fun i hi e => by omega)⟩
  have := arr_set h.row k (.int .i64 (low k : Int))
  rw [List.set_append_right _ _ (by omega), ht, Nat.sub_self, show n + 1 - k = (n + 1 - (k + 1)) + 1 from by omega, List.replicate_succ, List.set_cons_zero] at this
  rw [lowL_succ]
  unfold Chain.ints at *
  rw [List.map_append, List.append_assoc]
  exact this
def BegunEnd (w : World) (n : Nat) (e : Ending) (w' : World) : Prop :=
  e = .returned (.slice (some ⟨w.heap.size, 0, none⟩) (n + 1) (n + 1)) ∧ Fen w' w.heap.size n (allAl n) ∧ Ext (fun _ => False) w w'
set_option maxRecDepth 100000 in
set_option maxHeartbeats 1000000 in
theorem begun_any (w : World) (n : Nat) (hn : n ≤ 1048576) :
    Calls Try.prog 41 #[.int .i64 n] w fun e w' => BegunEnd w n e w' := by
  go_enter Try.func41, Try.ntmps41
  go_wp2_with (at_make; (refine arr_make rfl (.tmp 6) (.tmp 6) 101 3 1 8 (.int .i64 0) rfl Try.underlying101 infoI .i64 .i64 _ _ (n + 1) rfl rfl (by omega) (by omega) (by omega) (by decide) rfl ?_); intro w1 hA hx1)
  have HS := Lib.hid (show BgnSt w w1 n 1 from by
    refine ⟨by omega, ?_, hx1⟩
    rw [made1 _ _ rfl] at hA
    have e : List.replicate ((n + 1) * 1) (Value.int .i64 0) = Chain.ints (lowL 1) ++ List.replicate (n + 1 - 1) (.int .i64 0) := by
      rw [Nat.mul_one, Nat.add_sub_cancel, List.replicate_succ]
      have : low 0 = 0 := by rw [low]; rfl
      simp [Chain.ints, lowL, this]
    rwa [e] at hA)
  clear hA hx1
  go_wp2_with fail
  go_loopw [4] (fun i wr => ∃ k : Nat, i = .int .i64 k ∧ 1 ≤ k ∧ BgnSt w wr n k) (fun i _ => n + 1 - (intOf i).toNat)
  case atStart => exact ⟨1, rfl, Nat.le_refl _, HS.out⟩
  case round =>
    obtain ⟨k, rfl, h1, hst⟩ := hrel
    have HST := Lib.hid hst
    have hR := hst.row
    have hk := hst.kl
    clear hst
    by_cases hlt : k ≤ n
    · have i1 : (k : Int) < ((n + 1 : Nat) : Int) := by omega
      have i2 : (k : Int) ≤ (n : Int) := by omega
      have T := Lib.hid (HST.out.step hlt)
      have hlo := low_bits k (by omega) (by omega)
      obtain ⟨u0, hu0⟩ : ∃ u, wr.cell? ⟨w.heap.size, k, none⟩ = some u := ⟨_, (arr_cell hR _ (by omega)).trans (List.getElem?_eq_getElem (by have := arr_len hR; omega))⟩
      have hf0 := arr_frozen hR k
      clear hR
      go_wp2_with fail
      go_roundw
      case rel => exact ⟨k + 1, by go_num, by omega, T.out⟩
      case measure => simp [intOf]; omega
    · obtain rfl : k = n + 1 := by omega
      rw [Nat.sub_self, List.replicate_zero, List.append_nil] at hR
      have HR := Lib.hid hR
      clear hR
      go_wp2_with fail
      go_ret
      exact ⟨rfl, ⟨_, HR.out, lowL_tree n⟩, HST.out.ext⟩
set_option maxRecDepth 100000 in
set_option maxHeartbeats 1000000 in
theorem below_any {w : World} {tb n : Nat} {al : Nat → Bool} (h : Fen w tb n al) (hn : n ≤ 1048576) (j : Nat) (hj : j ≤ n) :
    Calls Try.prog 42 #[.slice (some ⟨tb, 0, none⟩) (n + 1) (n + 1), .int .i64 j] w fun e w' => e = .returned (.int .i64 (cnt al j)) ∧ w = w' := by
  obtain ⟨t, hA, hT⟩ := h
  have A := Lib.hid hA
  have T := Lib.hid hT
  clear hA hT
  go_enter Try.func42, Try.ntmps42
  go_wp2_with fail
  go_loopw [1, 5] (fun i v wr => ∃ (k : Nat) (acc : Int), i = .int .i64 k ∧ v = .int .i64 acc ∧ w = wr ∧ k ≤ j ∧ 0 ≤ acc ∧ acc ≤ j ∧ acc + cnt al k = cnt al j) (fun i _ _ => (intOf i).toNat)
  case atStart => exact ⟨j, 0, rfl, rfl, rfl, Nat.le_refl _, Int.le_refl _, by omega, by omega⟩
  case round =>
    obtain ⟨k, acc, rfl, rfl, rfl, hk, ha0, ha1, hsum⟩ := hrel
    by_cases h0 : 0 < k
    · have d0 : decide ((k : Int) > 0) = true := decide_eq_true (by omega)
      have d1 : decide (0 < k) = true := decide_eq_true h0
      have hlo := low_bits k h0 (by omega)
      have hb := low_bd k h0
      have cx := (arr_cell A.out k (by omega)).trans (ints_get (T.out.at_ k h0 (by omega)))
      have cb := cover_bd al k
      have SUM := Lib.hid (show acc + cover al k + cnt al (k - low k) = cnt al j from by unfold cover; omega)
      have CJ := cnt_le al j
      have NN := Lib.hid (show 0 ≤ (cnt al (k - low k) : Int) from by omega)
      obtain ⟨c, hc⟩ : ∃ c, cover al k = c := ⟨_, rfl⟩
      obtain ⟨m, hm⟩ : ∃ m, low k = m := ⟨_, rfl⟩
      obtain ⟨k2, hk2⟩ : ∃ k2, k - m = k2 := ⟨_, rfl⟩
      rw [hc] at cx cb SUM
      rw [hm] at hlo hb SUM NN
      rw [hk2] at SUM NN
      have hac : acc + c ≤ j := by have := SUM.out; have := NN.out; omega
      have hwk : IntKind.i64.wrap ((k : Int) - (m : Int)) = (k2 : Int) := by rw [IntWalk.i64_in _ (by omega)]; omega
      have i1 : (k : Int) < ((n + 1 : Nat) : Int) := by omega
      have i2 : (k : Int) < (n : Int) + 1 := by omega
      have KK := Lib.hid (show k2 ≤ j ∧ k2 < k from by omega)
      clear hc hm hk2 hsum hb
      go_wp2_with fail
      go_roundw
      case rel => exact ⟨k2, acc + c, rfl, rfl, trivial, KK.out.1, by omega, hac, SUM.out⟩
      case measure => have := KK.out.2; simp [intOf]; omega
    · obtain rfl : k = 0 := by omega
      have d0 : decide ((((0 : Nat) : Int)) > 0) = false := by decide
      have E := Lib.hid (show acc = cnt al j from by have : cnt al 0 = 0 := rfl; omega)
      clear hsum
      go_wp2_with fail
      go_ret
      exact ⟨by rw [E.out]; rfl, rfl⟩
set_option maxRecDepth 100000 in
set_option maxHeartbeats 1000000 in
theorem cut_any {w : World} {tb n : Nat} {al : Nat → Bool} (h : Fen w tb n al) (hn : n ≤ 1048576) (j : Nat) (hj : j < n) (haj : al j = true) :
    Calls Try.prog 43 #[.slice (some ⟨tb, 0, none⟩) (n + 1) (n + 1), .int .i64 j] w fun e w' => e = .returned (.tuple #[]) ∧ Fen w' tb n (cutAl al j) ∧ Ext (fun k => k = tb) w w' := by
  obtain ⟨t, hA, hT⟩ := h
  have A := Lib.hid hA
  have T := Lib.hid (hT.begin haj)
  have HA := Lib.hid haj
  clear hA hT haj
  go_enter Try.func43, Try.ntmps43
  go_wp2_with fail
  go_loopw [1] (fun i wr => ∃ (k : Nat) (t : List Int), i = .int .i64 k ∧ Arr wr 3 1 (some ⟨tb, 0, none⟩) (n + 1) (n + 1) (Chain.ints t) ∧ CutTr al j n t k ∧ Ext (fun k => k = tb) w wr ∧ k ≤ 4 * n + 4) (fun i _ => 4 * n + 5 - (intOf i).toNat)
  case atStart => exact ⟨j + 1, t, by go_num, A.out, T.out, Ext.refl _ _, by omega⟩
  case round =>
    obtain ⟨k, t', rfl, hA, hC, hx, hk4⟩ := hrel
    have CT := Lib.hid hC
    have EX := Lib.hid hx
    have hjk := hC.hi
    clear hC hx
    by_cases hlt : k ≤ n
    · have i1 : (k : Int) < ((n + 1 : Nat) : Int) := by omega
      have i2 : (k : Int) < (n : Int) + 1 := by omega
      have hlo := low_bits k (by omega) (by omega)
      have hb := low_bd k (by omega)
      have hcx := CT.out.todo k (Nat.le_refl _) hlt
      have cx := (arr_cell hA k (by omega)).trans (ints_get hcx)
      have hf0 := arr_frozen hA k
      have cb := cover_bd al k
      have ST := Lib.hid (CT.out.step HA.out hlt)
      have AS := Lib.hid (show Arr (wr.setCell ⟨tb, k, none⟩ (.int .i64 (cover al k - 1))) 3 1 (some ⟨tb, 0, none⟩) (n + 1) (n + 1) (Chain.ints (t'.set k (cover al k - 1))) from by
        have := arr_set hA k (.int .i64 (cover al k - 1))
        rwa [show (Chain.ints t').set k (.int .i64 (cover al k - 1)) = Chain.ints (t'.set k (cover al k - 1)) from by unfold Chain.ints; rw [List.map_set]] at this)
      have XS := Lib.hid (show Ext (fun k => k = tb) w (wr.setCell ⟨tb, k, none⟩ (.int .i64 (cover al k - 1))) from EX.out.setCell (p := ⟨tb, k, none⟩) (fun _ => rfl) _)
      obtain ⟨c, hc⟩ : ∃ c, cover al k = c := ⟨_, rfl⟩
      obtain ⟨m, hm⟩ : ∃ m, low k = m := ⟨_, rfl⟩
      rw [hc] at cx cb ST AS XS
      rw [hm] at hlo hb ST
      clear hA hc hm hcx
      go_wp2_with fail
      go_roundw
      case rel => exact ⟨k + m, t'.set k (c - 1), by go_num, AS.out, ST.out, XS.out, by omega⟩
      case measure => simp [intOf]; omega
    · have i1 : ¬ (k : Int) < ((n + 1 : Nat) : Int) := by omega
      have HA2 := Lib.hid hA
      clear hA
      go_wp2_with fail
      go_end0
      exact ⟨rfl, ⟨t', HA2.out, CT.out.end_ (by omega)⟩, EX.out⟩
end Go.Proofs.Ytiminpcpnblppaa.Bpe
