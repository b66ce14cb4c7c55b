/- Merged of SortM, SortG, SortS. -/
import Derived.Test.YtigpaaelggnffaaGreatDoorSortI
/- The merge of the library's stable sort, walked, over a row of elements of several cells. -/
namespace Go.Proofs.YtigpaaelggnffaaGreatDoor.St
open Go.Sort Go.RowKit Go.Proofs.YtigpaaelggnffaaGreatDoor.Lib Go.Proofs.YtigpaaelggnffaaGreatDoor.Sl
set_option linter.unusedVariables false
set_option linter.unusedSimpArgs false
variable {α : Type} [Inhabited α] {e g c n lf sf : Nat} {E : En α} {lb sb : Array Value} {lt : α → α → Bool}

set_option maxRecDepth 100000 in
set_option maxHeartbeats 4000000 in
theorem symLeft_any {w0 : World} (eg : ∀ args w, (callFunc lf args).run Tryz.prog w = .ok (.enter lf args) w) (hS : SWO lt) (hle : LessOk Tryz.prog e E lf lb lt g c n w0) (hs : SwapOk Tryz.prog e E sf sb g c n) {W : World} {d : Array α}
    (hw : Ext (fun k => k = g) w0 W) (hl : Lies e E W g c d) (hn : d.size = n) (hb : n ≤ 1048576) (a b : Nat) (hmb : a + 1 < b) (hbn : b ≤ n) (h2 : Srt lt (a + 1) b d) :
    Calls Tryz.prog 106 #[.agg #[.func (.func lf) #[] lb, .func (.func sf) #[] sb], .int .i64 a, .int .i64 ((a + 1 : Nat) : Int), .int .i64 b] W fun en w' => RowEnd e E g c W (fun d' => Mg lt a b d d') en w' := by
  have H := Lib.hid hs
  have X0 := Lib.hid ((Ext.refl (fun k => k = g) W).alloc (.cells #[.func (.func lf) #[] lb, .func (.func sf) #[] sb] 147))
  have L0 := Lib.hid (hl.ext ((Ext.refl (fun _ => False) W).alloc (.cells #[.func (.func lf) #[] lb, .func (.func sf) #[] sb] 147)) (fun h => h))
  have HG := Lib.hid hl.lt
  have HN := Lib.hid hn
  have B0 := Lib.hid (heap_alloc_new W (.cells #[.func (.func lf) #[] lb, .func (.func sf) #[] sb] 147))
  clear hs hl hn
  have LE := Lib.hid hle
  have HW0 := Lib.hid hw
  have HS := Lib.hid hS
  have S2 := Lib.hid h2
  clear hle hw hS h2
  have e0 : ((a + 1 : Nat) : Int) = (a : Int) + 1 := by omega
  have e1 : (a : Int) + 1 - (a : Int) = 1 := by omega
  rw [e0]
  clear e0
  go_enter Tryz.func106, Tryz.ntmps106
  go_wp2_with fail
  obtain ⟨o, ho⟩ : ∃ o, W.heap.size = o := ⟨_, rfl⟩
  obtain ⟨W1, hW1⟩ : ∃ W1, W.alloc (.cells #[.func (.func lf) #[] lb, .func (.func sf) #[] sb] 147) = W1 := ⟨_, rfl⟩
  rw [hW1] at X0 L0 B0
  rw [ho] at B0 HG
  try rw [hW1]
  try rw [ho]
  clear hW1 ho
  have HW := Lib.hid (HW0.out.trans X0.out (fun _ _ h => h))
  go_loopw [8, 9] (fun vi vj wr => ∃ (i j : Nat), vi = .int .i64 i ∧ vj = .int .i64 j ∧ a + 1 ≤ i ∧ i ≤ j ∧ j ≤ b ∧ (a + 1 < i → lt d[i - 1]! d[a]! = true) ∧ (j < b → lt d[j]! d[a]! = false) ∧ Lies e E wr g c d ∧ Ext (fun k => k = g) W1 wr) (fun vi vj _ => (intOf vj).toNat - (intOf vi).toNat)
  case atStart => exact ⟨a + 1, b, by go_num, rfl, Nat.le_refl _, by omega, Nat.le_refl _, fun h => by omega, fun h => by omega, L0.out, Ext.refl _ _⟩
  case round =>
    obtain ⟨i, j, rfl, rfl, hi, hij, hj, hlo, hhi, hl, hx⟩ := hrel
    have LO := Lib.hid hlo
    have HI := Lib.hid hhi
    have HL := Lib.hid hl
    have HX := Lib.hid hx
    have hob := hx.obj B0.out (fun h => by have := HG.out; omega)
    have c0 := blk_cell hob 0
    have c1 := blk_cell hob 1
    simp at c0 c1
    by_cases hlt : i < j
    · have i1 : (i : Int) < (j : Int) := by omega
      obtain ⟨h, hh⟩ : ∃ h, (i + j) / 2 = h := ⟨_, rfl⟩
      have e2 : ((i : Int) + (j : Int)) / 2 = (h : Int) := by omega
      have h3 : i ≤ h := by omega
      have h4 : h < j := by omega
      have LC := Lib.hid (LE.out wr d hl HN.out (HW.out.trans hx (fun _ _ h => h)) h a (by omega) (by omega))
      clear hlo hhi hl hx hob hh
      go_wp2_with fail
      refine LC.out.mono ?_
      rintro en W2 ⟨rfl, hx2⟩
      have L2 := Lib.hid (HL.out.ext hx2 (fun h => h))
      have X2 := Lib.hid (HX.out.trans hx2 (fun _ _ h => h.elim))
      clear hx2 LC
      cases hv : lt d[h]! d[a]! with
      | true =>
        have HV := Lib.hid hv
        clear hv
        go_wp2_with fail
        go_roundw
        case rel => exact ⟨h + 1, j, by go_num, rfl, by omega, by omega, hj, fun _ => by rw [Nat.add_sub_cancel]; exact HV.out, HI.out, L2.out, X2.out⟩
        case measure => simp [intOf]; omega
      | false =>
        have HV := Lib.hid hv
        clear hv
        go_wp2_with fail
        go_roundw
        case rel => exact ⟨i, h, rfl, rfl, hi, h3, by omega, LO.out, fun _ => HV.out, L2.out, X2.out⟩
        case measure => simp [intOf]; omega
    · obtain rfl : i = j := by omega
      have i1 : ¬ (i : Int) < (i : Int) := by omega
      clear hlo hhi hl hx hob c0 c1
      go_wp2_with fail
      go_loopw [11] (fun v wr2 => ∃ (k : Nat) (d' : Array α), v = .int .i64 k ∧ a ≤ k ∧ k + 1 ≤ i ∧ Up a (k - a) d d' ∧ PermIn a b d d' ∧ Lies e E wr2 g c d' ∧ Ext (fun k => k = g) W1 wr2) (fun v _ => i - (intOf v).toNat)
      case atStart => exact ⟨a, d, rfl, Nat.le_refl _, hi, by rw [Nat.sub_self]; exact Up.start a d, permIn_refl _ _ _, HL.out, HX.out⟩
      case round =>
        obtain ⟨k, d', rfl, hak, hki, hup, hp, hl, hx⟩ := hrel
        have UP := Lib.hid hup
        have PE := Lib.hid hp
        have HL2 := Lib.hid hl
        have HX2 := Lib.hid hx
        have hob := hx.obj B0.out (fun h => by have := HG.out; omega)
        have c1 := blk_cell hob 1
        simp at c1
        have e3 : (i : Int) - 1 = ((i - 1 : Nat) : Int) := by omega
        by_cases hlt2 : k < i - 1
        · have i2 : (k : Int) < ((i - 1 : Nat) : Int) := by omega
          obtain ⟨W3, hrun, hl3, hx3⟩ := H.out wr d' hl (hp.1.trans HN.out) k (k + 1) (by omega) (by omega)
          have e4 : ((k + 1 : Nat) : Int) = (k : Int) + 1 := by omega
          rw [e4] at hrun
          have U3 := Lib.hid (show Up a (k + 1 - a) d (swp d' k (k + 1)) from by
            have := hup.step (by have := HN.out; omega)
            rwa [show a + (k - a) = k by omega, show k - a + 1 = k + 1 - a by omega] at this)
          have P3 := Lib.hid (permIn_trans _ _ _ a b PE.out (swp_permIn d' a b k (k + 1) (by omega) (by omega) (by omega) (by omega) (by rw [PE.out.1, HN.out]; exact hbn)))
          have L3 := Lib.hid hl3
          have X3 := Lib.hid (HX2.out.trans hx3 (fun _ _ h => h))
          clear hup hp hl hx hob hl3 hx3 e4
          go_wp2_with fail
          go_roundw
          case rel => exact ⟨k + 1, _, by go_num, by omega, by omega, U3.out, P3.out, L3.out, X3.out⟩
          case measure => simp [intOf]; omega
        · have i2 : ¬ (k : Int) < ((i - 1 : Nat) : Int) := by omega
          obtain rfl : k = i - 1 := by omega
          have R := Lib.hid (show Mg lt a b d d' from ⟨PE.out, merge_left HS.out hi hj S2.out LO.out HI.out UP.out⟩)
          clear hup hp hl hx hob
          go_wp2_with fail
          go_end0
          exact ⟨rfl, d', R.out, HL2.out, X0.out.trans HX2.out (fun _ _ h => h)⟩
set_option maxRecDepth 100000 in
set_option maxHeartbeats 4000000 in
theorem symRight_any {w0 : World} (eg : ∀ args w, (callFunc lf args).run Tryz.prog w = .ok (.enter lf args) w) (hS : SWO lt) (hle : LessOk Tryz.prog e E lf lb lt g c n w0) (hs : SwapOk Tryz.prog e E sf sb g c n) {W : World} {d : Array α}
    (hw : Ext (fun k => k = g) w0 W) (hl : Lies e E W g c d) (hn : d.size = n) (hb : n ≤ 1048576) (a m : Nat) (ham : a + 1 < m) (hbn : m + 1 ≤ n) (h1 : Srt lt a m d) :
    Calls Tryz.prog 106 #[.agg #[.func (.func lf) #[] lb, .func (.func sf) #[] sb], .int .i64 a, .int .i64 m, .int .i64 ((m + 1 : Nat) : Int)] W fun en w' => RowEnd e E g c W (fun d' => Mg lt a (m + 1) d d') en w' := by
  have H := Lib.hid hs
  have X0 := Lib.hid ((Ext.refl (fun k => k = g) W).alloc (.cells #[.func (.func lf) #[] lb, .func (.func sf) #[] sb] 147))
  have L0 := Lib.hid (hl.ext ((Ext.refl (fun _ => False) W).alloc (.cells #[.func (.func lf) #[] lb, .func (.func sf) #[] sb] 147)) (fun h => h))
  have HG := Lib.hid hl.lt
  have HN := Lib.hid hn
  have B0 := Lib.hid (heap_alloc_new W (.cells #[.func (.func lf) #[] lb, .func (.func sf) #[] sb] 147))
  clear hs hl hn
  have LE := Lib.hid hle
  have HW0 := Lib.hid hw
  have HS := Lib.hid hS
  have S1 := Lib.hid h1
  clear hle hw hS h1
  have e0 : ((m + 1 : Nat) : Int) = (m : Int) + 1 := by omega
  have e1 : (m : Int) + 1 - (m : Int) = 1 := by omega
  have e5 : ((m : Int) - (a : Int) == 1) = false := beq_eq_false_iff_ne.2 (by omega)
  rw [e0]
  clear e0
  go_enter Tryz.func106, Tryz.ntmps106
  go_wp2_with fail
  obtain ⟨o, ho⟩ : ∃ o, W.heap.size = o := ⟨_, rfl⟩
  obtain ⟨W1, hW1⟩ : ∃ W1, W.alloc (.cells #[.func (.func lf) #[] lb, .func (.func sf) #[] sb] 147) = W1 := ⟨_, rfl⟩
  rw [hW1] at X0 L0 B0
  rw [ho] at B0 HG
  try rw [hW1]
  try rw [ho]
  clear hW1 ho
  have HW := Lib.hid (HW0.out.trans X0.out (fun _ _ h => h))
  go_loopw [12, 13] (fun vi vj wr => ∃ (i j : Nat), vi = .int .i64 i ∧ vj = .int .i64 j ∧ a ≤ i ∧ i ≤ j ∧ j ≤ m ∧ (a < i → lt d[m]! d[i - 1]! = false) ∧ (j < m → lt d[m]! d[j]! = true) ∧ Lies e E wr g c d ∧ Ext (fun k => k = g) W1 wr) (fun vi vj _ => (intOf vj).toNat - (intOf vi).toNat)
  case atStart => exact ⟨a, m, rfl, rfl, Nat.le_refl _, by omega, Nat.le_refl _, fun h => by omega, fun h => by omega, L0.out, Ext.refl _ _⟩
  case round =>
    obtain ⟨i, j, rfl, rfl, hi, hij, hj, hlo, hhi, hl, hx⟩ := hrel
    have LO := Lib.hid hlo
    have HI := Lib.hid hhi
    have HL := Lib.hid hl
    have HX := Lib.hid hx
    have hob := hx.obj B0.out (fun h => by have := HG.out; omega)
    have c0 := blk_cell hob 0
    have c1 := blk_cell hob 1
    simp at c0 c1
    by_cases hlt : i < j
    · have i1 : (i : Int) < (j : Int) := by omega
      obtain ⟨h, hh⟩ : ∃ h, (i + j) / 2 = h := ⟨_, rfl⟩
      have e2 : ((i : Int) + (j : Int)) / 2 = (h : Int) := by omega
      have h3 : i ≤ h := by omega
      have h4 : h < j := by omega
      have LC := Lib.hid (LE.out wr d hl HN.out (HW.out.trans hx (fun _ _ h => h)) m h (by omega) (by omega))
      clear hlo hhi hl hx hob hh
      go_wp2_with fail
      refine LC.out.mono ?_
      rintro en W2 ⟨rfl, hx2⟩
      have L2 := Lib.hid (HL.out.ext hx2 (fun h => h))
      have X2 := Lib.hid (HX.out.trans hx2 (fun _ _ h => h.elim))
      clear hx2 LC
      cases hv : lt d[m]! d[h]! with
      | true =>
        have HV := Lib.hid hv
        clear hv
        go_wp2_with fail
        go_roundw
        case rel => exact ⟨i, h, rfl, rfl, hi, h3, by omega, LO.out, fun _ => HV.out, L2.out, X2.out⟩
        case measure => simp [intOf]; omega
      | false =>
        have HV := Lib.hid hv
        clear hv
        go_wp2_with fail
        go_roundw
        case rel => exact ⟨h + 1, j, by go_num, rfl, by omega, by omega, hj, fun _ => by rw [Nat.add_sub_cancel]; exact HV.out, HI.out, L2.out, X2.out⟩
        case measure => simp [intOf]; omega
    · obtain rfl : i = j := by omega
      have i1 : ¬ (i : Int) < (i : Int) := by omega
      clear hlo hhi hl hx hob c0 c1
      go_wp2_with fail
      go_loopw [15] (fun v wr2 => ∃ (k : Nat) (d' : Array α), v = .int .i64 k ∧ i ≤ k ∧ k ≤ m ∧ Dn m (m - k) d d' ∧ PermIn a (m + 1) d d' ∧ Lies e E wr2 g c d' ∧ Ext (fun k => k = g) W1 wr2) (fun v _ => (intOf v).toNat)
      case atStart => exact ⟨m, d, rfl, hj, Nat.le_refl _, by rw [Nat.sub_self]; exact Dn.start m d, permIn_refl _ _ _, HL.out, HX.out⟩
      case round =>
        obtain ⟨k, d', rfl, hik, hkm, hdn, hp, hl, hx⟩ := hrel
        have DN := Lib.hid hdn
        have PE := Lib.hid hp
        have HL2 := Lib.hid hl
        have HX2 := Lib.hid hx
        have hob := hx.obj B0.out (fun h => by have := HG.out; omega)
        have c1 := blk_cell hob 1
        simp at c1
        by_cases hlt2 : i < k
        · have i2 : (k : Int) > (i : Int) := by omega
          obtain ⟨W3, hrun, hl3, hx3⟩ := H.out wr d' hl (hp.1.trans HN.out) k (k - 1) (by omega) (by omega)
          have e4 : ((k - 1 : Nat) : Int) = (k : Int) - 1 := by omega
          rw [e4] at hrun
          have D3 := Lib.hid (show Dn m (m - (k - 1)) d (swp d' k (k - 1)) from by
            have := hdn.step (by omega) (by have := HN.out; omega)
            rwa [show m - (m - k) = k by omega, show m - k + 1 = m - (k - 1) by omega] at this)
          have P3 := Lib.hid (permIn_trans _ _ _ a (m + 1) PE.out (swp_permIn d' a (m + 1) k (k - 1) (by omega) (by omega) (by omega) (by omega) (by rw [PE.out.1, HN.out]; exact hbn)))
          have L3 := Lib.hid hl3
          have X3 := Lib.hid (HX2.out.trans hx3 (fun _ _ h => h))
          clear hdn hp hl hx hob hl3 hx3 e4
          go_wp2_with fail
          go_roundw
          case rel => exact ⟨k - 1, _, by congr 1; omega, by omega, by omega, D3.out, P3.out, L3.out, X3.out⟩
          case measure => simp [intOf]; omega
        · have i2 : ¬ (k : Int) > (i : Int) := by omega
          obtain rfl : k = i := by omega
          have R := Lib.hid (show Mg lt a (m + 1) d d' from ⟨PE.out, merge_right HS.out hi hj S1.out LO.out HI.out DN.out⟩)
          clear hdn hp hl hx hob
          go_wp2_with fail
          go_end0
          exact ⟨rfl, d', R.out, HL2.out, X0.out.trans HX2.out (fun _ _ h => h)⟩
end Go.Proofs.YtigpaaelggnffaaGreatDoor.St

/- The merge of the library's stable sort, whole. -/
namespace Go.Proofs.YtigpaaelggnffaaGreatDoor.St
open Go.Sort Go.RowKit Go.Proofs.YtigpaaelggnffaaGreatDoor.Lib Go.Proofs.YtigpaaelggnffaaGreatDoor.Sl
set_option linter.unusedVariables false
set_option linter.unusedSimpArgs false
variable {α : Type} [Inhabited α] {e g c n lf sf : Nat} {E : En α} {lb sb : Array Value} {lt : α → α → Bool}

/-- Where the first search of a merge begins and ends. -/
def LoHi (a m b mid lo hi : Nat) : Prop := (mid < m → lo = mid + m - b ∧ hi = mid) ∧ (m ≤ mid → lo = a ∧ hi = m)
set_option maxRecDepth 100000 in
set_option maxHeartbeats 16000000 in
theorem symMerge_any {w0 : World} (eg : ∀ args w, (callFunc lf args).run Tryz.prog w = .ok (.enter lf args) w) (hS : SWO lt) (hle : LessOk Tryz.prog e E lf lb lt g c n w0) (hs : SwapOk Tryz.prog e E sf sb g c n) (hb : n ≤ 1048576) :
    ∀ (f : Nat) (W : World) (d : Array α) (hw : Ext (fun k => k = g) w0 W) (hl : Lies e E W g c d) (hn : d.size = n) (a m b : Nat) (ham : a < m) (hmb : m < b) (hbn : b ≤ n) (h1 : Srt lt a m d) (h2 : Srt lt m b d) (hf : b - a ≤ f),
    Calls Tryz.prog 106 #[.agg #[.func (.func lf) #[] lb, .func (.func sf) #[] sb], .int .i64 a, .int .i64 m, .int .i64 b] W fun en w' => RowEnd e E g c W (fun d' => Mg lt a b d d') en w' := by
  intro f
  induction f with
  | zero => intro W d _ _ _ a m b ham hmb _ _ _ hf; omega
  | succ f ih =>
  intro W d hw hl hn a m b ham hmb hbn h1 h2 hf
  by_cases q1 : m = a + 1
  · subst q1
    exact symLeft_any eg hS hle hs hw hl hn hb a b hmb hbn h2
  by_cases q2 : b = m + 1
  · subst q2
    exact symRight_any eg hS hle hs hw hl hn hb a m (by omega) hbn h1
  have IH := Lib.hid ih
  have RO := Lib.hid (fun (W : World) (d : Array α) (hl : Lies e E W g c d) (hn : d.size = n) (a m b : Nat) (ham : a < m) (hmb : m < b) (hbn : b ≤ n) => rotate_any (lf := lf) (lb := lb) hs hl hn hb a m b ham hmb hbn)
  clear ih
  have H := Lib.hid hs
  have X0 := Lib.hid ((Ext.refl (fun k => k = g) W).alloc (.cells #[.func (.func lf) #[] lb, .func (.func sf) #[] sb] 147))
  have L0 := Lib.hid (hl.ext ((Ext.refl (fun _ => False) W).alloc (.cells #[.func (.func lf) #[] lb, .func (.func sf) #[] sb] 147)) (fun h => h))
  have HG := Lib.hid hl.lt
  have HN := Lib.hid hn
  have B0 := Lib.hid (heap_alloc_new W (.cells #[.func (.func lf) #[] lb, .func (.func sf) #[] sb] 147))
  clear hs hl hn
  have LE := Lib.hid hle
  have HW0 := Lib.hid hw
  have HS := Lib.hid hS
  have S1 := Lib.hid h1
  have S2 := Lib.hid h2
  clear hle hw hS h1 h2
  have e0 : ((m : Int) - (a : Int) == 1) = false := beq_eq_false_iff_ne.2 (by omega)
  have e1 : ((b : Int) - (m : Int) == 1) = false := beq_eq_false_iff_ne.2 (by omega)
  obtain ⟨mid, hmid⟩ : ∃ mid, (a + b) / 2 = mid := ⟨_, rfl⟩
  have e2 : ((a : Int) + (b : Int)) / 2 = (mid : Int) := by omega
  have m1 : a < mid := by omega
  have m2 : mid < b := by omega
  have HM := Lib.hid hmid
  obtain ⟨lo, hi, hlh⟩ : ∃ lo hi, LoHi a m b mid lo hi := by
    by_cases h : mid < m
    · exact ⟨mid + m - b, mid, fun _ => ⟨rfl, rfl⟩, fun h' => by omega⟩
    · exact ⟨a, m, fun h' => absurd h' h, fun _ => ⟨rfl, rfl⟩⟩
  have l1 : lo ≤ hi := by
    by_cases h : mid < m
    · obtain ⟨rfl, rfl⟩ := hlh.1 h; omega
    · obtain ⟨rfl, rfl⟩ := hlh.2 (by omega); omega
  have l2 : hi ≤ mid ∧ hi ≤ m ∧ a ≤ lo ∧ mid + m ≤ lo + b := by
    by_cases h : mid < m
    · obtain ⟨rfl, rfl⟩ := hlh.1 h; omega
    · obtain ⟨rfl, rfl⟩ := hlh.2 (by omega); omega
  have LH := Lib.hid hlh
  clear hlh hmid
  go_enter Tryz.func106, Tryz.ntmps106
  go_upto_if 106 with fail
  obtain ⟨o, ho⟩ : ∃ o, W.heap.size = o := ⟨_, rfl⟩
  obtain ⟨W1, hW1⟩ : ∃ W1, W.alloc (.cells #[.func (.func lf) #[] lb, .func (.func sf) #[] sb] 147) = W1 := ⟨_, rfl⟩
  rw [hW1] at X0 L0 B0
  rw [ho] at B0 HG
  try rw [hW1]
  try rw [ho]
  clear hW1 ho
  have HW := Lib.hid (HW0.out.trans X0.out (fun _ _ h => h))
  go_cut [18, 19] (fun v w wc => W1 = wc ∧ v = .int .i64 lo ∧ w = .int .i64 hi)
  case first =>
    by_cases h : mid < m
    · have i1 : (m : Int) > (mid : Int) := by omega
      have e3 : (mid : Int) + (m : Int) - (b : Int) = (lo : Int) := by obtain ⟨rfl, rfl⟩ := LH.out.1 h; omega
      have e4 := Lib.hid (show mid = hi from (LH.out.1 h).2.symm)
      go_wp2_with fail
      go_meet
      exact ⟨rfl, rfl, by rw [e4.out]⟩
    · have i1 : ¬ (m : Int) > (mid : Int) := by omega
      have e3 := Lib.hid (show a = lo from (LH.out.2 (by omega)).1.symm)
      have e4 := Lib.hid (show m = hi from (LH.out.2 (by omega)).2.symm)
      go_wp2_with fail
      go_meet
      exact ⟨rfl, by rw [e3.out], by rw [e4.out]⟩
  case rest =>
    obtain ⟨rfl, rfl, rfl⟩ := hcut
    have e5 : (mid : Int) + (m : Int) - 1 = ((mid + m - 1 : Nat) : Int) := by omega
    obtain ⟨p, hp⟩ : ∃ p, mid + m - 1 = p := ⟨_, rfl⟩
    rw [hp] at e5
    have HP := Lib.hid hp
    clear hp
    go_wp2_with fail
    go_loopw [18, 19] (fun vi vj wr => ∃ (i j : Nat), vi = .int .i64 i ∧ vj = .int .i64 j ∧ lo ≤ i ∧ i ≤ j ∧ j ≤ hi ∧ (lo < i → lt d[p - (i - 1)]! d[i - 1]! = false) ∧ (j < hi → lt d[p - j]! d[j]! = true) ∧ Lies e E wr g c d ∧ Ext (fun k => k = g) W1 wr) (fun vi vj _ => (intOf vj).toNat - (intOf vi).toNat)
    case atStart => exact ⟨lo, hi, rfl, rfl, Nat.le_refl _, l1, Nat.le_refl _, fun h => by omega, fun h => by omega, L0.out, Ext.refl _ _⟩
    case round =>
      obtain ⟨i, j, rfl, rfl, hi1, hij, hj, hlo, hhi, hl, hx⟩ := hrel
      have LO := Lib.hid hlo
      have HI := Lib.hid hhi
      have HL := Lib.hid hl
      have HX := Lib.hid hx
      have hob := hx.obj B0.out (fun h => by have := HG.out; omega)
      have c0 := blk_cell hob 0
      have c1 := blk_cell hob 1
      simp at c0 c1
      have HN1 := HN.out
      by_cases hlt : i < j
      · have i1 : (i : Int) < (j : Int) := by omega
        obtain ⟨h, hh⟩ : ∃ h, (i + j) / 2 = h := ⟨_, rfl⟩
        have e6 : ((i : Int) + (j : Int)) / 2 = (h : Int) := by omega
        have h3 : i ≤ h := by omega
        have h4 : h < j := by omega
        have e7 : (p : Int) - (h : Int) = ((p - h : Nat) : Int) := by have := HP.out; omega
        have LC := Lib.hid (LE.out wr d hl HN.out (HW.out.trans hx (fun _ _ h => h)) (p - h) h (by have := HP.out; omega) (by omega))
        clear hlo hhi hl hx hob hh HN1
        go_wp2_with fail
        refine LC.out.mono ?_
        rintro en W2 ⟨rfl, hx2⟩
        have L2 := Lib.hid (HL.out.ext hx2 (fun h => h))
        have X2 := Lib.hid (HX.out.trans hx2 (fun _ _ h => h.elim))
        clear hx2 LC
        cases hv : lt d[p - h]! d[h]! with
        | true =>
          have HV := Lib.hid hv
          clear hv
          go_wp2_with fail
          go_roundw
          case rel => exact ⟨i, h, rfl, rfl, hi1, h3, by omega, LO.out, fun _ => HV.out, L2.out, X2.out⟩
          case measure => simp [intOf]; omega
        | false =>
          have HV := Lib.hid hv
          clear hv
          go_wp2_with fail
          go_roundw
          case rel => exact ⟨h + 1, j, by go_num, rfl, by omega, by omega, hj, fun _ => by rw [Nat.add_sub_cancel]; exact HV.out, HI.out, L2.out, X2.out⟩
          case measure => simp [intOf]; omega
      · obtain rfl : i = j := by omega
        have i1 : ¬ (i : Int) < (i : Int) := by omega
        have LD := Lib.hid (HL.out.ext (Ext.refl (fun _ => False) _) (fun h => h))
        have e8 : (mid : Int) + (m : Int) - (i : Int) = ((mid + m - i : Nat) : Int) := by omega
        have MI := Lib.hid (show (mid < m → Mid lt (mid + m - b) mid (mid + m - 1) i d) ∧ (m ≤ mid → Mid lt a m (mid + m - 1) i d) from by
          rw [HP.out]
          refine ⟨fun h => ?_, fun h => ?_⟩
          · obtain ⟨x1, x2⟩ := LH.out.1 h
            rw [← x1, ← x2]
            exact ⟨hi1, hj, LO.out, HI.out⟩
          · obtain ⟨x1, x2⟩ := LH.out.2 h
            rw [← x1, ← x2]
            exact ⟨by omega, by omega, fun h' => LO.out (by omega), fun h' => HI.out (by omega)⟩)
        obtain ⟨en, hen⟩ : ∃ en, mid + m - i = en := ⟨_, rfl⟩
        rw [hen] at e8
        have EN := Lib.hid hen
        have HH := Lib.hid (fun (d' : Array α) (hr : Rot i m (mid + m - i) d d') => halves HS.out (by omega) (by omega) HM.out.symm S1.out S2.out MI.out hr)
        have n1 : i ≤ mid ∧ i ≤ m ∧ m ≤ en ∧ mid ≤ en ∧ en ≤ b ∧ a ≤ i := by omega
        clear hlo hhi hl hx hob hen
        obtain ⟨q5, hq5⟩ : ∃ q, decide (i < m ∧ m < en) = q := ⟨_, rfl⟩
        have HQ5 := Lib.hid hq5
        clear hq5
        go_upto_region 40 with (fail)
        go_cut [145] (fun v wc => wr = wc ∧ v = .bool q5)
        case first =>
          by_cases y1 : i < m
          · have z1 : (i : Int) < (m : Int) := by omega
            by_cases y2 : m < en
            · have z2 : (m : Int) < (en : Int) := by omega
              have Z := Lib.hid (decide_eq_true (And.intro y1 y2))
              go_wp2_with fail
              go_meet
              exact ⟨rfl, by rw [← HQ5.out, Z.out]⟩
            · have z2 : ¬ (m : Int) < (en : Int) := by omega
              have Z := Lib.hid (decide_eq_false (p := i < m ∧ m < en) (fun h => y2 h.2))
              go_wp2_with fail
              go_meet
              exact ⟨rfl, by rw [← HQ5.out, Z.out]⟩
          · have z1 : ¬ (i : Int) < (m : Int) := by omega
            have Z := Lib.hid (decide_eq_false (p := i < m ∧ m < en) (fun h => y1 h.1))
            go_wp2_with fail
            go_meet
            exact ⟨rfl, by rw [← HQ5.out, Z.out]⟩
        case rest =>
          obtain ⟨rfl, rfl⟩ := hcut
          go_upto_if 145 with fail
          go_cut [] (fun wa => ∃ d1, Rot i m en d d1 ∧ PermIn a b d d1 ∧ Lies e E wa g c d1 ∧ Ext (fun k => k = g) W1 wa)
          case first =>
            by_cases y : i < m ∧ m < en
            · obtain rfl : q5 = true := by rw [← HQ5.out]; exact decide_eq_true y
              have CR := Lib.hid (RO.out wr d HL.out HN.out i m en y.1 y.2 (by omega))
              go_wp2_with fail
              refine CR.out.mono ?_
              rintro en2 W2 ⟨rfl, d1, ⟨hr1, hp1⟩, hl1, hx1⟩
              have R := Lib.hid (show Rot i m en d d1 ∧ PermIn a b d d1 from ⟨hr1, permIn_mono _ _ i en a b (by omega) (by omega) (by rw [HN.out]; exact hbn) hp1⟩)
              have L2 := Lib.hid hl1
              have X2 := Lib.hid (HX.out.trans hx1 (fun _ _ h => h))
              clear hr1 hp1 hl1 hx1 CR
              go_wp2_with fail
              go_meet
              exact ⟨d1, R.out.1, R.out.2, L2.out, X2.out⟩
            · obtain rfl : q5 = false := by rw [← HQ5.out]; exact decide_eq_false y
              have R := Lib.hid (show Rot i m en d d from by
                by_cases h : i < m
                · have : m = en := by omega
                  rw [← this]; exact Rot.none2 d (by omega)
                · have : i = m := by omega
                  rw [this]; exact Rot.none1 d (by omega))
              go_wp2_with fail
              go_meet
              exact ⟨d, R.out, permIn_refl _ _ _, HL.out, HX.out⟩
          case rest =>
            obtain ⟨d1, hr1, hp1, hl1, hx1⟩ := hcut
            have HV := HH.out d1 (by rw [EN.out]; exact hr1)
            rw [EN.out] at HV
            have HV := Lib.hid HV.2.2.2.2.2.2
            have P1 := Lib.hid hp1
            have L1 := Lib.hid hl1
            have X1 := Lib.hid hx1
            have hob1 := hx1.obj B0.out (fun h => by have := HG.out; omega)
            have c0 := blk_cell hob1 0
            have c1 := blk_cell hob1 1
            simp at c0 c1
            have HZ := Lib.hid (show d1.size = n from hp1.1.trans HN.out)
            clear hr1 hp1 hl1 hx1 hob1
            obtain ⟨q6, hq6⟩ : ∃ q, decide (a < i ∧ i < mid) = q := ⟨_, rfl⟩
            have HQ6 := Lib.hid hq6
            clear hq6
            go_upto_region 42 with (fail)
            go_cut [158] (fun v wn => wc = wn ∧ v = .bool q6)
            case first =>
              by_cases y1 : a < i
              · have z1 : (a : Int) < (i : Int) := by omega
                by_cases y2 : i < mid
                · have z2 : (i : Int) < (mid : Int) := by omega
                  have Z := Lib.hid (decide_eq_true (And.intro y1 y2))
                  go_wp2_with fail
                  go_meet
                  exact ⟨rfl, by rw [← HQ6.out, Z.out]⟩
                · have z2 : ¬ (i : Int) < (mid : Int) := by omega
                  have Z := Lib.hid (decide_eq_false (p := a < i ∧ i < mid) (fun h => y2 h.2))
                  go_wp2_with fail
                  go_meet
                  exact ⟨rfl, by rw [← HQ6.out, Z.out]⟩
              · have z1 : ¬ (a : Int) < (i : Int) := by omega
                have Z := Lib.hid (decide_eq_false (p := a < i ∧ i < mid) (fun h => y1 h.1))
                go_wp2_with fail
                go_meet
                exact ⟨rfl, by rw [← HQ6.out, Z.out]⟩
            case rest =>
              obtain ⟨rfl, rfl⟩ := hcut
              go_upto_if 158 with fail
              go_cut [] (fun wb => ∃ d2, (PermIn a mid d1 d2 ∧ Srt lt a mid d2) ∧ Lies e E wb g c d2 ∧ Ext (fun k => k = g) W1 wb)
              case first =>
                by_cases y : a < i ∧ i < mid
                · obtain rfl : q6 = true := by rw [← HQ6.out]; exact decide_eq_true y
                  have CR := Lib.hid (IH.out wc d1 (HW.out.trans X1.out (fun _ _ h => h)) L1.out HZ.out a i mid y.1 y.2 (by omega) HV.out.s1 HV.out.s2 (by omega))
                  go_wp2_with fail
                  refine CR.out.mono ?_
                  rintro en2 W2 ⟨rfl, d2, hm2, hl2, hx2⟩
                  have R := Lib.hid (show PermIn a mid d1 d2 ∧ Srt lt a mid d2 from ⟨hm2.perm, hm2.sorted⟩)
                  have L2 := Lib.hid hl2
                  have X2 := Lib.hid (X1.out.trans hx2 (fun _ _ h => h))
                  clear hm2 hl2 hx2 CR
                  go_wp2_with fail
                  go_meet
                  exact ⟨d2, R.out, L2.out, X2.out⟩
                · obtain rfl : q6 = false := by rw [← HQ6.out]; exact decide_eq_false y
                  have R := Lib.hid (show Srt lt a mid d1 from by
                    by_cases h : a < i
                    · have e9 : i = mid := by omega
                      have := HV.out.s1
                      rw [← e9]; exact this
                    · have e9 : i = a := by omega
                      have := HV.out.s2
                      rw [← e9]; exact this)
                  go_wp2_with fail
                  go_meet
                  exact ⟨d1, ⟨permIn_refl _ _ _, R.out⟩, L1.out, X1.out⟩
              case rest =>
                obtain ⟨d2, hm2, hl2, hx2⟩ := hcut
                have M2 := Lib.hid hm2
                have L2 := Lib.hid hl2
                have X2 := Lib.hid hx2
                have hob2 := hx2.obj B0.out (fun h => by have := HG.out; omega)
                have c0 := blk_cell hob2 0
                have c1 := blk_cell hob2 1
                simp at c0 c1
                have HZ2 := Lib.hid (show d2.size = n from hm2.1.1.trans HZ.out)
                clear hm2 hl2 hx2 hob2
                obtain ⟨q7, hq7⟩ : ∃ q, decide (mid < en ∧ en < b) = q := ⟨_, rfl⟩
                have HQ7 := Lib.hid hq7
                clear hq7
                go_upto_region 44 with (fail)
                go_cut [171] (fun v wn => wc = wn ∧ v = .bool q7)
                case first =>
                  by_cases y1 : mid < en
                  · have z1 : (mid : Int) < (en : Int) := by omega
                    by_cases y2 : en < b
                    · have z2 : (en : Int) < (b : Int) := by omega
                      have Z := Lib.hid (decide_eq_true (And.intro y1 y2))
                      go_wp2_with fail
                      go_meet
                      exact ⟨rfl, by rw [← HQ7.out, Z.out]⟩
                    · have z2 : ¬ (en : Int) < (b : Int) := by omega
                      have Z := Lib.hid (decide_eq_false (p := mid < en ∧ en < b) (fun h => y2 h.2))
                      go_wp2_with fail
                      go_meet
                      exact ⟨rfl, by rw [← HQ7.out, Z.out]⟩
                  · have z1 : ¬ (mid : Int) < (en : Int) := by omega
                    have Z := Lib.hid (decide_eq_false (p := mid < en ∧ en < b) (fun h => y1 h.1))
                    go_wp2_with fail
                    go_meet
                    exact ⟨rfl, by rw [← HQ7.out, Z.out]⟩
                case rest =>
                  obtain ⟨rfl, rfl⟩ := hcut
                  go_upto_if 171 with fail
                  have K3 := Lib.hid (show ∀ x y, mid ≤ x → Srt lt x y d1 → Srt lt x y d2 from fun x y hx h => h.keep fun k hk _ => M2.out.1.2.1 k (.inr (by omega)))
                  by_cases y : mid < en ∧ en < b
                  · obtain rfl : q7 = true := by rw [← HQ7.out]; exact decide_eq_true y
                    have CR := Lib.hid (IH.out wc d2 (HW.out.trans X2.out (fun _ _ h => h)) L2.out HZ2.out mid en b y.1 y.2 (by omega) (K3.out _ _ (Nat.le_refl _) HV.out.s3) (K3.out _ _ (by omega) HV.out.s4) (by omega))
                    go_wp2_with fail
                    refine CR.out.mono ?_
                    rintro en2 W2 ⟨rfl, d3, hm3, hl3, hx3⟩
                    have R := Lib.hid (merged HS.out m1 (by omega) (by rw [HN.out]; exact hbn) P1.out HV.out M2.out ⟨hm3.perm, hm3.sorted⟩)
                    have L3 := Lib.hid hl3
                    have X3 := Lib.hid (X0.out.trans (X2.out.trans hx3 (fun _ _ h => h)) (fun _ _ h => h))
                    clear hm3 hl3 hx3 CR
                    go_wp2_with fail
                    go_end0
                    exact ⟨rfl, d3, R.out, L3.out, X3.out⟩
                  · obtain rfl : q7 = false := by rw [← HQ7.out]; exact decide_eq_false y
                    have S3 := show Srt lt mid b d2 from K3.out _ _ (Nat.le_refl _) (by
                      by_cases h : mid < en
                      · have e9 : en = b := by omega
                        have := HV.out.s3
                        rwa [e9] at this
                      · have e9 : en = mid := by omega
                        have := HV.out.s4
                        rwa [e9] at this)
                    have R := Lib.hid (merged HS.out m1 (by omega) (by rw [HN.out]; exact hbn) P1.out HV.out M2.out ⟨permIn_refl _ _ _, S3⟩)
                    clear S3
                    go_wp2_with fail
                    go_end0
                    exact ⟨rfl, d2, R.out, L2.out, X0.out.trans X2.out (fun _ _ h => h)⟩
end Go.Proofs.YtigpaaelggnffaaGreatDoor.St

/- The library's stable sort, whole, over a row of elements of several cells: whatever its length. -/
namespace Go.Proofs.YtigpaaelggnffaaGreatDoor.St
open Go.Sort Go.RowKit Go.Proofs.YtigpaaelggnffaaGreatDoor.Lib Go.Proofs.YtigpaaelggnffaaGreatDoor.Sl
set_option linter.unusedVariables false
set_option linter.unusedSimpArgs false
variable {α : Type} [Inhabited α] {e g c n lf sf : Nat} {E : En α} {lb sb : Array Value} {lt : α → α → Bool}

theorem perm_up {a b : Nat} {d d' : Array α} (h : PermIn a b d d') (hb : b ≤ n) (hn : d.size = n) : PermIn 0 n d d' := permIn_mono d d' a b 0 n (Nat.zero_le _) hb (by omega) h
set_option maxRecDepth 100000 in
set_option maxHeartbeats 16000000 in
theorem stable_any {w0 : World} (eg : ∀ args w, (callFunc lf args).run Tryz.prog w = .ok (.enter lf args) w) (hS : SWO lt) (hle : LessOk Tryz.prog e E lf lb lt g c n w0) (hs : SwapOk Tryz.prog e E sf sb g c n) (hb : n ≤ 1048576)
    {W : World} {d : Array α} (hw : Ext (fun k => k = g) w0 W) (hl : Lies e E W g c d) (hn : d.size = n) :
    Calls Tryz.prog 70 #[.agg #[.func (.func lf) #[] lb, .func (.func sf) #[] sb], .int .i64 n] W fun en w' => RowEnd e E g c W (fun d' => PermIn 0 n d d' ∧ Srt lt 0 n d') en w' := by
  have IN := Lib.hid (fun (W : World) (d : Array α) (hw : Ext (fun k => k = g) w0 W) (hl : Lies e E W g c d) (hn : d.size = n) (a b : Nat) (hab : a ≤ b) (hbn : b ≤ n) => insertion_any eg hle hs hw hl hn hb a b hab hbn)
  have SM := Lib.hid (fun (W : World) (d : Array α) (hw : Ext (fun k => k = g) w0 W) (hl : Lies e E W g c d) (hn : d.size = n) (a m b : Nat) (ham : a < m) (hmb : m < b) (hbn : b ≤ n) (h1 : Srt lt a m d) (h2 : Srt lt m b d) => symMerge_any eg hS hle hs hb (b - a) W d hw hl hn a m b ham hmb hbn h1 h2 (Nat.le_refl _))
  have HS := Lib.hid hS
  have H := Lib.hid hs
  have X0 := Lib.hid ((Ext.refl (fun k => k = g) W).alloc (.cells #[.func (.func lf) #[] lb, .func (.func sf) #[] sb] 147))
  have L0 := Lib.hid (hl.ext ((Ext.refl (fun _ => False) W).alloc (.cells #[.func (.func lf) #[] lb, .func (.func sf) #[] sb] 147)) (fun h => h))
  have HG := Lib.hid hl.lt
  have HN := Lib.hid hn
  have B0 := Lib.hid (heap_alloc_new W (.cells #[.func (.func lf) #[] lb, .func (.func sf) #[] sb] 147))
  clear hs hl hn
  have HW0 := Lib.hid hw
  clear hle hw hS
  go_enter Tryz.func70, Tryz.ntmps70
  go_wp2_with fail
  obtain ⟨o, ho⟩ : ∃ o, W.heap.size = o := ⟨_, rfl⟩
  obtain ⟨W1, hW1⟩ : ∃ W1, W.alloc (.cells #[.func (.func lf) #[] lb, .func (.func sf) #[] sb] 147) = W1 := ⟨_, rfl⟩
  rw [hW1] at X0 L0 B0
  rw [ho] at B0 HG
  try rw [hW1]
  try rw [ho]
  clear hW1 ho
  have HW := Lib.hid (HW0.out.trans X0.out (fun _ _ h => h))
  go_loopw [5, 6] (fun va vb wr => ∃ (a : Nat) (d' : Array α), va = .int .i64 a ∧ vb = .int .i64 ((a : Int) + 20) ∧ a ≤ n ∧ Blocks lt 20 a d' ∧ PermIn 0 n d d' ∧ Lies e E wr g c d' ∧ Ext (fun k => k = g) W1 wr) (fun va _ _ => n + 1 - (intOf va).toNat)
  case atStart => exact ⟨0, d, rfl, by rfl, Nat.zero_le _, Blocks.start 20 (by decide) d, permIn_refl _ _ _, L0.out, Ext.refl _ _⟩
  case round =>
    obtain ⟨a, d', rfl, rfl, han, hbl, hp, hl, hx⟩ := hrel
    have BL := Lib.hid hbl
    have PE := Lib.hid hp
    have HL := Lib.hid hl
    have HX := Lib.hid hx
    have hob := hx.obj B0.out (fun h => by have := HG.out; omega)
    have c0 := blk_cell hob 0
    have c1 := blk_cell hob 1
    simp at c0 c1
    have HZ := Lib.hid (show d'.size = n from hp.1.trans HN.out)
    by_cases hlt : a + 20 ≤ n
    · have i1 : (a : Int) + 20 ≤ (n : Int) := by omega
      have CI := IN.out wr d' (HW.out.trans hx (fun _ _ h => h)) hl HZ.out a (a + 20) (by omega) hlt
      rw [show ((a + 20 : Nat) : Int) = (a : Int) + 20 by omega] at CI
      have CI := Lib.hid CI
      have IS := Lib.hid (insertionSort_holds HS.out d' a (a + 20) (by omega) (by rw [HZ.out]; exact hlt))
      clear hbl hp hl hx hob
      go_wp2_with fail
      refine CI.out.mono ?_
      rintro en W2 ⟨rfl, d2, rfl, hl2, hx2⟩
      have B2 := Lib.hid (BL.out.step IS.out.1 IS.out.2)
      have P2 := Lib.hid (permIn_trans _ _ _ 0 n PE.out (perm_up IS.out.1 hlt HZ.out))
      have L2 := Lib.hid hl2
      have X2 := Lib.hid (HX.out.trans hx2 (fun _ _ h => h))
      clear hl2 hx2 CI
      go_wp2_with fail
      go_roundw
      case rel => exact ⟨a + 20, _, by go_num, by go_num, hlt, B2.out, P2.out, L2.out, X2.out⟩
      case measure => simp [intOf]; omega
    · have i1 : ¬ (a : Int) + 20 ≤ (n : Int) := by omega
      have CI := Lib.hid (IN.out wr d' (HW.out.trans hx (fun _ _ h => h)) hl HZ.out a n han (Nat.le_refl _))
      have IS := Lib.hid (insertionSort_holds HS.out d' a n han (by rw [HZ.out]; exact Nat.le_refl _))
      clear hbl hp hl hx hob
      go_wp2_with fail
      refine CI.out.mono ?_
      rintro en W2 ⟨rfl, d2, rfl, hl2, hx2⟩
      have B2 := Lib.hid (BL.out.last (by decide) (by omega) IS.out.1 IS.out.2)
      have P2 := Lib.hid (permIn_trans _ _ _ 0 n PE.out (perm_up IS.out.1 (Nat.le_refl _) HZ.out))
      have L2 := Lib.hid hl2
      have X2 := Lib.hid (HX.out.trans hx2 (fun _ _ h => h))
      obtain ⟨dd, hdd⟩ : ∃ dd, insertionSort lt d' a n = dd := ⟨_, rfl⟩
      rw [hdd] at B2 P2 L2
      clear hl2 hx2 CI c0 c1 hdd IS
      go_wp2_with fail
      go_loopw [4] (fun vb wr2 => ∃ (bs : Nat) (d' : Array α), vb = .int .i64 bs ∧ 0 < bs ∧ bs ≤ 4194304 ∧ Parts lt bs n d' ∧ PermIn 0 n d d' ∧ Lies e E wr2 g c d' ∧ Ext (fun k => k = g) W1 wr2) (fun vb _ => n - (intOf vb).toNat)
      case atStart => exact ⟨20, dd, rfl, by decide, by decide, B2.out, P2.out, L2.out, X2.out⟩
      case round =>
        obtain ⟨bs, e1, rfl, hb0, hb1, hpa, hp, hl, hx⟩ := hrel
        have PA := Lib.hid hpa
        have PE2 := Lib.hid hp
        have HL2 := Lib.hid hl
        have HX2 := Lib.hid hx
        clear hpa hp hl hx
        by_cases hlt2 : bs < n
        · have i2 : (bs : Int) < (n : Int) := by omega
          go_wp2_with fail
          go_loopw [5, 6] (fun va vb wr3 => ∃ (a : Nat) (d' : Array α), va = .int .i64 a ∧ vb = .int .i64 ((a : Int) + 2 * (bs : Int)) ∧ a ≤ n ∧ Two lt bs a n d' ∧ PermIn 0 n d d' ∧ Lies e E wr3 g c d' ∧ Ext (fun k => k = g) W1 wr3) (fun va _ _ => n + 1 - (intOf va).toNat)
          case atStart => exact ⟨0, e1, rfl, by simp, Nat.zero_le _, Two.start hb0 PA.out, PE2.out, HL2.out, HX2.out⟩
          case round =>
            obtain ⟨a, d3, rfl, rfl, han, htw, hp, hl, hx⟩ := hrel
            have TW := Lib.hid htw
            have PE3 := Lib.hid hp
            have HL3 := Lib.hid hl
            have HX3 := Lib.hid hx
            have hob := hx.obj B0.out (fun h => by have := HG.out; omega)
            have c0 := blk_cell hob 0
            have c1 := blk_cell hob 1
            simp at c0 c1
            have HZ3 := Lib.hid (show d3.size = n from hp.1.trans HN.out)
            by_cases hlt3 : a + 2 * bs ≤ n
            · have i3 : (a : Int) + 2 * (bs : Int) ≤ (n : Int) := by omega
              have mg := htw.merges (by omega)
              rw [Nat.min_eq_left hlt3] at mg
              have CM := SM.out wr d3 (HW.out.trans hx (fun _ _ h => h)) hl HZ3.out a (a + bs) (a + 2 * bs) (by omega) (by omega) hlt3 mg.1 mg.2
              rw [show ((a + bs : Nat) : Int) = (a : Int) + (bs : Int) by omega, show ((a + 2 * bs : Nat) : Int) = (a : Int) + 2 * (bs : Int) by omega] at CM
              have CM := Lib.hid CM
              clear htw hp hl hx hob mg
              go_wp2_with fail
              refine CM.out.mono ?_
              rintro en W4 ⟨rfl, d4, hm4, hl4, hx4⟩
              have T4 := Lib.hid (TW.out.step hb0 hlt3 hm4)
              have P4 := Lib.hid (permIn_trans _ _ _ 0 n PE3.out (perm_up hm4.perm hlt3 HZ3.out))
              have L4 := Lib.hid hl4
              have X4 := Lib.hid (HX3.out.trans hx4 (fun _ _ h => h))
              clear hm4 hl4 hx4 CM
              go_wp2_with fail
              go_roundw
              case rel => exact ⟨a + 2 * bs, d4, by go_num, by go_num, hlt3, T4.out, P4.out, L4.out, X4.out⟩
              case measure => simp [intOf]; omega
            · have i3 : ¬ (a : Int) + 2 * (bs : Int) ≤ (n : Int) := by omega
              by_cases hlt4 : a + bs < n
              · have i4 : (a : Int) + (bs : Int) < (n : Int) := by omega
                have mg := htw.merges (by omega)
                rw [Nat.min_eq_right (by omega)] at mg
                have CM := SM.out wr d3 (HW.out.trans hx (fun _ _ h => h)) hl HZ3.out a (a + bs) n (by omega) (by omega) (Nat.le_refl _) mg.1 mg.2
                rw [show ((a + bs : Nat) : Int) = (a : Int) + (bs : Int) by omega] at CM
                have CM := Lib.hid CM
                clear htw hp hl hx hob mg
                go_wp2_with fail
                refine CM.out.mono ?_
                rintro en W4 ⟨rfl, d4, hm4, hl4, hx4⟩
                have T4 := Lib.hid (TW.out.last hb0 (by omega) hm4.sorted (fun k hk => hm4.perm.2.1 k (.inl hk)))
                have P4 := Lib.hid (permIn_trans _ _ _ 0 n PE3.out (perm_up hm4.perm (Nat.le_refl _) HZ3.out))
                have L4 := Lib.hid hl4
                have X4 := Lib.hid (HX3.out.trans hx4 (fun _ _ h => h))
                clear hm4 hl4 hx4 CM
                go_wp2_with fail
                go_roundw
                case rel => exact ⟨2 * bs, d4, by congr 1; omega, by omega, by omega, T4.out, P4.out, L4.out, X4.out⟩
                case measure => simp [intOf]; omega
              · have i4 : ¬ (a : Int) + (bs : Int) < (n : Int) := by omega
                have T4 := Lib.hid (htw.last hb0 (by omega) (by
                  have := htw.rest a (Nat.dvd_trans (Nat.dvd_mul_left _ _) htw.dvd) (Nat.le_refl _)
                  rwa [Nat.min_eq_right (by omega)] at this) (fun k hk => rfl))
                clear htw hp hl hx hob
                go_wp2_with fail
                go_roundw
                case rel => exact ⟨2 * bs, d3, by congr 1; omega, by omega, by omega, T4.out, PE3.out, HL3.out, HX3.out⟩
                case measure => simp [intOf]; omega
        · have i2 : ¬ (bs : Int) < (n : Int) := by omega
          have R := Lib.hid (PA.out.all (by omega))
          go_wp2_with fail
          go_end0
          exact ⟨rfl, e1, ⟨PE2.out, R.out⟩, HL2.out, X0.out.trans HX2.out (fun _ _ h => h)⟩
end Go.Proofs.YtigpaaelggnffaaGreatDoor.St
