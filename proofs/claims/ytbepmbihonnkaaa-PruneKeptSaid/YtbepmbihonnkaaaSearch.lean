/- sort.Search as spans.find calls it; spans.find, spans.In. -/
import Derived.Test.YtbepmbihonnkaaaSpanPure
import Derived.IntWalk
namespace Go.Proofs.Ytbepmbihonnkaaa.Sl
open Go.RowKit Go.Proofs.Ytbepmbihonnkaaa.Lib
set_option linter.unusedVariables false
set_option linter.unusedSimpArgs false

set_option maxHeartbeats 1000000 in
/-- sort.Search finds m where f tells, of each number below n, whether it is m or above. -/
theorem search_any (x y : Value) (n m : Nat) (hm : m ≤ n) (hn : n ≤ 1099511627776) (w : World)
    (hf : ∀ (h : Nat) (k : Nat), h < n → Calls Try.prog 94 #[.int .i64 h, x, y] (w.drewN k) fun e w' => e = .returned (.bool (decide (m ≤ h))) ∧ ∃ k', w.drewN k' = w') :
    Calls Try.prog 93 #[.int .i64 n, .func (.func 94) #[] #[x, y]] w fun e w' => e = .returned (.int .i64 m) ∧ ∃ k, w.drewN k = w' := by
  have HF := Lib.hid hf
  clear hf
  go_enter Try.func93, Try.ntmps93
  go_wp2_with fail
  go_loopw [5, 6] (fun i j wr => ∃ a b k : Nat, a ≤ m ∧ m ≤ b ∧ b ≤ n ∧ i = .int .i64 a ∧ j = .int .i64 b ∧ w.drewN k = wr) (fun i j _ => (intOf j).toNat - (intOf i).toNat)
  case atStart => exact ⟨0, n, 0, Nat.zero_le _, hm, Nat.le_refl _, rfl, rfl, rfl⟩
  case round =>
    obtain ⟨a, b, k, ha, hb, hbn, rfl, rfl, rfl⟩ := hrel
    by_cases hlt : a < b
    · have i1 : (a : Int) < (b : Int) := by omega
      have hh : (a + b) / 2 < n := by omega
      obtain ⟨h, eh⟩ : ∃ h, (a + b) / 2 = h := ⟨_, rfl⟩
      have EH := Lib.hid eh
      have hb1 : h < b := by omega
      have ha1 : a ≤ h := by omega
      have C := HF.out h k (by omega)
      rw [← eh] at C
      clear eh
      by_cases hc : m ≤ h
      · have d1 : decide (m ≤ (a + b) / 2) = true := decide_eq_true (by rw [EH.out]; exact hc)
        rw [d1] at C
        have C := Lib.hid C
        clear d1
        go_wp2_with fail
        refine C.out.mono ?_
        rintro e w' ⟨rfl, k', rfl⟩
        go_wp2_with fail
        go_roundw
        case rel => exact ⟨a, h, k', ha, hc, by omega, rfl, by rw [← EH.out]; rfl, rfl⟩
        case measure => have := EH.out; simp [intOf]; omega
      · have d1 : decide (m ≤ (a + b) / 2) = false := decide_eq_false (by rw [EH.out]; exact hc)
        rw [d1] at C
        have C := Lib.hid C
        clear d1
        go_wp2_with fail
        refine C.out.mono ?_
        rintro e w' ⟨rfl, k', rfl⟩
        go_wp2_with fail
        go_roundw
        case rel => exact ⟨h + 1, b, k', by omega, hb, hbn, by rw [← EH.out]; rfl, rfl, rfl⟩
        case measure => have := EH.out; simp [intOf]; omega
    · obtain rfl : a = m := by omega
      obtain rfl : b = a := by omega
      go_wp2_with fail
      go_ret
      exact ⟨rfl, k, rfl⟩

set_option maxHeartbeats 400000 in
theorem find1_any (b0 b1 : Nat) (w0 w : World) (p : Option Addr) (c : Nat) (l : List Spn) (r : Int) (h : Nat) (x : Spn) (hx : l[h]? = some x) (H : Rd eP w p l) (hl : l.length ≤ 1099511627776)
    (h0 : w.cell? ⟨b0, 0, none⟩ = some (.slice p l.length c)) (h1 : w.cell? ⟨b1, 0, none⟩ = some (.int .i32 r)) :
    Calls Try.prog 94 #[.int .i64 h, .pointer (some ⟨b0, 0, none⟩), .pointer (some ⟨b1, 0, none⟩)] w fun e w' => e = .returned (.bool (decide (r ≤ x.hi))) ∧ ∃ k', w.drewN k' = w' := by
  have hlt : h < l.length := (List.getElem?_eq_some_iff.1 hx).1
  obtain ⟨b, o, rfl, hb, e0, e1⟩ := H.cellP hx
  have i1 : (h : Int) < (l.length : Int) := by omega
  clear hx H
  go_enter Try.func94, Try.ntmps94
  go_wp2_with fail
  go_quiet (fail)
  go_wp2_with fail
  go_ret
  exact ⟨rfl, nq, rfl⟩

theorem find_tell {l : List Spn} (h : Ok l) (r : Int) {i : Nat} {x : Spn} (hx : l[i]? = some x) : decide (r ≤ x.hi) = decide (find l r ≤ i) := by
  by_cases hc : find l r ≤ i
  · rw [decide_eq_true hc]
    have hlt : find l r < l.length := Nat.lt_of_le_of_lt hc (List.getElem?_eq_some_iff.1 hx).1
    have e := List.getElem?_eq_getElem hlt
    have h1 := find_at e
    have h2 := (ok_mono h hc e hx).1
    exact decide_eq_true (by omega)
  · rw [decide_eq_false hc]
    have := find_lt (l := l) (r := r) (i := i) (by omega) hx
    exact decide_eq_false (by omega)

set_option maxHeartbeats 400000 in
theorem find_any (w : World) (p : Option Addr) (c : Nat) (l : List Spn) (r : Int) (H : Rd eP w p l) (hok : Ok l) (hl : l.length ≤ 1099511627776) :
    Calls Try.prog 89 #[.slice p l.length c, .int .i32 r] w fun e w' => e = .returned (.int .i64 (find l r)) ∧ Ext (fun _ => False) w w' := by
  have hx : Ext (fun _ => False) w ((w.alloc (.cells #[.slice p l.length c] 24)).alloc (.cells #[.int .i32 r] 21)) := ((Ext.refl _ w).alloc _).alloc _
  have b0 := blk_cell (blk_alloc (heap_alloc_new w (.cells #[.slice p l.length c] 24)) (.cells #[.int .i32 r] 21)) 0
  have b1 := blk_cell (heap_alloc_new (w.alloc (.cells #[.slice p l.length c] 24)) (.cells #[.int .i32 r] 21)) 0
  simp only [World.size_alloc] at b1
  have S := search_any (.pointer (some ⟨w.heap.size, 0, none⟩)) (.pointer (some ⟨w.heap.size + 1, 0, none⟩)) l.length (find l r) (find_le l r) hl ((w.alloc (.cells #[.slice p l.length c] 24)).alloc (.cells #[.int .i32 r] 21)) (fun h k hh => by
    have e := List.getElem?_eq_getElem hh
    refine (find1_any w.heap.size (w.heap.size + 1) w _ p c l r h _ e ?_ hl ?_ ?_).mono ?_
    · exact H.on (hx.drewN k)
    · exact b0
    · exact b1
    · rintro e1 w1 ⟨rfl, k', rfl⟩
      exact ⟨by rw [find_tell hok r e], k + k', by rw [World.drewN_drewN]⟩)
  have HS := Lib.hid S
  have HX := Lib.hid hx
  clear S b0 b1 hx H hok
  go_enter Try.func89, Try.ntmps89
  go_wp2_with fail
  refine HS.out.mono ?_
  rintro e w' ⟨rfl, k, rfl⟩
  go_wp2_with fail
  go_ret
  exact ⟨rfl, HX.out.drewN k⟩
end Go.Proofs.Ytbepmbihonnkaaa.Sl
