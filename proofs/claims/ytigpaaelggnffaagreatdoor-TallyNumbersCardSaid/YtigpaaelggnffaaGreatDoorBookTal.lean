/- tesserabook's Same, Roomy, Intact at tessera/tally.Row. -/
import Derived.Test.YtigpaaelggnffaaGreatDoorElTal
import Derived.Deep.DeepCutAuto
import Derived.Deep.LoopGhost
namespace Go.Proofs.YtigpaaelggnffaaGreatDoor.BookTal
open Go.RowKit Go.Proofs.YtigpaaelggnffaaGreatDoor.Lib Go.Proofs.YtigpaaelggnffaaGreatDoor.HeapPure Go.Proofs.YtigpaaelggnffaaGreatDoor.ElTal
set_option linter.unusedVariables false
set_option linter.unusedSimpArgs false

theorem eq_of_at {xs ys : List El} (hl : xs.length = ys.length) (h : ∀ i, i < xs.length → at_ xs i = at_ ys i) : xs = ys := by
  apply List.ext_getElem?
  intro i
  by_cases hi : i < xs.length
  · rw [at_get xs i hi, at_get ys i (by omega), h i hi]
  · rw [List.getElem?_eq_none (by omega), List.getElem?_eq_none (by omega)]

set_option maxHeartbeats 1000000 in
set_option maxRecDepth 100000 in
/-- Same. -/
theorem same_any (W : World) (p q : Option Addr) (c d : Nat) (xs ys : List El) (hx : RowR W p xs) (hy : RowR W q ys) (hb : xs.length ≤ 140737488351232) (hb2 : ys.length ≤ 140737488351232) :
    Calls Tryz.prog 19 #[.slice p xs.length c, .slice q ys.length d] W fun e w' => e = .returned (.bool (decide (xs = ys))) ∧ ∃ m, W.drewN m = w' := by
  by_cases hl : xs.length = ys.length
  · have HX := Lib.hid hx
    have HY := Lib.hid hy
    have hl1 : ((xs.length : Int) != (ys.length : Int)) = false := by simp [hl]
    have HL := Lib.hid hl
    have hl2 : xs.length ≤ ys.length := by omega
    clear hx hy hl
    go_enter Tryz.func19, Tryz.ntmps19
    go_wp2_with fail
    go_loopw [5] (fun i wr => ∃ k : Nat, k ≤ xs.length ∧ i = .int .i64 k ∧ (∀ j, j < k → at_ xs j = at_ ys j) ∧ ∃ m, W.drewN m = wr) (fun i _ => xs.length - (intOf i).toNat)
    case atStart => exact ⟨0, Nat.zero_le _, rfl, fun j hj => absurd hj (Nat.not_lt_zero _), 0, rfl⟩
    case round =>
      obtain ⟨k, hk, rfl, heq, m, rfl⟩ := hrel
      have HE := Lib.hid heq
      clear heq
      by_cases hlt : k < xs.length
      · obtain ⟨X, hX⟩ : ∃ X, at_ xs k = X := ⟨_, rfl⟩
        obtain ⟨Y, hY⟩ : ∃ Y, at_ ys k = Y := ⟨_, rfl⟩
        obtain ⟨b, o, rfl, hb0, e0, e1⟩ := HX.out.elem k hlt X hX
        obtain ⟨b', o', rfl, hb1, d0, d1⟩ := HY.out.elem k (by omega) Y hY
        have HXY := Lib.hid (And.intro hX hY)
        have i1 : (k : Int) < (xs.length : Int) := by omega
        have i2 : (k : Int) < (ys.length : Int) := by omega
        clear hX hY
        by_cases hc : X = Y
        · subst hc
          have hq := fun W => el_neq X X W
          simp only [decide_true, Bool.not_true] at hq
          go_wp2_with fail
          go_quiet (fail)
          go_wp2_with fail
          go_roundw
          case rel => exact ⟨k + 1, by omega, by go_num, fun j hj => by rcases Nat.lt_or_ge j k with h | h; exact HE.out j h; rw [show j = k by omega, HXY.out.1, HXY.out.2], m + nq, by first | rfl | rw [World.drewN_drewN]⟩
          case measure => simp [intOf]; omega
        · have hne : decide (xs = ys) = false := by simp; intro e; exact hc (by rw [← HXY.out.1, ← HXY.out.2, e])
          have HN := Lib.hid hne
          have hq := fun W => el_neq X Y W
          rw [decide_eq_false hc, Bool.not_false] at hq
          clear hne
          have HC := Lib.hid hc
          clear hc
          go_wp2_with fail
          go_quiet (fail)
          go_wp2_with fail
          go_ret
          exact ⟨ret_bool HN.out.symm, m + nq, by first | rfl | rw [World.drewN_drewN]⟩
      · have hk2 : k = xs.length := by omega
        subst hk2
        go_wp2_with fail
        go_ret
        exact ⟨ret_bool (by rw [decide_eq_true (eq_of_at HL.out HE.out)]), m, rfl⟩
  · have hl1 : ((xs.length : Int) != (ys.length : Int)) = true := by simp; omega
    have hne : decide (xs = ys) = false := by simp; intro e; exact hl (by rw [e])
    have HN := Lib.hid hne
    clear hx hy hl hne
    go_enter Tryz.func19, Tryz.ntmps19
    go_wp2_with fail
    go_ret
    exact ⟨ret_bool HN.out.symm, 0, rfl⟩

/-- xs, and k marks behind it, at the row's begin. -/
def FillSt (W w : World) (a N : Nat) (xs : List El) (x : El) (k : Nat) : Prop :=
  (∃ R, Arr w 45 2 (some ⟨a, 0, none⟩) N N (flat (xs ++ List.replicate k x) ++ R)) ∧ Ext (fun _ => False) W w ∧ W.heap.size < a + 1 ∧ a < w.heap.size ∧ w.heap[W.heap.size]? = some (.cells #[.int .i64 x.f0, .int .i64 x.f1] 45 (0, 0)) ∧ W.heap.size < a
theorem ext_set' {W w : World} (h : Ext (fun _ => False) W w) {a : Nat} (ha : W.heap.size ≤ a) (k : Nat) (Y : El) : Ext (fun _ => False) W ((w.setCell ⟨a, k * 2, none⟩ (.int .i64 Y.f0)).setCell ⟨a, k * 2 + 1, none⟩ (.int .i64 Y.f1)) := ext_set h (fun h => by omega) k Y
theorem copy_src {w : World} {p : Option Addr} {xs : List El} (h : RowR w p xs) : ∀ ad, p = some ad → ∀ j u, (flat xs)[j]? = some u → w.cell? (ad.add j) = some u := by
  rintro ad rfl j u hu
  have hj : j < xs.length * 2 := by
    have := (List.getElem?_eq_some_iff.1 hu).1
    rwa [flat_length] at this
  obtain ⟨b, o, hp, hb, hc⟩ := h (j / 2) (by omega)
  obtain rfl := Option.some.inj hp
  have h1 := hc (j % 2) (by omega)
  have h2 := flat_get xs (j / 2) (j % 2) (by omega) (by omega)
  have e : j / 2 * 2 + j % 2 = j := by omega
  rw [e] at h2
  rw [Nat.add_assoc, e] at h1
  rw [Addr.add_lit, h1, ← h2, hu]
theorem FillSt.step {W w : World} {a N k : Nat} {xs : List El} {x : El} (h : FillSt W w a N xs x k) (hk : xs.length + k < N) : FillSt W ((w.setCell ⟨a, (xs.length + k) * 2, none⟩ (.int .i64 x.f0)).setCell ⟨a, (xs.length + k) * 2 + 1, none⟩ (.int .i64 x.f1)) a N xs x (k + 1) := by
  obtain ⟨⟨R, hR⟩, hx, ha, ha2, hbx, hbl⟩ := h
  have hl := hR.1
  rw [List.length_append, flat_length, List.length_append, List.length_replicate] at hl
  have hn : 2 ≤ R.length := by omega
  refine ⟨⟨R.drop 2, ?_⟩, ext_set' hx (by omega) _ _, ha, by simpa using ha2, blk_set' hbx (by omega) _ _, hbl⟩
  have e := flat_fill (xs ++ List.replicate k x) R x hn
  rw [List.append_assoc, ← List.replicate_succ', List.length_append, List.length_replicate] at e
  rw [← e]
  exact arr_set (arr_set (hR) ((xs.length + k) * 2) (.int .i64 x.f0)) ((xs.length + k) * 2 + 1) (.int .i64 x.f1)

set_option maxHeartbeats 1000000 in
set_option maxRecDepth 100000 in
/-- Roomy: the list, and 80 marks behind it, in new memory. -/
theorem roomy_any (W : World) (p : Option Addr) (c : Nat) (xs : List El) (x : El) (hx : RowR W p xs) (hp : p = none → xs = []) (hb : xs.length ≤ 1000000) :
    Calls Tryz.prog 20 #[.slice p xs.length c, .agg #[.int .i64 x.f0, .int .i64 x.f1]] W fun e w' => ∃ a, e = .returned (.slice (some ⟨a, 0, none⟩) (xs.length + 80) (xs.length + 80)) ∧ Row w' (some ⟨a, 0, none⟩) (xs.length + 80) (xs ++ List.replicate 80 x) ∧ Ext (fun _ => False) W w' ∧ W.heap.size ≤ a ∧ a < w'.heap.size := by
  have HX := Lib.hid hx
  have HP := Lib.hid hp
  clear hx hp
  go_enter Tryz.func20, Tryz.ntmps20
  go_wp2_with (first
    | (at_make; (refine arr_make rfl (.tmp 9) (.tmp 9) 33 45 2 16 (.agg #[.int .i64 0, .int .i64 0]) rfl Tryz.underlying33 infoE .i64 .i64 _ _ (xs.length + 80) rfl rfl (by omega) (by omega) (by omega) (by decide) rfl ?_); intro w1 hA hx1; (try simp only [World.size_alloc] at hA))
    | (have _g := hx1; (refine arr_copy rfl (.tmp 11) (.tmp 12) 33 33 45 2 16 (.agg #[.int .i64 0, .int .i64 0]) rfl Tryz.underlying33 infoE _ _ _ _ rfl p xs.length c rfl (by omega) (flat xs) (flat_length xs) (copy_src (HX.out.ext (((Ext.refl (fun _ => False) W).alloc _).trans hx1 (fun _ _ h => h)) (fun _ _ _ h => h))) (fun h => by rw [HP.out h]; rfl) (flat_one_cell xs) hA ?_); intro w2 hA2 hx2))
  have HS : FillSt W w2 (W.heap.size + 1) (xs.length + 80) xs x 0 := by
    refine ⟨⟨_, by simpa using hA2⟩, (((Ext.refl (fun _ => False) W).alloc _).trans hx1 (fun _ _ h => h)).trans hx2 (fun i hi h => by omega), by omega, arr_lt hA2 rfl, hx2.obj (hx1.obj (heap_alloc_new W _) (fun h => h)) (by omega), by omega⟩
  have HS := Lib.hid HS
  clear hA hA2 hx1 hx2
  go_loopw [6] (fun i wr => ∃ k : Nat, k ≤ 80 ∧ i = .int .i64 ((xs.length + k : Nat) : Int) ∧ FillSt W wr (W.heap.size + 1) (xs.length + 80) xs x k) (fun i _ => xs.length + 80 - (intOf i).toNat)
  case atStart => exact ⟨0, by omega, by go_num, HS.out⟩
  case round =>
    obtain ⟨k, hk, rfl, hst⟩ := hrel
    have HST := Lib.hid hst
    obtain ⟨⟨R, hR⟩, hx, ha, ha2, hbx, hbl⟩ := hst
    by_cases hlt : k < 80
    · have T := Lib.hid (HST.out.step (by omega))
      have i1 : ((xs.length + k : Nat) : Int) < ((xs.length + 80 : Nat) : Int) := by omega
      have hRl := hR.1
      rw [List.length_append, flat_length, List.length_append, List.length_replicate] at hRl
      have q0 := blk_cell hbx 0
      simp at q0
      have q1 := blk_cell hbx 1
      simp at q1
      clear hbx
      obtain ⟨u0, hu0⟩ : ∃ u, wr.cell? ⟨(W.heap.size + 1), (xs.length + k) * 2, none⟩ = some u := ⟨_, (arr_cell hR _ (by omega)).trans (List.getElem?_eq_getElem (by rw [List.length_append, flat_length, List.length_append, List.length_replicate]; omega))⟩
      have hf0 := arr_frozen hR ((xs.length + k) * 2)
      obtain ⟨u1, hu1⟩ : ∃ u, wr.cell? ⟨(W.heap.size + 1), (xs.length + k) * 2 + 1, none⟩ = some u := ⟨_, (arr_cell hR _ (by omega)).trans (List.getElem?_eq_getElem (by rw [List.length_append, flat_length, List.length_append, List.length_replicate]; omega))⟩
      have hf1 := arr_frozen hR ((xs.length + k) * 2 + 1)
      clear hR hx hRl
      obtain ⟨i, hi⟩ : ∃ i, xs.length + k = i := ⟨_, rfl⟩
      rw [hi] at T i1 hu0 hf0 hu1 hf1 ⊢
      have HI := Lib.hid hi
      clear hi
      go_wp2_with fail
      go_roundw
      case rel => exact ⟨k + 1, by omega, by have hh := HI.out; congr 1; omega, T.out⟩
      case measure => have hh := HI.out; simp [intOf]; omega
    · obtain rfl : k = 80 := by omega
      go_wp2_with fail
      go_ret
      refine ⟨(W.heap.size + 1), rfl, ?_, hx, by omega, ha2⟩
      have hl := hR.1
      rw [List.length_append, flat_length, List.length_append, List.length_replicate] at hl
      have hR0 : R = [] := List.eq_nil_of_length_eq_zero (by omega)
      rw [hR0, List.append_nil] at hR
      unfold Row
      rw [List.length_append, List.length_replicate]
      exact hR

set_option maxHeartbeats 1000000 in
set_option maxRecDepth 100000 in
/-- Intact: what Roomy made is as it was. -/
theorem intact_any (W : World) (p q : Option Addr) (c d : Nat) (xs : List El) (x : El) (hx : RowR W p (xs ++ List.replicate 80 x)) (hy : RowR W q xs) (hb : xs.length ≤ 1000000) (hc : xs.length + 80 ≤ c) :
    Calls Tryz.prog 25 #[.slice p (xs.length + 80) c, .slice q xs.length d, .agg #[.int .i64 x.f0, .int .i64 x.f1]] W fun e w' => e = .returned (.bool true) ∧ Ext (fun _ => False) W w' := by
  have hlen : (xs ++ List.replicate 80 x).length = xs.length + 80 := by simp
  have HX := Lib.hid (hx.ext ((Ext.refl (fun _ => False) W).alloc (.cells #[.int .i64 x.f0, .int .i64 x.f1] 45)) (fun _ _ _ h => h))
  have ht : (xs ++ List.replicate 80 x).take xs.length = xs := List.take_left' rfl
  have hS := same_any (W.alloc (.cells #[.int .i64 x.f0, .int .i64 x.f1] 45)) p q c d ((xs ++ List.replicate 80 x).take xs.length) xs (RowR.take HX.out xs.length (by omega)) (hy.ext ((Ext.refl (fun _ => False) W).alloc (.cells #[.int .i64 x.f0, .int .i64 x.f1] 45)) (fun _ _ _ h => h)) (by rw [ht]; omega) (by omega)
  rw [ht, decide_eq_true rfl] at hS
  have HS := Lib.hid hS
  have HL := Lib.hid hlen
  have hcc : (xs.length : Int) ≤ (c : Int) := by omega
  clear hx hy hlen ht hS
  go_enter Tryz.func25, Tryz.ntmps25
  go_wp2_with fail
  refine HS.out.mono ?_
  rintro e w1 ⟨rfl, m, rfl⟩
  go_wp2_with fail
  go_loopw [7] (fun i wr => ∃ k : Nat, k ≤ 80 ∧ i = .int .i64 ((xs.length + k : Nat) : Int) ∧ ∃ m, (W.alloc (.cells #[.int .i64 x.f0, .int .i64 x.f1] 45)).drewN m = wr) (fun i _ => xs.length + 80 - (intOf i).toNat)
  case atStart => exact ⟨0, by omega, by go_num, m, rfl⟩
  case round =>
    obtain ⟨k, hk, rfl, m, rfl⟩ := hrel
    by_cases hlt : k < 80
    · have hat : at_ (xs ++ List.replicate 80 x) (xs.length + k) = x := by
        unfold at_
        rw [List.getD_eq_getElem?_getD, List.getElem?_append_right (by omega), Nat.add_sub_cancel_left, List.getElem?_replicate, if_pos hlt]; rfl
      obtain ⟨b, o, rfl, hb0, d0, d1⟩ := HX.out.elem (xs.length + k) (by rw [HL.out]; omega) x hat
      have i1 : ((xs.length + k : Nat) : Int) < (xs.length : Int) + 80 := by omega
      obtain ⟨i, hi⟩ : ∃ i, xs.length + k = i := ⟨_, rfl⟩
      rw [hi] at i1 d0 d1 ⊢
      have HI := Lib.hid hi
      have hq := fun W => el_neq x x W
      simp only [decide_true, Bool.not_true] at hq
      clear hi hat
      go_wp2_with fail
      go_quiet (fail)
      go_wp2_with fail
      go_roundw
      case rel => exact ⟨k + 1, by omega, by have hh := HI.out; congr 1; omega, m + nq, by first | rfl | rw [World.drewN_drewN]⟩
      case measure => have hh := HI.out; simp [intOf]; omega
    · obtain rfl : k = 80 := by omega
      go_wp2_with fail
      go_ret
      exact ⟨rfl, ((Ext.refl _ W).alloc (.cells #[.int .i64 x.f0, .int .i64 x.f1] 45)).drewN m⟩
end Go.Proofs.YtigpaaelggnffaaGreatDoor.BookTal
