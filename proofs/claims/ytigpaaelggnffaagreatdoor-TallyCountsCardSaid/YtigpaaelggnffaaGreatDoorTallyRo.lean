/- tesseraref23.Order. -/
import Derived.Test.YtigpaaelggnffaaGreatDoorTallyPl
import Derived.Test.YtigpaaelggnffaaGreatDoorTallyOrd
import Derived.BigQuiet
import Derived.Deep.QuietTactic
namespace Go.Proofs.YtigpaaelggnffaaGreatDoor.Ty
open Go.RowKit Go.Proofs.YtigpaaelggnffaaGreatDoor.Lib Go.Proofs.YtigpaaelggnffaaGreatDoor.Sl Go.Proofs.YtigpaaelggnffaaGreatDoor.Bpe Go.Proofs.YtigpaaelggnffaaGreatDoor.Cut
set_option linter.unusedVariables false
set_option linter.unusedSimpArgs false

theorem flat_setR (y : TRow) : ∀ (C : List TRow) (k : Nat), flat eTR (C.set k y) = ((flat eTR C).set (k * 2) (.int .i64 y.id)).set (k * 2 + 1) (.int .i64 y.n)
  | [], k => by simp [flat]
  | x :: C, 0 => by simp [flat, eTR]
  | x :: C, k + 1 => by
    have := flat_setR y C k
    rw [List.set_cons_succ, flat_cons, flat_cons, this, show (k + 1) * 2 = k * 2 + 1 + 1 by omega]
    simp [eTR]
/-- An insertion under way: x is to be laid among S; C is the list, k the place that is free. -/
structure InsSt (S : List TRow) (x : TRow) (C : List TRow) (k : Nat) : Prop where
  len : C.length = S.length + 1
  le : k ≤ S.length
  lo : ∀ j, j < k → C[j]? = S[j]?
  hi : ∀ j, k ≤ j → C[j + 1]? = S[j]?
  up : ∀ j y, k ≤ j → S[j]? = some y → ltR x y = true
theorem InsSt.begin (S : List TRow) (x : TRow) : InsSt S x (S ++ [x]) S.length :=
  ⟨by simp, Nat.le_refl _, fun j hj => List.getElem?_append_left hj, fun j hj => by rw [List.getElem?_eq_none (by simp; omega), List.getElem?_eq_none hj], fun j y hj h => by rw [List.getElem?_eq_none hj] at h; cases h⟩
theorem InsSt.step {S : List TRow} {x y : TRow} {C : List TRow} {k : Nat} (h : InsSt S x C (k + 1)) (hy : S[k]? = some y) (hl : ltR x y = true) : InsSt S x (C.set (k + 1) y) k := by
  have h1 := h.len
  have h2 := h.le
  refine ⟨by rw [List.length_set, h1], by omega, fun j hj => ?_, fun j hj => ?_, fun j z hj hz => ?_⟩
  · rw [List.getElem?_set_ne (by omega)]; exact h.lo j (by omega)
  · by_cases e : j = k
    · subst e; rw [List.getElem?_set_self (by omega), hy]
    · rw [List.getElem?_set_ne (by omega)]; exact h.hi j (by omega)
  · by_cases e : j = k
    · subst e; rw [hy] at hz; cases hz; exact hl
    · exact h.up j z (by omega) hz
theorem InsSt.fin {S : List TRow} {x : TRow} {C : List TRow} {k : Nat} (h : InsSt S x C k) : C.set k x = S.take k ++ x :: S.drop k := by
  have h1 := h.len
  have h2 := h.le
  apply List.ext_getElem?
  intro i
  have ht : (S.take k).length = k := by rw [List.length_take]; omega
  by_cases e1 : i < k
  · rw [List.getElem?_set_ne (by omega), h.lo i e1, List.getElem?_append_left (by omega), List.getElem?_take_of_lt e1]
  · by_cases e2 : i = k
    · subst e2
      rw [List.getElem?_set_self (by omega), List.getElem?_append_right (by omega), ht, Nat.sub_self]
      rfl
    · obtain ⟨j, rfl⟩ : ∃ j, i = j + 1 := ⟨i - 1, by omega⟩
      rw [List.getElem?_set_ne (by omega), h.hi j (by omega), List.getElem?_append_right (by omega), ht, show j + 1 - k = (j - k) + 1 by omega, List.getElem?_cons_succ, List.getElem?_drop, show k + (j - k) = j by omega]
theorem ins_ord {l : List TRow} {x : TRow} {C : List TRow} {k : Nat} (h : InsSt (ordR l) x C k) (he : k = 0 ∨ ∃ y, (ordR l)[k - 1]? = some y ∧ ltR x y = false) : C.set k x = ordR (l ++ [x]) := by
  rw [h.fin]
  have hs := ordR_sorted l
  have hp := ordR_perm l
  obtain ⟨S, hS⟩ : ∃ S, ordR l = S := ⟨_, rfl⟩
  rw [hS] at h he hs hp ⊢
  refine ordR_is ?_ ?_
  · have e1 : (S.take k ++ x :: S.drop k).Perm (x :: (S.take k ++ S.drop k)) := List.perm_middle
    rw [List.take_append_drop] at e1
    exact e1.trans ((List.Perm.cons x hp).trans (List.perm_append_comm (l₁ := [x]) (l₂ := l)))
  · have hs2 := hs
    rw [← List.take_append_drop k S, List.pairwise_append] at hs2
    obtain ⟨p1, p2, p3⟩ := hs2
    rw [List.pairwise_append, List.pairwise_cons]
    have hx2 : ∀ z ∈ S.drop k, ltR x z = true := fun z hz => by
      obtain ⟨j, hj⟩ := List.mem_iff_getElem?.1 hz
      rw [List.getElem?_drop] at hj
      exact h.up (k + j) z (by omega) hj
    refine ⟨p1, ⟨fun z hz => ?_, p2⟩, fun a ha z hz => ?_⟩
    · have := hx2 z hz
      rw [ltR_iff] at this
      rw [ltR_false]
      omega
    · rcases List.mem_cons.1 hz with rfl | hz
      · rcases he with rfl | ⟨y, hy, hl⟩
        · simp at ha
        · obtain ⟨j, hj⟩ := List.mem_iff_getElem?.1 ha
          have hjk : j < k := by
            have := (List.getElem?_eq_some_iff.1 hj).1
            rw [List.length_take] at this
            omega
          rw [List.getElem?_take_of_lt hjk] at hj
          by_cases e : j = k - 1
          · subst e; rw [hy] at hj; cases hj; exact hl
          · have := List.pairwise_iff_getElem.1 hs j (k - 1) (List.getElem?_eq_some_iff.1 hj).1 (List.getElem?_eq_some_iff.1 hy).1 (by omega)
            rw [(List.getElem?_eq_some_iff.1 hj).2, (List.getElem?_eq_some_iff.1 hy).2] at this
            rw [ltR_false] at this hl ⊢
            omega
      · exact p3 a ha z hz
theorem cellRR {w : World} {p : Option Addr} {l : List TRow} (h : Sl.Rd eTR w p l) {i : Nat} {x : TRow} (hi : l[i]? = some x) : ∃ b o, p = some ⟨b, o, none⟩ ∧ b < w.heap.size ∧
    w.cell? ⟨b, o + i * 2, none⟩ = some (.int .i64 x.id) ∧ w.cell? ⟨b, o + i * 2 + 1, none⟩ = some (.int .i64 x.n) := by
  obtain ⟨b, o, hp, hb, hc⟩ := h i x hi
  exact ⟨b, o, hp, hb, by simpa [eTR] using hc 0 (by decide), by simpa [eTR] using hc 1 (by decide)⟩
structure RoEnd (w : World) (l : List TRow) (e : Ending) (w' : World) : Prop where
  is : ∃ p c, e = .returned (.slice p l.length c) ∧ Arr w' 94 2 p l.length c (flat eTR (ordR l)) ∧ Ext (fun _ => False) w w'
structure RoSt (w W : World) (l : List TRow) (i : Nat) (p : Option Addr) (c : Nat) : Prop where
  arr : Arr W 94 2 p i c (flat eTR (ordR (l.take i)))
  ext : Ext (fun _ => False) w W
  fr : ∀ j, blkOf p = some j → w.heap.size ≤ j
/-- A round of the inner loop: the list C lies at a. -/
structure InSt (w1 W : World) (a n c : Nat) (S : List TRow) (x : TRow) (C : List TRow) (k : Nat) : Prop where
  ins : InsSt S x C k
  arr : Arr W 94 2 (some ⟨a, 0, none⟩) n c (flat eTR C)
  ext : Ext (fun j => j = a) w1 W
theorem InSt.put {w1 W : World} {a n c k : Nat} {S C : List TRow} {x : TRow} (h : InSt w1 W a n c S x C k) (y : TRow) (m : Nat) : Arr ((W.setCell ⟨a, m * 2, none⟩ (.int .i64 y.id)).setCell ⟨a, m * 2 + 1, none⟩ (.int .i64 y.n)) 94 2 (some ⟨a, 0, none⟩) n c (flat eTR (C.set m y)) ∧ Ext (fun j => j = a) w1 ((W.setCell ⟨a, m * 2, none⟩ (.int .i64 y.id)).setCell ⟨a, m * 2 + 1, none⟩ (.int .i64 y.n)) := by
  rw [flat_setR]
  exact ⟨arr_set (arr_set h.arr _ _) _ _, (h.ext.setCell (p := ⟨a, _, none⟩) (fun _ => rfl) _).setCell (p := ⟨a, _, none⟩) (fun _ => rfl) _⟩
theorem InSt.drewN {w1 W : World} {a n c k : Nat} {S C : List TRow} {x : TRow} (h : InSt w1 W a n c S x C k) (m : Nat) : InSt w1 (W.drewN m) a n c S x C k :=
  ⟨h.ins, arr_ext h.arr ((Ext.refl (fun _ => False) W).drewN m) (fun _ _ h => h), h.ext.drewN m⟩
theorem InSt.cells {w1 W : World} {a n c k : Nat} {S C : List TRow} {x : TRow} (h : InSt w1 W a n c S x C k) (hn : n = S.length + 1) {m : Nat} (hm : m < n) : (∃ u, W.cell? ⟨a, m * 2, none⟩ = some u) ∧ W.frozen? ⟨a, m * 2, none⟩ = false ∧ (∃ u, W.cell? ⟨a, m * 2 + 1, none⟩ = some u) ∧ W.frozen? ⟨a, m * 2 + 1, none⟩ = false := by
  have hl := arr_len h.arr
  exact ⟨⟨_, (arr_cell h.arr _ (by omega)).trans (List.getElem?_eq_getElem (by omega))⟩, arr_frozen h.arr _, ⟨_, (arr_cell h.arr _ (by omega)).trans (List.getElem?_eq_getElem (by omega))⟩, arr_frozen h.arr _⟩
theorem InSt.at {w1 W : World} {a n c k m : Nat} {S C : List TRow} {x y : TRow} (h : InSt w1 W a n c S x C k) (hm : m < k) (hy : S[m]? = some y) : W.cell? ⟨a, m * 2, none⟩ = some (.int .i64 y.id) ∧ W.cell? ⟨a, m * 2 + 1, none⟩ = some (.int .i64 y.n) := by
  have hc : C[m]? = some y := (h.ins.lo m hm).trans hy
  obtain ⟨b, o, hp, _, h0, h1⟩ := cellRR (Rd.of_arr h.arr) hc
  injection hp with hp
  injection hp with e1 e2
  subst e1 e2
  rw [Nat.zero_add] at h0 h1
  exact ⟨h0, h1⟩
theorem InSt.shift {w1 W : World} {a n c k : Nat} {S C : List TRow} {x y : TRow} (h : InSt w1 W a n c S x C (k + 1)) (hy : S[k]? = some y) (hl : ltR x y = true) : InSt w1 ((W.setCell ⟨a, (k + 1) * 2, none⟩ (.int .i64 y.id)).setCell ⟨a, (k + 1) * 2 + 1, none⟩ (.int .i64 y.n)) a n c S x (C.set (k + 1) y) k :=
  ⟨h.ins.step hy hl, (h.put y (k + 1)).1, (h.put y (k + 1)).2⟩
set_option maxRecDepth 100000 in
set_option maxHeartbeats 8000000 in
theorem orderR_any (w : World) (p : Option Addr) (c : Nat) (l : List TRow) (hl : Rd eTR w p l) (hn : l.length ≤ 1048576) :
    Calls Tryz.prog 23 #[.slice p l.length c] w fun e w' => RoEnd w l e w' := by
  have HL := Lib.hid hl
  have h0 := arr_nil w 94 2
  have S0 := Lib.hid (show RoSt w w l 0 none 0 from ⟨by rw [List.take_zero, ordR_tiny (by simp)]; exact h0, Ext.refl _ _, fun j hj => by cases hj⟩)
  clear hl h0
  go_enter Tryz.func23, Tryz.ntmps23
  go_wp2_with fail
  go_loopw [3, 4] (fun v vk wr => ∃ (i : Nat) (p1 : Option Addr) (c1 : Nat), v = .slice p1 i c1 ∧ vk = .int .i64 i ∧ i ≤ l.length ∧ RoSt w wr l i p1 c1) (fun _ vk _ => l.length - (intOf vk).toNat)
  case atStart => exact ⟨0, none, 0, rfl, rfl, Nat.zero_le _, S0.out⟩
  case round =>
    obtain ⟨i, p1, c1, rfl, rfl, hi, hst⟩ := hrel
    have ST := Lib.hid hst
    by_cases hlt : i < l.length
    · have i1 : (i : Int) < (l.length : Int) := by omega
      obtain ⟨x, hget⟩ : ∃ x, l[i]? = some x := ⟨_, List.getElem?_eq_getElem hlt⟩
      have CE0 : ∃ b o, p = some ⟨b, o, none⟩ ∧ b < w.heap.size ∧ w.cell? ⟨b, o + i * 2, none⟩ = some (.int .i64 x.id) ∧ w.cell? ⟨b, o + i * 2 + 1, none⟩ = some (.int .i64 x.n) := cellRR HL.out hget
      obtain ⟨b, o, rfl, hb, hc0, hc1⟩ := CE0
      have SN := Lib.hid (show l.take (i + 1) = l.take i ++ [x] from by rw [List.take_add_one, hget]; rfl)
      have CL := Lib.hid (And.intro hb (And.intro hc0 hc1))
      have c0 := (hst.ext.cell (p := ⟨b, _, none⟩) hb (fun h => h)).trans hc0
      have c1' := (hst.ext.cell (p := ⟨b, _, none⟩) hb (fun h => h)).trans hc1
      have SL := Lib.hid (show (ordR (l.take i)).length = i from by rw [ordR_length, List.length_take]; omega)
      obtain ⟨xi, xn⟩ := x
      simp only at c0 c1'
      have A1 := Lib.hid hst.arr
      obtain ⟨n, hn1⟩ : ∃ n, i + 1 = n := ⟨_, rfl⟩
      have fin : ∀ (p3 : Option Addr) (c3 : Nat) (w3 : World), Arr w3 94 2 p3 (i + 1) c3 (flat eTR (ordR (l.take i)) ++ [.int .i64 xi, .int .i64 xn]) → Ext (fun j => blkOf p1 = some j) wr w3 → Moved wr p1 p3 → ∃ a, p3 = some ⟨a, 0, none⟩ ∧ w.heap.size ≤ a ∧ Ext (fun _ => False) w w3 ∧ InSt w3 w3 a n c3 (ordR (l.take i)) ⟨xi, xn⟩ (ordR (l.take i) ++ [⟨xi, xn⟩]) i := fun p3 c3 w3 hA hx hm => by
        obtain ⟨a, rfl⟩ := arr_some hA (by omega)
        have hb3 := InsSt.begin (ordR (l.take i)) ⟨xi, xn⟩
        rw [SL.out] at hb3
        refine ⟨a, rfl, ?_, ST.out.ext.trans hx (fun i hi e => by have := ST.out.fr i e; omega), hb3, by rw [flat_append, ← hn1]; exact hA, Ext.refl _ _⟩
        rcases hm a rfl with h | h
        · exact ST.out.fr a h
        · have := ST.out.ext.size; omega
      have FIN := Lib.hid fin
      clear hst hget fin hb hc0 hc1
      go_wp2_with (at_builtin; refine arr_append1 rfl (.tmp 14) (.tmp 19) 39 94 2 16 (.agg #[.int .i64 0, .int .i64 0]) rfl Tryz.underlying39 infoF rfl (by decide) (by decide) p1 i c1 (flat eTR (ordR (l.take i))) [.int .i64 xi, .int .i64 xn] rfl _ rfl (by simp) rfl (by simp [Value.oneCell']) A1.out (by omega) ?_; intro p3 c3 w3 hA3 hx3 hm3)
      have F3 := FIN.out p3 c3 w3 hA3 hx3 hm3
      obtain ⟨a, rfl, ha, hX3, hI3⟩ := F3
      have X3 := Lib.hid hX3
      have HN := Lib.hid hn1
      try rw [hn1]
      have hin : i < n := by omega
      have i2 : (i : Int) < (n : Int) := by omega
      obtain ⟨S, hS⟩ : ∃ S, ordR (l.take i) = S := ⟨_, rfl⟩
      have HS := Lib.hid hS
      rw [hS] at hI3 SL
      have I3 := Lib.hid hI3
      have LC := Lib.hid (show ∀ W, Ext (fun j => j = a) w3 W → W.cell? ⟨b, o + i * 2, none⟩ = some (.int .i64 xi) ∧ W.cell? ⟨b, o + i * 2 + 1, none⟩ = some (.int .i64 xn) from fun W hx => by
        obtain ⟨h1, h2, h3⟩ := CL.out
        have hbs : b < w3.heap.size := by have := hX3.size; omega
        exact ⟨((hx.cell (p := ⟨b, _, none⟩) hbs (by show ¬ b = a; omega)).trans (hX3.cell (p := ⟨b, _, none⟩) h1 (fun h => h))).trans h2, ((hx.cell (p := ⟨b, _, none⟩) hbs (by show ¬ b = a; omega)).trans (hX3.cell (p := ⟨b, _, none⟩) h1 (fun h => h))).trans h3⟩)
      have END := Lib.hid (show ∀ (C : List TRow) (k : Nat) (W : World), InSt w3 W a n c3 S ⟨xi, xn⟩ C k → (k = 0 ∨ ∃ y, S[k - 1]? = some y ∧ ltR ⟨xi, xn⟩ y = false) → RoSt w ((W.setCell ⟨a, k * 2, none⟩ (.int .i64 xi)).setCell ⟨a, k * 2 + 1, none⟩ (.int .i64 xn)) l (i + 1) (some ⟨a, 0, none⟩) c3 from fun C k W h he => by
        obtain ⟨h1, h2⟩ := h.put ⟨xi, xn⟩ k
        have e := ins_ord (l := l.take i) (x := ⟨xi, xn⟩) (C := C) (k := k) (by rw [HS.out]; exact h.ins) (by rw [HS.out]; exact he)
        refine ⟨by rw [SN.out, ← e, HN.out]; exact h1, X3.out.trans h2 (fun j hj e => by omega), fun j hj => ?_⟩
        have : a = j := by simpa [blkOf] using hj
        omega)
      clear hA3 hx3 hm3 hX3 hI3 hn1 hS c0 c1'
      go_loopw [5] (fun vk wr2 => ∃ (k : Nat) (C : List TRow), vk = .int .i64 k ∧ InSt w3 wr2 a n c3 S ⟨xi, xn⟩ C k) (fun vk _ => (intOf vk).toNat)
      case atStart => exact ⟨i, _, rfl, I3.out⟩
      case round =>
        obtain ⟨k, C, rfl, hst2⟩ := hrel
        have IN := Lib.hid hst2
        have hki : k ≤ i := by have := hst2.ins.le; have := SL.out; omega
        have j2 : k < n := by omega
        have j3 : (k : Int) < (n : Int) := by omega
        obtain ⟨c0, c1'⟩ := LC.out _ hst2.ext
        by_cases hk0 : k = 0
        · have d1 : decide (0 < k) = false := decide_eq_false (by omega)
          have K0 := Lib.hid hk0
          clear hk0 hst2
          have j4 := j3
          go_wp2_with fail
          go_quiet (fail)
          have IN4 := Lib.hid (IN.out.drewN nq)
          obtain ⟨W4, hW4⟩ : ∃ W4, wr.drewN nq = W4 := ⟨_, rfl⟩
          rw [hW4] at IN4 ⊢
          clear hW4 c0 c1'
          obtain ⟨c0, c1'⟩ := LC.out _ IN4.out.ext
          obtain ⟨⟨u0, hu0⟩, hf0, ⟨u1, hu1⟩, hf1⟩ := IN4.out.cells (by have := SL.out; have := HN.out; omega) j2
          have P := Lib.hid (END.out C k W4 IN4.out (.inl K0.out))
          go_wp2_with fail
          go_roundw
          case rel => exact ⟨i + 1, some ⟨a, 0, none⟩, c3, by rw [HN.out], by go_num, hlt, P.out⟩
          case measure => simp [intOf]; omega
        · obtain ⟨k1, hk1⟩ : ∃ k1, k = k1 + 1 := ⟨k - 1, by omega⟩
          have HK := Lib.hid hk1
          have d1 : decide (0 < k) = true := decide_eq_true (by omega)
          have e1 : (k : Int) - 1 = (k1 : Int) := by omega
          have j4 : k1 < n := by omega
          have j5 : (k1 : Int) < (n : Int) := by omega
          have j6 : k1 < k := by omega
          obtain ⟨y, hy⟩ : ∃ y, S[k1]? = some y := ⟨_, List.getElem?_eq_getElem (by have := SL.out; omega)⟩
          have HY := Lib.hid hy
          obtain ⟨g0, g1⟩ := hst2.at j6 hy
          obtain ⟨yi, yn⟩ := y
          simp only at g0 g1
          clear hk0 hk1 hst2 hy
          by_cases hA : yn < xn
          · have LT := Lib.hid (show ltR ⟨xi, xn⟩ ⟨yi, yn⟩ = true from by rw [ltR_iff]; exact .inl hA)
            have d2 : decide (yn < xn) = true := decide_eq_true hA
            clear hA
            have j7 := j4
            go_wp2_with fail
            go_quiet (fail)
            have IN4 := Lib.hid (IN.out.drewN nq)
            obtain ⟨W4, hW4⟩ : ∃ W4, wr.drewN nq = W4 := ⟨_, rfl⟩
            rw [hW4] at IN4 ⊢
            clear hW4 c0 c1'
            obtain ⟨c0, c1'⟩ := LC.out _ IN4.out.ext
            obtain ⟨⟨u0, hu0⟩, hf0, ⟨u1, hu1⟩, hf1⟩ := IN4.out.cells (by have := SL.out; have := HN.out; omega) j2
            obtain ⟨e0, e1'⟩ := IN4.out.at (m := k1) (by omega) HY.out
            simp only at e0 e1'
            have P := Lib.hid (show InSt w3 ((W4.setCell ⟨a, k * 2, none⟩ (.int .i64 yi)).setCell ⟨a, k * 2 + 1, none⟩ (.int .i64 yn)) a n c3 S ⟨xi, xn⟩ (C.set k ⟨yi, yn⟩) k1 from by
              have h4 := IN4.out
              rw [HK.out] at h4 ⊢
              exact h4.shift HY.out LT.out)
            go_wp2_with fail
            go_roundw
            case rel => exact ⟨k1, _, rfl, P.out⟩
            case measure => simp [intOf]; have := HK.out; omega
          · have d2 : decide (yn < xn) = false := decide_eq_false hA
            by_cases hB : yn = xn
            · by_cases hC : xi < yi
              · have LT := Lib.hid (show ltR ⟨xi, xn⟩ ⟨yi, yn⟩ = true from by rw [ltR_iff]; exact .inr ⟨hB, hC⟩)
                have d3 : decide (yn = xn) = true := decide_eq_true hB
                have q3 : (yn == xn) = true := by simp [hB]
                have d4 : decide (yi > xi) = true := decide_eq_true hC
                have d5 : decide (xi < yi) = true := decide_eq_true hC
                clear hA hB hC
                have j7 := j4
                go_wp2_with fail
                go_quiet (fail)
                have IN4 := Lib.hid (IN.out.drewN nq)
                obtain ⟨W4, hW4⟩ : ∃ W4, wr.drewN nq = W4 := ⟨_, rfl⟩
                rw [hW4] at IN4 ⊢
                clear hW4 c0 c1'
                obtain ⟨c0, c1'⟩ := LC.out _ IN4.out.ext
                obtain ⟨⟨u0, hu0⟩, hf0, ⟨u1, hu1⟩, hf1⟩ := IN4.out.cells (by have := SL.out; have := HN.out; omega) j2
                obtain ⟨e0, e1'⟩ := IN4.out.at (m := k1) (by omega) HY.out
                simp only at e0 e1'
                have P := Lib.hid (show InSt w3 ((W4.setCell ⟨a, k * 2, none⟩ (.int .i64 yi)).setCell ⟨a, k * 2 + 1, none⟩ (.int .i64 yn)) a n c3 S ⟨xi, xn⟩ (C.set k ⟨yi, yn⟩) k1 from by
                  have h4 := IN4.out
                  rw [HK.out] at h4 ⊢
                  exact h4.shift HY.out LT.out)
                go_wp2_with fail
                go_roundw
                case rel => exact ⟨k1, _, rfl, P.out⟩
                case measure => simp [intOf]; have := HK.out; omega
              · have NL := Lib.hid (show ltR ⟨xi, xn⟩ ⟨yi, yn⟩ = false from by rw [ltR_false]; simp only; omega)
                have d3 : decide (yn = xn) = true := decide_eq_true hB
                have q3 : (yn == xn) = true := by simp [hB]
                have d4 : decide (yi > xi) = false := decide_eq_false hC
                have d5 : decide (xi < yi) = false := decide_eq_false hC
                clear hA hB hC
                have j7 := j4
                go_wp2_with fail
                go_quiet (fail)
                have IN4 := Lib.hid (IN.out.drewN nq)
                obtain ⟨W4, hW4⟩ : ∃ W4, wr.drewN nq = W4 := ⟨_, rfl⟩
                rw [hW4] at IN4 ⊢
                clear hW4 c0 c1'
                obtain ⟨c0, c1'⟩ := LC.out _ IN4.out.ext
                obtain ⟨⟨u0, hu0⟩, hf0, ⟨u1, hu1⟩, hf1⟩ := IN4.out.cells (by have := SL.out; have := HN.out; omega) j2
                have P := Lib.hid (END.out C k W4 IN4.out (.inr ⟨_, by rw [HK.out]; exact HY.out, NL.out⟩))
                go_wp2_with fail
                go_roundw
                case rel => exact ⟨i + 1, some ⟨a, 0, none⟩, c3, by rw [HN.out], by go_num, hlt, P.out⟩
                case measure => simp [intOf]; omega
            · have NL := Lib.hid (show ltR ⟨xi, xn⟩ ⟨yi, yn⟩ = false from by rw [ltR_false]; simp only; omega)
              have d3 : decide (yn = xn) = false := decide_eq_false hB
              have q3 : (yn == xn) = false := by simp [hB]
              clear hA hB
              have j7 := j4
              go_wp2_with fail
              go_quiet (fail)
              have IN4 := Lib.hid (IN.out.drewN nq)
              obtain ⟨W4, hW4⟩ : ∃ W4, wr.drewN nq = W4 := ⟨_, rfl⟩
              rw [hW4] at IN4 ⊢
              clear hW4 c0 c1'
              obtain ⟨c0, c1'⟩ := LC.out _ IN4.out.ext
              obtain ⟨⟨u0, hu0⟩, hf0, ⟨u1, hu1⟩, hf1⟩ := IN4.out.cells (by have := SL.out; have := HN.out; omega) j2
              have P := Lib.hid (END.out C k W4 IN4.out (.inr ⟨_, by rw [HK.out]; exact HY.out, NL.out⟩))
              go_wp2_with fail
              go_roundw
              case rel => exact ⟨i + 1, some ⟨a, 0, none⟩, c3, by rw [HN.out], by go_num, hlt, P.out⟩
              case measure => simp [intOf]; omega
    · obtain rfl : i = l.length := by omega
      have i1 : ¬ ((l.length : Int) < (l.length : Int)) := by omega
      have A := Lib.hid (show Arr wr 94 2 p1 l.length c1 (flat eTR (ordR l)) from by have := hst.arr; rwa [List.take_length] at this)
      go_wp2_with fail
      go_ret
      exact ⟨p1, c1, rfl, A.out, ST.out.ext⟩
end Go.Proofs.YtigpaaelggnffaaGreatDoor.Ty
