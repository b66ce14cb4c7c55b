/- The walk of HeapPlays. -/
import Derived.Test.YtjaehghnjolaaaaHeapSorts
import Derived.Test.YtjaehghnjolaaaaLib2
import Derived.Test.YtjaehghnjolaaaaRowKit
namespace Go.Proofs.Ytjaehghnjolaaaa.HeapP
open Go.RowKit Go.Proofs.Ytjaehghnjolaaaa.Lib Go.Proofs.Ytjaehghnjolaaaa.HeapPure Go.Proofs.Ytjaehghnjolaaaa.ElPair
set_option linter.unusedVariables false
set_option linter.unusedSimpArgs false

theorem erase_perm {xs ins : List El} (h : xs.Perm ins) (hne : xs ≠ []) (m : Nat) (hm : m < ins.length) (hX : at_ ins m = at_ xs 0) : (popRest less xs).Perm (ins.take m ++ ins.drop (m + 1)) := by
  have h1 := (popRest_perm less xs hne).trans h
  have h2 : (at_ xs 0 :: (ins.take m ++ ins.drop (m + 1))).Perm ins := by
    refine List.perm_middle.symm.trans ?_
    rw [← hX, at_eq ins m hm, List.getElem_cons_drop, List.take_append_drop]
  exact (h1.trans h2.symm).cons_inv

/-- The memory of a play: the heap, the list beside it, the row that came in, with marks behind it. -/
structure PS (W w : World) (first : List El) (g fa : Nat) (ph pin : Option Addr) (ch cin : Nat) (hs ins : List El) : Prop where
  mem : Mem w g ph ch hs
  inn : Arr w 43 2 pin ins.length cin (flat ins)
  ful : Row w (some ⟨fa, 0, none⟩) (first.length + 80) (first ++ List.replicate 80 ⟨-7, -7⟩)
  ext : Ext (fun _ => False) W w
  gl : W.heap.size ≤ g
  fl : W.heap.size ≤ fa
  gf : g ≠ fa
  phl : ∀ k, blkOf ph = some k → W.heap.size ≤ k ∧ k ≠ fa
  inl : ∀ k, blkOf pin = some k → W.heap.size ≤ k ∧ k ≠ fa ∧ k ≠ g ∧ blkOf ph ≠ some k
section
variable {W w w1 : World} {first hs hs1 ins ins1 : List El} {g fa ch cin : Nat} {ph pin : Option Addr}
theorem PS.flt (h : PS W w first g fa ph pin ch cin hs ins) : fa < w.heap.size := arr_lt h.ful rfl
theorem PS.on (h : PS W w first g fa ph pin ch cin hs ins) (hx : Ext (fun _ => False) w w1) : PS W w1 first g fa ph pin ch cin hs ins :=
  ⟨h.mem.ext hx (fun h => h) (fun _ _ h => h), arr_ext h.inn hx (fun _ _ h => h), arr_ext h.ful hx (fun _ _ h => h), h.ext.trans hx (fun _ _ h => h), h.gl, h.fl, h.gf, h.phl, h.inl⟩
theorem PS.push (h : PS W w first g fa ph pin ch cin hs ins) {X : El} {e : Ending} (hp : PushEnd w g ph hs X e w1) : ∃ v p1 c1, e = .returned v ∧ PS W w1 first g fa p1 pin c1 cin (push less hs X) ins := by
  obtain ⟨v, p1, c1, rfl, hM, hE, hm⟩ := hp
  have hf := h.flt
  have hsz := h.ext.size
  refine ⟨v, p1, c1, rfl, hM, arr_ext h.inn hE (fun i hi h2 => h2.elim (h.inl i hi).2.2.1 (h.inl i hi).2.2.2), arr_ext h.ful hE (fun i hi h2 => ?_), h.ext.trans hE (fun i hi h2 => ?_), h.gl, h.fl, h.gf, fun i hi => ?_, fun i hi => ⟨(h.inl i hi).1, (h.inl i hi).2.1, (h.inl i hi).2.2.1, fun h2 => ?_⟩⟩
  · simp at hi
    subst hi
    exact h2.elim h.gf.symm (fun h2 => (h.phl _ h2).2 rfl)
  · rcases h2 with h2 | h2
    · have := h.gl; omega
    · have := (h.phl i h2).1; omega
  · rcases hm i hi with h2 | h2
    · exact h.phl i h2
    · exact ⟨by omega, by omega⟩
  · rcases hm i h2 with h3 | h3
    · exact (h.inl i hi).2.2.2 h3
    · have := arr_lt h.inn hi; omega
theorem PS.pop (h : PS W w first g fa ph pin ch cin hs ins) (hM : Mem w1 g ph ch hs1) (hE : Ext (fun k => k = g ∨ blkOf ph = some k) w w1) : PS W w1 first g fa ph pin ch cin hs1 ins := by
  have hsz := h.ext.size
  refine ⟨hM, arr_ext h.inn hE (fun i hi h2 => h2.elim (h.inl i hi).2.2.1 (h.inl i hi).2.2.2), arr_ext h.ful hE (fun i hi h2 => ?_), h.ext.trans hE (fun i hi h2 => ?_), h.gl, h.fl, h.gf, h.phl, h.inl⟩
  · simp at hi
    subst hi
    exact h2.elim h.gf.symm (fun h2 => (h.phl _ h2).2 rfl)
  · rcases h2 with h2 | h2
    · have := h.gl; omega
    · have := (h.phl i h2).1; omega
theorem PS.row (h : PS W w first g fa ph pin ch cin hs ins) {p1 : Option Addr} {c1 n : Nat} (hn : n = ins1.length) (hA : Arr w1 43 2 p1 n c1 (flat ins1)) (hE : Ext (fun k => blkOf pin = some k) w w1) (hm : Moved w pin p1) : PS W w1 first g fa ph p1 ch c1 hs ins1 := by
  subst hn
  have hf := h.flt
  have hg := blk_lt h.mem.blk
  have hsz := h.ext.size
  refine ⟨h.mem.ext hE (fun h2 => (h.inl _ h2).2.2.1 rfl) (fun i hi h2 => (h.inl _ h2).2.2.2 hi), hA, arr_ext h.ful hE (fun i hi h2 => ?_), h.ext.trans hE (fun i hi h2 => ?_), h.gl, h.fl, h.gf, h.phl, fun i hi => ?_⟩
  · simp at hi
    subst hi
    exact (h.inl _ h2).2.1 rfl
  · have := (h.inl i h2).1; omega
  · rcases hm i hi with h2 | h2
    · exact h.inl i h2
    · refine ⟨by omega, by omega, by omega, fun h3 => ?_⟩
      have := arr_lt h.mem.row h3; omega
end
theorem flat_drop (ys : List El) (u : Nat) (hu : u ≤ ys.length) : flat (ys.drop u) = (flat ys).drop (u * 2) := by
  have h : flat ys = flat (ys.take u) ++ flat (ys.drop u) := by rw [← flat_append, List.take_append_drop]
  have hl : (flat (ys.take u)).length = u * 2 := by rw [flat_length, List.length_take]; omega
  rw [h, ← hl, List.drop_left]
theorem drop_src {w : World} {a n c u : Nat} {ys : List El} (h : Arr w 43 2 (some ⟨a, 0, none⟩) n c (flat ys)) (hn : n = ys.length) : ∀ ad, some (⟨a, u * 2, none⟩ : Addr) = some ad → ∀ j v, ((flat ys).drop (u * 2))[j]? = some v → w.cell? (ad.add j) = some v := by
  rintro _ h0 j v hv
  obtain rfl := Option.some.inj h0
  rw [List.getElem?_drop] at hv
  have hj := (List.getElem?_eq_some_iff.1 hv).1
  rw [flat_length] at hj
  rw [Addr.add_lit, arr_cell h _ (by omega), hv]

theorem del_step {ops : Array Oper} {o : Oper} {a : Act} {K : Act → World → Prop} {Q : Exit → Act → World → Prop} {E : Prop} {W : World} (hw : Region.wanted o (yielded ops a.tmps) = true)
    (ho : o.op = .call { callee := .builtin .append, args := #[.tmp 125, .tmp 129], argTypes := #[40, 40] }) {A m u c mc : Nat} {q : Option Addr} {ys : List El}
    (hs : a.eval (.tmp 125) = .slice (some ⟨A, 0, none⟩) m c) (hx : a.eval (.tmp 129) = .slice q (ys.length - u) mc) (hq : q = some ⟨A, u * 2, none⟩ ∨ ∃ z, q = some z ∧ ys.length ≤ u)
    (hA : Arr W 43 2 (some ⟨A, 0, none⟩) ys.length c (flat ys)) (hm : m ≤ ys.length) (hu : u ≤ ys.length) (hb : ys.length ≤ 1000)
    (h : ∀ p1 c1 w1, Arr w1 43 2 p1 (m + (ys.length - u)) c1 (flat (ys.take m ++ ys.drop u)) → Ext (fun k => blkOf (some (⟨A, 0, none⟩ : Addr)) = some k) W w1 → Moved W (some ⟨A, 0, none⟩) p1 → K (a.put o.dst (.slice p1 (m + (ys.length - u)) c1)) w1) :
    if Region.wanted o (yielded ops a.tmps) = true then Oper.wp Try.prog o a W K Q else E := by
  have NL : ((flat ys).drop (u * 2)).length = (ys.length - u) * 2 := by rw [List.length_drop, flat_length]; omega
  refine arr_append_step hw (.tmp 125) (.tmp 129) 40 43 2 16 (.agg #[.int .i64 0, .int .i64 0]) ho Try.underlying40 infoE rfl (by decide) (by decide) (some ⟨A, 0, none⟩) m c ((flat ys).take (m * 2)) hs q (ys.length - u) mc hx ((flat ys).drop (u * 2)) NL ?_ ?_ (fun v hv => flat_one_cell ys v (List.mem_of_mem_drop hv)) (arr_take hA hm) (by omega) ?_
  · intro ad hqa j v hv
    rcases hq with rfl | ⟨z, rfl, hz⟩
    · exact drop_src hA rfl ad hqa j v hv
    · have h9 := (List.getElem?_eq_some_iff.1 hv).1
      omega
  · intro h0
    rcases hq with rfl | ⟨z, rfl, _⟩ <;> cases h0
  · intro p1 c1 w1 hA1 hx1 hm1
    refine h p1 c1 w1 ?_ hx1 hm1
    rw [flat_append, flat_take ys m hm, flat_drop ys u hu]
    exact hA1

set_option maxHeartbeats 2500000 in
set_option maxRecDepth 100000 in
/-- HeapPlays. -/
theorem plays_any (W : World) (p : Option Addr) (c : Nat) (xs0 : List El) (hx0 : RowR W p xs0) (hb : xs0.length * 16 ≤ 140737488351232) (hc : xs0.length ≤ c) (_ : c ≤ maxLen) (hz : p = none → xs0.length = 0)
    (q : Option Addr) (ln cq : Nat) (hq8 : ln * 8 ≤ 140737488351232) (hlc : ln ≤ cq) (_ : cq ≤ maxLen) (ys : Nat → Int) (hC : RowK.CameInts .i64 W q ln ys) (hwf : ∀ i, i < ln → (Lit.int .i64 (ys i)).wf = true) :
    Calls Try.prog 7 #[.slice p xs0.length c, .slice q ln cq] W fun e w' => e = .returned (.bool true) ∧ Ext (fun _ => False) W w' := by
  have HX0 := Lib.hid hx0
  have HC := Lib.hid hC
  have HW := Lib.hid hwf
  have HZ := Lib.hid hz
  clear hx0 hC hwf hz
  go_enter Try.func7, Try.ntmps7
  go_upto_if 18 with fail
  go_cut [0] (fun l wc => W = wc ∧ ∃ xs : List El, RowR W p xs ∧ xs.length ≤ 60 ∧ (p = none → xs = []) ∧ l = .slice p xs.length c)
  case first =>
    by_cases hn : xs0.length ≤ 60
    · have hn2 : ¬ ((xs0.length : Int) > 60) := by omega
      go_wp2_with fail
      go_meet
      exact ⟨rfl, xs0, HX0.out, hn, fun h => List.eq_nil_of_length_eq_zero (HZ.out h), rfl⟩
    · have hn2 : (xs0.length : Int) > 60 := by omega
      have hn3 : (60 : Int) ≤ (c : Int) := by omega
      go_wp2_with fail
      go_meet
      exact ⟨rfl, xs0.take 60, HX0.out.take 60 (by omega), by simp; omega, fun h => by rw [List.eq_nil_of_length_eq_zero (HZ.out h)]; rfl, by simp; omega⟩
  case rest =>
    obtain ⟨rfl, xs, hx, hn, hz, rfl⟩ := hcut
    have R1 := Lib.hid (BookPair.roomy_any W p c xs ⟨-7, -7⟩ hx hz (by omega))
    have HX := Lib.hid hx
    have HZ := Lib.hid hz
    clear hx HX0 hc hb hz
    go_wp2_with fail
    refine R1.out.mono ?_
    rintro e w1 ⟨fa, rfl, hF, hx1, hfl, hfs⟩
    have hF2 := (Row.reads hF).take xs.length (by simp)
    rw [List.take_left' rfl] at hF2
    have hle : (xs.length : Int) ≤ ((xs.length + 80 : Nat) : Int) := by omega
    have O1 := of_any w1 (some ⟨fa, 0, none⟩) xs.length (xs.length + 80) (at_ xs) (by omega) hF2
    have O1 := Lib.hid O1
    have HF := Lib.hid hF
    have HX1 := Lib.hid hx1
    clear hF hF2 hx1 R1
    go_wp2_with fail
    refine O1.out.mono ?_
    rintro e w2 ⟨rfl, pa, ca, hA, hx2, hpa⟩
    rw [map_at] at hA
    have HA := Lib.hid hA
    have HX2 := Lib.hid hx2
    have HPA := Lib.hid hpa
    have g1 := blk_lt hA.blk
    have hR2 := (HX.out.ext HX1.out (fun _ _ _ h => h)).ext hx2 (fun _ _ _ h => h)
    have HR2 := Lib.hid hR2
    clear hA hx2 hpa O1 hR2
    have hE0 : Arr (w2.alloc (.cells #[] 43)) 43 2 (some ⟨w2.heap.size, 0, none⟩) 0 0 [] := ⟨rfl, .inr ⟨w2.heap.size, 0, #[], rfl, Nat.zero_le _, heap_alloc_new w2 _, Nat.le_refl _, by simp [maxLen], rfl, rfl⟩⟩
    have P0 : PS W (w2.alloc (.cells #[] 43)) xs w1.heap.size fa pa (some ⟨w2.heap.size, 0, none⟩) ca 0 (pushAll less xs) [] := by
      have hxa := (Ext.refl (fun _ => False) w2).alloc (.cells #[] 43)
      have s1 := HX1.out.size
      have s2 := HX2.out.size
      refine ⟨HA.out.ext hxa (fun h => h) (fun _ _ h => h), hE0, arr_ext (arr_ext HF.out HX2.out (fun _ _ h => h)) hxa (fun _ _ h => h), (HX1.out.trans HX2.out (fun _ _ h => h)).trans hxa (fun _ _ h => h), s1, hfl, by omega, fun k hk => ?_, fun k hk => ?_⟩
      · have := HPA.out k hk; omega
      · simp at hk
        subst hk
        exact ⟨by omega, by omega, by omega, fun h2 => by have := arr_lt HA.out.row h2; omega⟩
    have P0 := Lib.hid P0
    go_wp2_with (at_builtin; refine arr_append rfl (.tmp 31) (.tmp 32) 40 43 2 16 (.agg #[.int .i64 0, .int .i64 0]) rfl Try.underlying40 infoE rfl (by decide) (by decide) (some ⟨w2.heap.size, 0, none⟩) 0 0 [] rfl p xs.length c rfl (flat xs) (flat_length xs) (BookPair.copy_src (HR2.out.ext ((Ext.refl (fun _ => False) w2).alloc _) (fun _ _ _ h => h))) (fun h => by rw [HZ.out h]; rfl) (flat_one_cell xs) hE0 (by omega) ?_; intro p1 c1 w3 hA3 hx3 hm3; rw [Nat.zero_add] at hA3; rw [List.nil_append] at hA3; rw [Nat.zero_add]; have P1 := Lib.hid (P0.out.row rfl hA3 hx3 hm3); clear hA3 hx3 hm3 hE0)
    have HP0 := Lib.hid (And.intro (pushAll_heap less_weak xs) (pushAll_perm less xs))
    clear HA HX1 HX2 HPA HF P0 hfl hfs g1 hle O1
    generalize w1.heap.size = g at *
    go_loopw [7, 8] (fun inn i wr => ∃ k hs ins ph ch pin cin, k ≤ ln ∧ k ≤ 200 ∧ i = .int .i64 (k : Nat) ∧ inn = .slice pin ins.length cin ∧ PS W wr xs g fa ph pin ch cin hs ins ∧ Heap less hs ∧ hs.Perm ins ∧ ins.length ≤ 60 + k) (fun _ i _ => 200 - (intOf i).toNat)
    case atStart => exact ⟨0, _, _, _, _, _, _, Nat.zero_le _, Nat.zero_le _, rfl, rfl, P1.out, HP0.out.1, HP0.out.2, by omega⟩
    case round =>
      obtain ⟨k, hs, ins, ph, ch, pin, cin, hk, hk2, rfl, rfl, hP, hH, hpm, hil⟩ := hrel
      have HP := Lib.hid hP
      have HH := Lib.hid hH
      have HPM := Lib.hid hpm
      clear P1 HP0
      by_cases hlt : k < ln ∧ k < 200
      · obtain ⟨hl1, hl2⟩ := hlt
        obtain ⟨b, o, rfl, hb0, e0⟩ := HC.out k hl1
        have E0 := Lib.hid e0
        have e0 := (hP.ext.cell hb0 (fun h => h)).trans e0
        have hb1 := Nat.lt_of_lt_of_le hb0 hP.ext.size
        have i1 : (k : Int) < (ln : Int) := by omega
        have i2 : (k : Int) < 200 := by omega
        clear hP hH hpm
        go_upto_if 48 with fail
        go_cut [7] from 34 to 130 (fun inn wc => ∃ hs ins ph ch pin cin, inn = .slice pin ins.length cin ∧ PS W wc xs g fa ph pin ch cin hs ins ∧ Heap less hs ∧ hs.Perm ins ∧ ins.length ≤ 60 + (k + 1) ∧ wc.cell? ⟨b, o + k, none⟩ = some (.int .i64 (ys k)) ∧ b < wc.heap.size)
        case first =>
          by_cases hy : ys k ≥ 0
          · have gl := blk_lt HP.out.mem.blk
            have hhl := HPM.out.length_eq
            have PP := Lib.hid (push_any (wr.alloc (.cells #[.int .i64 (ys k % 9), .int .i64 (k : Nat)] 43)) g ph ch hs ⟨ys k % 9, (k : Nat)⟩ (HP.out.mem.ext ((Ext.refl (fun _ => False) wr).alloc _) (fun h => h) (fun _ _ h => h)) (by omega))
            go_wp2_with fail
            refine PP.out.mono ?_
            rintro e w4 hp
            obtain ⟨v, p4, c4, rfl, hP4⟩ := (HP.out.on ((Ext.refl (fun _ => False) wr).alloc (.cells #[.int .i64 (ys k % 9), .int .i64 (k : Nat)] 43))).push hp
            obtain ⟨_, _, _, _, _, hx4, _⟩ := hp
            have s4 := hx4.size
            rw [World.size_alloc] at s4
            replace s4 := Nat.lt_of_succ_le s4
            have bx := hx4.obj (heap_alloc_new wr (.cells #[.int .i64 (ys k % 9), .int .i64 (k : Nat)] 43)) (fun h => h.elim (fun h => by omega) (fun h => by have := arr_lt HP.out.mem.row h; omega))
            have x0 := blk_cell bx 0
            simp at x0
            have x1 := blk_cell bx 1
            simp at x1
            have HP4 := Lib.hid hP4
            have hA4 := hP4.inn
            clear hP4 hx4 bx PP
            go_wp2_with (at_builtin; refine arr_append1 rfl (.tmp 59) (.tmp 61) 40 43 2 16 (.agg #[.int .i64 0, .int .i64 0]) rfl Try.underlying40 infoE rfl (by decide) (by decide) pin ins.length cin (flat ins) [.int .i64 (ys k % 9), .int .i64 (k : Nat)] rfl _ rfl (by simp) rfl (by simp [Value.oneCell']) hA4 (by omega) ?_; intro p5 c5 w5 hA5 hx5 hm5; have P5 := Lib.hid (HP4.out.row (ins1 := ins ++ [⟨ys k % 9, (k : Nat)⟩]) (show ins.length + 1 = _ by simp) (by rw [flat_append, flat_one]; exact hA5) hx5 hm5); clear hA5 hx5 hm5)
            go_meet
            have hl : (ins ++ [(⟨ys k % 9, (k : Nat)⟩ : El)]).length = ins.length + 1 := by simp
            exact ⟨_, _, _, _, _, _, by rw [hl], P5.out, push_heap less_weak _ HH.out, (push_perm less hs _).trans (HPM.out.append_right _), by rw [hl]; omega, (P5.out.ext.cell hb0 (fun h => h)).trans E0.out, Nat.lt_of_lt_of_le hb0 P5.out.ext.size⟩
          · go_wp2_with fail
            go_meet
            exact ⟨hs, ins, ph, ch, pin, cin, rfl, HP.out, HH.out, HPM.out, by omega, e0, hb1⟩
        case rest =>
          obtain ⟨hs1, ins1, ph1, ch1, pin1, cin1, rfl, hP1, hH1, hpm1, hil1, e0c, hbc⟩ := hcut
          have HP1 := Lib.hid hP1
          have HH1 := Lib.hid hH1
          have HPM1 := Lib.hid hpm1
          by_cases hne : hs1 = []
          · subst hne
            obtain rfl : ins1 = [] := List.eq_nil_of_length_eq_zero (by rw [← hpm1.length_eq]; rfl)
            have L1 := Lib.hid (least_none hP1.mem)
            clear hP1 hH1 hpm1 HP HH HPM e0
            go_wp2_with fail
            refine L1.out.mono ?_
            rintro e w4 ⟨rfl, hx4⟩
            have P4 := Lib.hid (HP1.out.on hx4)
            have s4 := hx4.size
            have e4 := (hx4.cell hbc (fun h => h)).trans e0c
            have hb4 := Nat.lt_of_lt_of_le hbc hx4.size
            have L2 := len_any (P4.out.mem.ext ((Ext.refl (fun _ => False) w4).alloc (.cells #[.int .i64 0, .int .i64 0] 43)) (fun h => h) (fun _ _ h => h))
            simp only [List.length_nil] at L2
            have L2 := Lib.hid L2
            clear hx4 e0c L1
            go_wp2_with fail
            refine L2.out.mono ?_
            rintro e w' ⟨rfl, rfl⟩
            clear L2
            by_cases hy : ys k ≥ 0
            · go_wp2_with fail
              go_roundw
              case rel => exact ⟨k + 1, [], [], ph1, ch1, pin1, cin1, by omega, by omega, by go_num, rfl, P4.out.on ((Ext.refl (fun _ => False) w4).alloc _), HH1.out, HPM1.out, by omega⟩
              case measure => simp [intOf]; omega
            · have L3 := Lib.hid (pop_none (P4.out.mem.ext ((Ext.refl (fun _ => False) w4).alloc (.cells #[.int .i64 0, .int .i64 0] 43)) (fun h => h) (fun _ _ h => h)))
              go_wp2_with fail
              refine L3.out.mono ?_
              rintro e w5 ⟨rfl, hx5⟩
              have P5 := Lib.hid ((P4.out.on ((Ext.refl (fun _ => False) w4).alloc _)).on hx5)
              have s5 := hx5.size
              rw [World.size_alloc] at s5
              replace s5 := Nat.lt_of_succ_le s5
              have bx := hx5.obj (heap_alloc_new w4 (.cells #[.int .i64 0, .int .i64 0] 43)) (fun h => h)
              have x0 := blk_cell bx 0
              simp at x0
              have x1 := blk_cell bx 1
              simp at x1
              have hq := fun W => el_neq ⟨0, 0⟩ ⟨0, 0⟩ W
              simp only [decide_true, Bool.not_true] at hq
              clear hx5 bx L3
              go_wp2_with fail
              go_roundw
              case rel => exact ⟨k + 1, [], [], ph1, ch1, pin1, cin1, by omega, by omega, by go_num, rfl, P5.out.on ((Ext.refl (fun _ => False) w5).alloc _), HH1.out, HPM1.out, by omega⟩
              case measure => simp [intOf]; omega
          · obtain ⟨X, hX⟩ : ∃ X, at_ hs1 0 = X := ⟨_, rfl⟩
            have hhl := hpm1.length_eq
            have hpos := List.length_pos_iff.2 hne
            have L1 := Lib.hid (least_some hP1.mem hne X hX)
            have HN := Lib.hid (And.intro hne hX)
            clear hP1 hH1 hpm1 HP HH HPM e0 hX
            go_wp2_with fail
            refine L1.out.mono ?_
            rintro e w4 ⟨rfl, hx4⟩
            have P4 := Lib.hid ((HP1.out.on hx4).on ((Ext.refl (fun _ => False) w4).alloc (.cells #[.int .i64 X.f0, .int .i64 X.f1] 43)))
            have s4 := hx4.size
            have e4 := (hx4.cell hbc (fun h => h)).trans e0c
            have hb4 := Nat.lt_of_lt_of_le hbc hx4.size
            have g4 := Nat.lt_of_lt_of_le (blk_lt HP1.out.mem.blk) hx4.size
            have a4 := fun i (h : blkOf ph1 = some i) => Nat.lt_of_lt_of_le (arr_lt HP1.out.mem.row h) hx4.size
            have L2 := len_any P4.out.mem
            rw [hhl] at L2
            have L2 := Lib.hid L2
            have A4 := Lib.hid a4
            have L3 := Lib.hid (pop_some _ g ph1 ch1 hs1 P4.out.mem hne X HN.out.2 (by omega))
            have hg : decide ((ins1.length : Int) > 0) = true := by simp; omega
            have hg2 : (ins1.length : Int) > 0 := by omega
            have hg3 : 0 < ins1.length := by omega
            have hg4 : decide (0 < ins1.length) = true := decide_eq_true hg3
            have hg5 : (!decide (0 < ins1.length)) = false := by rw [hg4]; rfl
            have HHL := Lib.hid hhl
            clear hx4 e0c L1 a4 hne
            go_wp2_with fail
            refine L2.out.mono ?_
            rintro e w' ⟨rfl, rfl⟩
            clear L2
            by_cases hy : ys k ≥ 0
            · go_wp2_with fail
              go_roundw
              case rel => exact ⟨k + 1, hs1, ins1, ph1, ch1, pin1, cin1, by omega, by omega, by go_num, rfl, P4.out, HH1.out, HPM1.out, by omega⟩
              case measure => simp [intOf]; omega
            · go_wp2_with fail
              refine L3.out.mono ?_
              rintro e w5 ⟨rfl, hM5, hx5⟩
              have P5 := Lib.hid (P4.out.pop hM5 hx5)
              have s5 := hx5.size
              rw [World.size_alloc] at s5
              replace s5 := Nat.lt_of_succ_le s5
              have bx := hx5.obj (heap_alloc_new w4 (.cells #[.int .i64 X.f0, .int .i64 X.f1] 43)) (fun h => h.elim (fun h => by omega) (fun h => by have := A4.out _ h; omega))
              have x0 := blk_cell bx 0
              simp at x0
              have x1 := blk_cell bx 1
              simp at x1
              have hq := fun W => el_neq X X W
              simp only [decide_true, Bool.not_true] at hq
              clear hx5 bx L3 hM5
              have hin := P5.out.inn
              obtain ⟨a, rfl⟩ := arr_some hin hg3
              have hal := arr_lt hin rfl
              simp at hal
              have HIN := Lib.hid hin
              clear hin HC E0 e0 e4
              go_wp2_with fail
              go_loopw [14, 15] (fun kk j wr2 => ∃ (jj : Nat) (z : Int), jj ≤ ins1.length ∧ j = .int .i64 jj ∧ kk = .int .i64 z ∧ ((z = -1 ∧ ∀ i, i < jj → at_ ins1 i ≠ X) ∨ ∃ m : Nat, z = m ∧ m < ins1.length ∧ at_ ins1 m = X) ∧ ∃ d, (w5.alloc (.cells #[.int .i64 X.f0, .int .i64 X.f1] 43)).drewN d = wr2) (fun _ j _ => ins1.length - (intOf j).toNat)
              case atStart => exact ⟨0, -1, Nat.zero_le _, rfl, rfl, .inl ⟨rfl, fun i hi => absurd hi (Nat.not_lt_zero _)⟩, 0, rfl⟩
              case round =>
                obtain ⟨jj, z, hjj, rfl, rfl, hzz, d, rfl⟩ := hrel
                have HZZ := Lib.hid hzz
                by_cases hlt : jj < ins1.length
                · obtain ⟨Y, hY⟩ : ∃ Y, at_ ins1 jj = Y := ⟨_, rfl⟩
                  obtain ⟨y0, y1, _, _⟩ := Row.elem HIN.out rfl jj hlt Y hY
                  have HY := Lib.hid hY
                  have hYX : X.f0 ≤ Y.f0 := by
                    rw [← HN.out.2]
                    refine least_le HH1.out (HPM1.out.mem_iff.2 ?_)
                    rw [← hY, at_eq ins1 jj hlt]
                    exact List.getElem_mem _
                  have hd : decide (Y.f0 < X.f0) = false := by simp; omega
                  have j1 : (jj : Int) < (ins1.length : Int) := by omega
                  clear hY hYX hzz
                  by_cases hYX : Y = X
                  · have hq := fun W => el_eql Y X W
                    rw [decide_eq_true hYX] at hq
                    have HYX := Lib.hid hYX
                    clear hYX
                    go_wp2_with fail
                    go_quiet (fail)
                    go_wp2_with fail
                    go_quiet (fail)
                    go_wp2_with fail
                    go_roundw
                    case rel => exact ⟨jj + 1, (jj : Int), by omega, by go_num, rfl, .inr ⟨jj, rfl, hlt, by rw [HY.out, HYX.out]⟩, _, by first | rfl | rw [World.drewN_drewN] | (rw [World.drewN_drewN, World.drewN_drewN])⟩
                    case measure => simp [intOf]; omega
                  · have hq := fun W => el_eql Y X W
                    rw [decide_eq_false hYX] at hq
                    have HYX := Lib.hid hYX
                    clear hYX
                    go_wp2_with fail
                    go_quiet (fail)
                    go_wp2_with fail
                    go_quiet (fail)
                    go_wp2_with fail
                    go_roundw
                    case rel => exact ⟨jj + 1, z, by omega, by go_num, rfl, HZZ.out.elim (fun h => .inl ⟨h.1, fun i hi => by rcases Nat.lt_or_ge i jj with h3 | h3; exact h.2 i h3; rw [show i = jj by omega, HY.out]; exact HYX.out⟩) .inr, _, by first | rfl | rw [World.drewN_drewN] | (rw [World.drewN_drewN, World.drewN_drewN])⟩
                    case measure => simp [intOf]; omega
                · obtain rfl : jj = ins1.length := by omega
                  obtain ⟨m, rfl, hm, hmX⟩ : ∃ m : Nat, z = m ∧ m < ins1.length ∧ at_ ins1 m = X := by
                    rcases hzz with ⟨_, hno⟩ | h
                    · exfalso
                      have hmem : X ∈ ins1 := HPM1.out.mem_iff.1 (by rw [← HN.out.2]; exact at_mem HN.out.1)
                      obtain ⟨i, hi, hix⟩ := List.mem_iff_getElem.1 hmem
                      exact hno i hi (by rw [at_eq ins1 i hi, hix])
                    · exact h
                  have HMX := Lib.hid hmX
                  have m1 : (m : Int) ≤ (cin1 : Int) := by have := (arr_cap HIN.out).1; omega
                  have m2 : (m : Int) + 1 ≤ (ins1.length : Int) := by omega
                  have m3 : (ins1.length : Int) ≤ (cin1 : Int) := by have := (arr_cap HIN.out).1; omega
                  clear hzz HZZ hmX
                  go_wp2_with fail
                  obtain ⟨u, hu⟩ : ∃ u, m + 1 = u := ⟨_, rfl⟩
                  have hwr : IntKind.i64.wrap ((m : Int) + 1) = (u : Int) := by simp [IntKind.wrap, IntKind.bits, IntKind.signed]; omega
                  have u1 : (u : Int) ≤ (ins1.length : Int) := by omega
                  have u2 : (0 : Int) ≤ (u : Int) := by omega
                  have HU := Lib.hid hu
                  have hmu : m < u := by omega
                  have HOn : ∀ n, Ext (fun _ => False) w5 n → Arr n 43 2 (some ⟨a, 0, none⟩) ins1.length cin1 (flat ins1) := fun n hn => arr_ext HIN.out hn (fun _ _ h => h)
                  have LEN : m + (ins1.length - u) = (ins1.take m ++ ins1.drop u).length := by rw [List.length_append, List.length_take, List.length_drop]; omega
                  have FIN : ∀ n, Ext (fun _ => False) w5 n → ∀ p7 c7 w7, Arr w7 43 2 p7 (m + (ins1.length - u)) c7 (flat (ins1.take m ++ ins1.drop u)) → Ext (fun k => blkOf (some (⟨a, 0, none⟩ : Addr)) = some k) n w7 → Moved n (some ⟨a, 0, none⟩) p7 → PS W w7 xs g fa ph1 p7 ch1 c7 (popRest less hs1) (ins1.take m ++ ins1.drop u) := fun n hn p7 c7 w7 hA7 hx7 hm7 => (P5.out.on hn).row LEN hA7 hx7 hm7
                  have BD : m ≤ ins1.length ∧ u ≤ ins1.length ∧ ins1.length ≤ 1000 := ⟨by omega, by omega, by omega⟩
                  have CAP := (arr_cap HIN.out).1
                  have T1 := Lib.hid (And.intro HOn (And.intro FIN (And.intro BD LEN)))
                  clear HOn FIN LEN BD
                  by_cases hcap : cin1 = u
                  · have QQ : ins1.length ≤ u := by omega
                    have QQH := Lib.hid QQ
                    clear QQ CAP m3
                    subst cin1
                    go_region_law (first | (refine del_step (c := u) (mc := 0) (m := m) (u := u) (A := a) (q := some ⟨a, 0, none⟩) (ys := ins1) (by kernel_rfl) rfl (by kernel_rfl) (by kernel_rfl) (.inr ⟨_, rfl, QQH.out⟩) (T1.out.1 _ (by repeat (first | exact Ext.refl _ _ | refine Ext.drew ?_ | refine Ext.drewN ?_ _ | refine Ext.alloc ?_ _))) T1.out.2.2.1.1 T1.out.2.2.1.2.1 T1.out.2.2.1.2.2 ?_; intro p7 c7 w7 hA7 hx7 hm7; have P7 := Lib.hid (T1.out.2.1 _ (by repeat (first | exact Ext.refl _ _ | refine Ext.drew ?_ | refine Ext.drewN ?_ _ | refine Ext.alloc ?_ _)) p7 c7 w7 hA7 hx7 hm7); clear hA7 hx7 hm7))
                    all_goals go_wp2_with fail
                    all_goals go_roundw
                    case rel => exact ⟨k + 1, popRest less hs1, ins1.take m ++ ins1.drop u, _, _, _, _, by omega, by omega, by go_num, by rw [T1.out.2.2.2], P7.out, popRest_heap less_weak HH1.out, by rw [← HU.out]; exact erase_perm HPM1.out HN.out.1 m hm (by rw [HMX.out, HN.out.2]), by rw [← T1.out.2.2.2]; omega⟩
                    case measure => simp [intOf]; omega
                  · clear CAP
                    go_region_law (first | (refine del_step (c := cin1) (mc := cin1 - u) (m := m) (u := u) (A := a) (q := some ⟨a, u * 2, none⟩) (ys := ins1) (by kernel_rfl) rfl (by kernel_rfl) (by kernel_rfl) (.inl rfl) (T1.out.1 _ (by repeat (first | exact Ext.refl _ _ | refine Ext.drew ?_ | refine Ext.drewN ?_ _ | refine Ext.alloc ?_ _))) T1.out.2.2.1.1 T1.out.2.2.1.2.1 T1.out.2.2.1.2.2 ?_; intro p7 c7 w7 hA7 hx7 hm7; have P7 := Lib.hid (T1.out.2.1 _ (by repeat (first | exact Ext.refl _ _ | refine Ext.drew ?_ | refine Ext.drewN ?_ _ | refine Ext.alloc ?_ _)) p7 c7 w7 hA7 hx7 hm7); clear hA7 hx7 hm7))
                    all_goals go_wp2_with fail
                    all_goals go_roundw
                    case rel => exact ⟨k + 1, popRest less hs1, ins1.take m ++ ins1.drop u, _, _, _, _, by omega, by omega, by go_num, by rw [T1.out.2.2.2], P7.out, popRest_heap less_weak HH1.out, by rw [← HU.out]; exact erase_perm HPM1.out HN.out.1 m hm (by rw [HMX.out, HN.out.2]), by rw [← T1.out.2.2.2]; omega⟩
                    case measure => simp [intOf]; omega
      · have hx := HX.out.ext hP.ext (fun _ _ _ h => h)
        have I1 := Lib.hid (BookPair.intact_any wr (some ⟨fa, 0, none⟩) p (xs.length + 80) c xs ⟨-7, -7⟩ (Row.reads hP.ful) hx (by omega) (by omega))
        clear hP hH hpm hx
        rcases (show ¬ ((k : Int) < (ln : Int)) ∨ ((k : Int) < (ln : Int) ∧ ¬ ((k : Int) < 200)) by omega) with i1 | ⟨i1, i2⟩
        all_goals
          go_wp2_with fail
          refine I1.out.mono ?_
          rintro e w4 ⟨rfl, hx4⟩
          have X4 := Lib.hid (HP.out.ext.trans hx4 (fun _ _ h => h))
          clear hx4
          go_wp2_with fail
          refine (HeapI.known_any _).mono ?_
          rintro e w6 ⟨rfl, hx⟩
          have X6 := Lib.hid (X4.out.trans hx (fun _ _ h => h))
          clear hx
          go_wp2_with fail
          go_ret
          exact ⟨rfl, X6.out⟩
end Go.Proofs.Ytjaehghnjolaaaa.HeapP
