/- The walk of HeapSorts. -/
import Derived.Test.YtjaehghnjolaaaaHeapLawsP
import Derived.BigQuiet
namespace Go.Proofs.Ytjaehghnjolaaaa.HeapP
open Go.RowKit Go.Proofs.Ytjaehghnjolaaaa.Lib Go.Proofs.Ytjaehghnjolaaaa.HeapPure Go.Proofs.Ytjaehghnjolaaaa.ElPair
set_option linter.unusedVariables false
set_option linter.unusedSimpArgs false

theorem less_weak : Weak less := ⟨fun x => by simp [less], fun x y z h1 h2 => by simp [less] at *; omega, fun x y z h1 h2 => by simp [less] at *; omega⟩
theorem least_le {xs : List El} (h : Heap less xs) {z : El} (hz : z ∈ xs) : (at_ xs 0).f0 ≤ z.f0 := by
  obtain ⟨i, hi, rfl⟩ := List.mem_iff_getElem.1 hz
  have := h.least less_weak i hi
  rw [at_eq xs i hi] at this
  simp [less] at this
  exact this
theorem at_mem {xs : List El} (h : xs ≠ []) : at_ xs 0 ∈ xs := by
  have := List.length_pos_iff.2 h
  rw [at_eq xs 0 this]
  exact List.getElem_mem _
structure Pops (xs us vs out : List El) (k : Nat) : Prop where
  ha : Heap less us
  hb : Heap less vs
  pab : (us.map El.f0).Perm (vs.map El.f0)
  pout : (out ++ us).Perm xs
  len : out.length = k
  up : ∀ z ∈ us, k ≠ 0 → (at_ out (k - 1)).f0 ≤ z.f0
theorem Pops.alen {xs us vs out : List El} {k : Nat} (h : Pops xs us vs out k) : us.length + k = xs.length ∧ vs.length + k = xs.length := by
  have h1 := h.pout.length_eq
  have h2 := h.pab.length_eq
  have h3 := h.len
  simp at h1 h2
  omega
theorem Pops.same {xs us vs out : List El} {k : Nat} (h : Pops xs us vs out k) (hk : k < xs.length) : us ≠ [] ∧ vs ≠ [] ∧ (at_ us 0).f0 = (at_ vs 0).f0 ∧ (k ≠ 0 → (at_ out (k - 1)).f0 ≤ (at_ us 0).f0) := by
  obtain ⟨l1, l2⟩ := h.alen
  have ha : us ≠ [] := List.length_pos_iff.1 (by omega)
  have hb : vs ≠ [] := List.length_pos_iff.1 (by omega)
  refine ⟨ha, hb, ?_, fun h0 => h.up _ (at_mem ha) h0⟩
  have m1 : (at_ us 0).f0 ∈ vs.map El.f0 := h.pab.mem_iff.1 (List.mem_map_of_mem (at_mem ha))
  have m2 : (at_ vs 0).f0 ∈ us.map El.f0 := h.pab.mem_iff.2 (List.mem_map_of_mem (at_mem hb))
  obtain ⟨z1, hz1, e1⟩ := List.mem_map.1 m1
  obtain ⟨z2, hz2, e2⟩ := List.mem_map.1 m2
  have := least_le h.ha hz2
  have := least_le h.hb hz1
  omega
theorem Pops.step {xs us vs out : List El} {k : Nat} (h : Pops xs us vs out k) (hk : k < xs.length) : Pops xs (popRest less us) (popRest less vs) (out ++ [at_ us 0]) (k + 1) := by
  obtain ⟨ha, hb, he, _⟩ := h.same hk
  have pa := popRest_perm less us ha
  have pb := popRest_perm less vs hb
  refine ⟨popRest_heap less_weak h.ha, popRest_heap less_weak h.hb, ?_, ?_, by simp [h.len], fun z hz _ => ?_⟩
  · have := (pa.map El.f0).trans (h.pab.trans (pb.map El.f0).symm)
    simp only [List.map_cons, he] at this
    exact this.cons_inv
  · rw [List.append_assoc]
    exact (List.Perm.append_left out pa).trans h.pout
  · rw [Nat.add_sub_cancel, ← h.len]
    have e : at_ (out ++ [at_ us 0]) out.length = at_ us 0 := by simp [at_, List.getD]
    rw [e]
    exact least_le h.ha (pa.mem_iff.1 (List.mem_cons_of_mem _ hz))
theorem cnt_perm {xs ys : List El} (h : xs.Perm ys) (x : El) : cnt xs x = cnt ys x := h.countP_eq _

/-- The two heaps lie apart, in new memory. -/
structure Sep (W : World) (ga gb : Nat) (pa pb : Option Addr) : Prop where
  gal : W.heap.size ≤ ga
  gbl : W.heap.size ≤ gb
  pal : ∀ k, blkOf pa = some k → W.heap.size ≤ k
  pbl : ∀ k, blkOf pb = some k → W.heap.size ≤ k
  ne : ga ≠ gb
  ab : blkOf pa ≠ some gb
  ba : blkOf pb ≠ some ga
  pp : ∀ k, blkOf pa = some k → blkOf pb ≠ some k
/-- Loop 1: b is being filled. -/
def FillB (W w : World) (ga gb : Nat) (pa : Option Addr) (ca : Nat) (us : List El) (xs : List El) (k : Nat) : Prop :=
  ∃ pb cb, Mem w ga pa ca us ∧ Mem w gb pb cb (pushAll less (xs.take k)) ∧ Ext (fun _ => False) W w ∧ Sep W ga gb pa pb
theorem FillB.step {W w w1 : World} {ga gb : Nat} {pa p : Option Addr} {ca c k : Nat} {us xs : List El} (hA : Mem w ga pa ca us) (hB : Mem w gb p c (pushAll less (xs.take k))) (hx : Ext (fun _ => False) W w) (hs : Sep W ga gb pa p) (hk : k < xs.length) {e : Ending}
    (h : PushEnd w gb p (pushAll less (xs.take k)) (at_ xs k) e w1) : FillB W w1 ga gb pa ca us xs (k + 1) := by
  obtain ⟨v, p1, c1, _, hM, hE, hm⟩ := h
  have e1 : pushAll less (xs.take (k + 1)) = push less (pushAll less (xs.take k)) (at_ xs k) := by
    rw [List.take_succ_eq_append_getElem hk, ← at_eq xs k hk, pushAll_snoc]
  have hN : ∀ i, i < w.heap.size → (i = gb ∨ blkOf p = some i) → W.heap.size ≤ i := fun i _ h => h.elim (fun h => h ▸ hs.gbl) (hs.pbl i)
  have ha := blk_lt hA.blk
  refine ⟨p1, c1, hA.ext hE (fun h => h.elim hs.ne hs.ba) (fun i hi h => h.elim (fun h => hs.ab (h ▸ hi)) (hs.pp i hi)), e1 ▸ hM, hx.trans hE (fun i hi h => by have := hN i (by have := hx.size; omega) h; omega), hs.gal, hs.gbl, hs.pal, ?_, hs.ne, hs.ab, ?_, ?_⟩
  · intro i hi
    rcases hm i hi with h | h
    · exact hs.pbl i h
    · have := hx.size; omega
  · intro hi
    rcases hm ga hi with h | h
    · exact hs.ba h
    · omega
  · intro i hi hj
    rcases hm i hj with h | h
    · exact hs.pp i hi h
    · have := arr_lt hA.row hi; omega
/-- Loop 2: both are popped, and what comes out of a is kept. -/
def SortSt (W w : World) (ga gb : Nat) (pa pb : Option Addr) (ca cb : Nat) (xs : List El) (us vs out : List El) (po : Option Addr) (co k : Nat) : Prop :=
  Mem w ga pa ca us ∧ Mem w gb pb cb vs ∧ Arr w 43 2 po k co (flat out) ∧ Ext (fun _ => False) W w ∧ Pops xs us vs out k ∧ (∀ i, blkOf po = some i → W.heap.size ≤ i ∧ i ≠ ga ∧ i ≠ gb ∧ blkOf pa ≠ some i ∧ blkOf pb ≠ some i)
theorem map_at (xs : List El) : (List.range xs.length).map (at_ xs) = xs := by
  apply List.ext_getElem?
  intro i
  by_cases hi : i < xs.length
  · rw [List.getElem?_map, List.getElem?_range hi, at_get xs i hi]; rfl
  · rw [List.getElem?_eq_none (by simp; omega), List.getElem?_eq_none (by omega)]
theorem SortSt.start {W w : World} {ga gb ca : Nat} {pa : Option Addr} {xs : List El} (h : FillB W w ga gb pa ca (pushAll less xs) xs xs.length) : ∃ pb cb, Sep W ga gb pa pb ∧ SortSt W w ga gb pa pb ca cb xs (pushAll less xs) (pushAll less xs) [] none 0 0 := by
  obtain ⟨pb, cb, hA, hB, hx, hs⟩ := h
  rw [List.take_length] at hB
  exact ⟨pb, cb, hs, hA, hB, arr_nil _ _ _, hx, ⟨pushAll_heap less_weak _, pushAll_heap less_weak _, .refl _, by simpa using pushAll_perm less xs, rfl, fun _ _ h => absurd rfl h⟩, fun i hi => by cases hi⟩
theorem SortSt.step {W wr w3 w4 wc w5 : World} {ga gb ca cb co c1 k : Nat} {pa pb pp p1 : Option Addr} {xs us vs out : List El} {X : El} {o : Obj} (hst : SortSt W wr ga gb pa pb ca cb xs us vs out pp co k) (hS : Sep W ga gb pa pb) (hlt : k < xs.length) (hX : at_ us 0 = X)
    (hA3 : Mem w3 ga pa ca (popRest less us)) (hx3 : Ext (fun k => k = ga ∨ blkOf pa = some k) wr w3) (hB4 : Mem w4 gb pb cb (popRest less vs)) (hx4 : Ext (fun k => k = gb ∨ blkOf pb = some k) (w3.alloc o) w4) (hc : Ext (fun _ => False) w4 wc)
    (hA5 : Arr w5 43 2 p1 (k + 1) c1 (flat out ++ X.cells)) (hx5 : Ext (fun k => blkOf pp = some k) wc w5) (hm : Moved wc pp p1) : SortSt W w5 ga gb pa pb ca cb xs (popRest less us) (popRest less vs) (out ++ [X]) p1 c1 (k + 1) := by
  obtain ⟨hA, hB, hO, hE, hP, hd⟩ := hst
  have s0 := hE.size
  have s3 := hx3.size
  have s4 := hx4.size
  rw [World.size_alloc] at s4
  have s5 := hc.size
  have a1 := blk_lt hA.blk
  have b1 := blk_lt hB.blk
  refine ⟨?_, ?_, ?_, ?_, hX ▸ hP.step hlt, ?_⟩
  · refine (((hA3.ext ((Ext.refl (fun _ => False) w3).alloc o) (fun h => h) (fun _ _ h => h)).ext hx4 (fun h => h.elim hS.ne hS.ba) (fun i hi h => h.elim (fun h => hS.ab (h ▸ hi)) (hS.pp i hi))).ext hc (fun h => h) (fun _ _ h => h)).ext hx5 (fun h => (hd _ h).2.1 rfl) (fun i hi h => (hd _ h).2.2.2.1 hi)
  · exact (hB4.ext hc (fun h => h) (fun _ _ h => h)).ext hx5 (fun h => (hd _ h).2.2.1 rfl) (fun i hi h => (hd _ h).2.2.2.2 hi)
  · rw [flat_append, flat_one]; exact hA5
  · refine (((hE.trans (hx3.trans ((Ext.refl (fun _ => False) w3).alloc o) (fun _ _ h => h.elim)) ?_).trans hx4 ?_).trans hc (fun _ _ h => h)).trans hx5 ?_
    · rintro i hi (h | h)
      · have := hS.gal; omega
      · have := hS.pal i h; omega
    · rintro i hi (h | h)
      · have := hS.gbl; omega
      · have := hS.pbl i h; omega
    · intro i hi h
      have := (hd i h).1; omega
  · intro i hi
    rcases hm i hi with h | h
    · exact hd i h
    · refine ⟨by omega, by omega, by omega, fun h2 => ?_, fun h2 => ?_⟩
      · have := arr_lt hA.row h2; omega
      · have := arr_lt hB.row h2; omega

set_option maxHeartbeats 4000000 in
set_option maxRecDepth 100000 in
/-- HeapSorts. -/
theorem sorts_any (W : World) (p : Option Addr) (c : Nat) (xs0 : List El) (hx0 : RowR W p xs0) (hb : xs0.length * 16 ≤ 140737488351232) (hc : xs0.length ≤ c) (_ : c ≤ maxLen) (hz : p = none → xs0.length = 0) :
    Calls Try.prog 8 #[.slice p xs0.length c] W fun e w' => e = .returned (.bool true) ∧ Ext (fun _ => False) W w' := by
  have HX0 := Lib.hid hx0
  clear hx0
  go_enter Try.func8, Try.ntmps8
  go_upto_if 15 with fail
  go_cut [0] (fun l wc => W = wc ∧ ∃ xs : List El, RowR W p xs ∧ xs.length ≤ 300 ∧ l = .slice p xs.length c)
  case first =>
    by_cases hn : xs0.length ≤ 300
    · have hn2 : ¬ ((xs0.length : Int) > 300) := by omega
      go_wp2_with fail
      go_meet
      exact ⟨rfl, xs0, HX0.out, hn, rfl⟩
    · have hn2 : (xs0.length : Int) > 300 := by omega
      have hn3 : (300 : Int) ≤ (c : Int) := by omega
      go_wp2_with fail
      go_meet
      exact ⟨rfl, xs0.take 300, HX0.out.take 300 (by omega), by simp; omega, by simp; omega⟩
  case rest =>
    obtain ⟨rfl, xs, hx, hn, rfl⟩ := hcut
    have O1 := of_any W p xs.length c (at_ xs) (by omega) hx
    have HX := Lib.hid hx
    have O1 := Lib.hid O1
    clear hx HX0 hc hb
    go_wp2_with fail
    refine O1.out.mono ?_
    rintro e w1 ⟨rfl, pa, ca, hA, hx1, hpa⟩
    rw [map_at] at hA
    have HA := Lib.hid hA
    have HX1 := Lib.hid hx1
    have HPA := Lib.hid hpa
    have g1 := blk_lt hA.blk
    clear hA hx1 hpa O1
    go_wp2_with fail
    refine (new_any w1).mono ?_
    rintro e w2 ⟨rfl, hB, hx2⟩
    have F0 : FillB W w2 W.heap.size w1.heap.size pa ca (pushAll less xs) xs 0 := ⟨none, 0, HA.out.ext hx2 (fun h => h) (fun _ _ h => h), hB, HX1.out.trans hx2 (fun _ _ h => h), Nat.le_refl _, HX1.out.size, HPA.out, fun _ h => (by cases h), by omega, fun h => by have := arr_lt HA.out.row h; omega, fun h => (by cases h), fun _ _ h => (by cases h)⟩
    have F0 := Lib.hid F0
    clear hB hx2 HA HX1 HPA
    generalize w1.heap.size = gb at *
    go_wp2_with fail
    go_loopw [5] (fun i wr => ∃ k : Nat, k ≤ xs.length ∧ i = .int .i64 k ∧ FillB W wr W.heap.size gb pa ca (pushAll less xs) xs k) (fun i _ => xs.length - (intOf i).toNat)
    case atStart => exact ⟨0, Nat.zero_le _, rfl, F0.out⟩
    case round =>
      obtain ⟨k, hk, rfl, hst⟩ := hrel
      by_cases hlt : k < xs.length
      · obtain ⟨pb, cb, hA, hB, hE, hS⟩ := hst
        have HA := Lib.hid hA
        have HB := Lib.hid hB
        have HE := Lib.hid hE
        have HS := Lib.hid hS
        obtain ⟨X, hX⟩ : ∃ X, at_ xs k = X := ⟨_, rfl⟩
        obtain ⟨b, o, rfl, hb0, e0, e1⟩ := (HX.out.ext hE (fun _ _ _ h => h)).elem k hlt X hX
        have HXX := Lib.hid hX
        have i1 : (k : Int) < (xs.length : Int) := by omega
        have HP := Lib.hid (push_any wr gb pb cb (pushAll less (xs.take k)) X hB (by rw [pushAll_length, List.length_take]; omega))
        clear hA hB hE hS hX F0
        go_wp2_with fail
        refine HP.out.mono ?_
        rintro e w3 h2
        have T := Lib.hid (FillB.step HA.out HB.out HE.out HS.out hlt (by rw [HXX.out]; exact h2))
        obtain ⟨v, _, _, rfl, _⟩ := h2
        clear HP
        go_wp2_with fail
        go_roundw
        case rel => exact ⟨k + 1, by omega, by go_num, T.out⟩
        case measure => simp [intOf]; omega
      · obtain rfl : k = xs.length := by omega
        obtain ⟨pb, cb, hS, hst⟩ := SortSt.start hst
        have HS := Lib.hid hS
        have HST := Lib.hid hst
        clear hst hS F0
        go_wp2_with fail
        go_loopw [6, 7] (fun po i wr => ∃ k pp co us vs out, k ≤ xs.length ∧ i = .int .i64 (k : Nat) ∧ po = .slice pp k co ∧ SortSt W wr W.heap.size gb pa pb ca cb xs us vs out pp co k) (fun _ i _ => xs.length - (intOf i).toNat)
        case atStart => exact ⟨0, none, 0, _, _, _, Nat.zero_le _, rfl, rfl, HST.out⟩
        case round =>
          obtain ⟨k, pp, co, us, vs, out, hk, rfl, rfl, hst⟩ := hrel
          have HST2 := Lib.hid hst
          clear HST
          by_cases hlt : k < xs.length
          · obtain ⟨hA, hB, hO, hE, hP, hd⟩ := hst
            have hal := hP.alen
            obtain ⟨na, nb, he, hup⟩ := hP.same hlt
            obtain ⟨X, hX⟩ : ∃ X, at_ us 0 = X := ⟨_, rfl⟩
            obtain ⟨Y, hY⟩ : ∃ Y, at_ vs 0 = Y := ⟨_, rfl⟩
            have PA := Lib.hid (pop_some wr W.heap.size pa ca us hA na X hX (by omega))
            have HP2 := Lib.hid (hP.step hlt)
            have HB := Lib.hid hB
            have HO := Lib.hid hO
            have HD := Lib.hid hd
            have HP3 := Lib.hid hP
            rw [hX, hY] at he
            rw [hX] at hup HP2
            have hne : (X.f0 != Y.f0) = false := by rw [he]; simp
            have i1 : (k : Int) < (xs.length : Int) := by omega
            have al := blk_lt hA.blk
            have bl := blk_lt hB.blk
            have HNE := Lib.hid (And.intro na nb)
            have HXX2 := Lib.hid hX
            clear hA hB hO hE hP hd na nb hX he
            go_wp2_with fail
            refine PA.out.mono ?_
            rintro e w3 ⟨rfl, hA3, hx3⟩
            have HA3 := Lib.hid hA3
            have HX3 := Lib.hid hx3
            have b3 : Mem (w3.alloc (.cells #[.int .i64 X.f0, .int .i64 X.f1] 43)) gb pb cb vs := (HB.out.ext hx3 (fun h => h.elim (fun h => HS.out.ne h.symm) HS.out.ab) (fun i hi h => h.elim (fun h => HS.out.ba (h ▸ hi)) (fun h => HS.out.pp i h hi))).ext ((Ext.refl (fun _ => False) w3).alloc _) (fun h => h) (fun _ _ h => h)
            have PB := Lib.hid (pop_some _ gb pb cb vs b3 HNE.out.2 Y hY (by omega))
            have s3 := hx3.size
            clear hA3 hx3 b3 hY
            go_wp2_with fail
            refine PB.out.mono ?_
            rintro e w4 ⟨rfl, hB4, hx4⟩
            have s4 := hx4.size
            rw [World.size_alloc] at s4
            replace s4 := Nat.lt_of_succ_le s4
            have bx := hx4.obj (heap_alloc_new w3 (.cells #[.int .i64 X.f0, .int .i64 X.f1] 43)) (fun h => h.elim (fun h => by omega) (fun h => by have := arr_lt HB.out.row h; omega))
            have x0 := blk_cell bx 0
            simp at x0
            have x1 := blk_cell bx 1
            simp at x1
            have hO4 : Arr w4 43 2 pp k co (flat out) := arr_ext (arr_ext (arr_ext HO.out HX3.out (fun i hi h => h.elim (HD.out i hi).2.1 (HD.out i hi).2.2.2.1)) ((Ext.refl (fun _ => False) w3).alloc _) (fun _ _ h => h)) hx4 (fun i hi h => h.elim (HD.out i hi).2.2.1 (HD.out i hi).2.2.2.2)
            have HB4 := Lib.hid hB4
            have HX4 := Lib.hid hx4
            have HO4 := Lib.hid hO4
            have HBX := Lib.hid bx
            clear hB4 hx4 PA PB F0 bx
            go_upto_region 17 with fail
            go_cut [82] from 39 to 86 (fun t wc => t = .bool false ∧ Ext (fun _ => False) w4 wc)
            case first =>
              by_cases h0 : k = 0
              · subst h0
                clear hO4
                go_quiet (fail)
                go_wp2_with fail
                go_meet
                exact ⟨rfl, ((Ext.refl (fun _ => False) w4).alloc _).drewN nq⟩
              · have hg : decide ((k : Int) > 0) = true := by simp; omega
                have hg2 : (k : Int) > 0 := by omega
                obtain ⟨m, rfl⟩ : ∃ m, k = m + 1 := ⟨k - 1, by omega⟩
                obtain ⟨Z, hZ⟩ : ∃ Z, at_ out m = Z := ⟨_, rfl⟩
                rw [Nat.add_sub_cancel, hZ] at hup
                replace hup := hup h0
                obtain ⟨d, rfl⟩ := arr_some hO4 (by omega)
                obtain ⟨z0, z1⟩ := Row.elem hO4 (by rw [HP3.out.len]) m (by rw [HP3.out.len]; omega) Z hZ
                have hd := arr_lt hO4 rfl
                simp at hd
                have i2 : (m : Int) < ((m + 1 : Nat) : Int) := by omega
                have i3 : ((m + 1 : Nat) : Int) - 1 = (m : Int) := by omega
                have hl : decide (X.f0 < Z.f0) = false := by simp; omega
                clear hO4 hZ hup
                go_quiet (fail)
                go_wp2_with fail
                go_meet
                exact ⟨rfl, ((Ext.refl (fun _ => False) w4).alloc _).drewN nq⟩
            case rest =>
              obtain ⟨rfl, hxc⟩ := hcut
              have bx := hxc.obj HBX.out (fun h => h)
              have y0 := blk_cell bx 0
              simp at y0
              have y1 := blk_cell bx 1
              simp at y1
              have hOc := arr_ext hO4 hxc (fun _ _ h => h)
              have HXC := Lib.hid hxc
              have HXe := Lib.hid (show at_ us 0 = X from HXX2.out)
              clear bx hxc hO4 x0 x1 hup
              go_wp2_with (at_builtin; refine arr_append1 rfl (.tmp 83) (.tmp 85) 40 43 2 16 (.agg #[.int .i64 0, .int .i64 0]) rfl Try.underlying40 infoE rfl (by decide) (by decide) pp k co (flat out) [.int .i64 X.f0, .int .i64 X.f1] rfl _ rfl (by simp) rfl (by simp [Value.oneCell']) hOc (by omega) ?_; intro p1 c1 w5 hA5 hx5 hm5; have T := Lib.hid (SortSt.step HST2.out HS.out hlt HXe.out HA3.out HX3.out HB4.out HX4.out HXC.out hA5 hx5 hm5); clear hA5 hx5 hm5)
              go_roundw
              case rel => exact ⟨k + 1, p1, c1, _, _, _, by omega, by go_num, rfl, T.out⟩
              case measure => simp [intOf]; omega
          · obtain rfl : k = xs.length := by omega
            obtain ⟨hA, hB, hO, hE, hP, hd⟩ := hst
            have hal := hP.alen
            obtain rfl : us = [] := List.eq_nil_of_length_eq_zero (by omega)
            obtain rfl : vs = [] := List.eq_nil_of_length_eq_zero (by omega)
            have hperm : out.Perm xs := by simpa using hP.pout
            have hol : out.length = xs.length := hP.len
            rw [← hol] at hO
            have HR := Lib.hid (Row.reads hO)
            have HA := Lib.hid hA
            have HB := Lib.hid hB
            have HE := Lib.hid hE
            have HPM := Lib.hid hperm
            have HOL := Lib.hid hol
            have HXW := Lib.hid (HX.out.ext hE (fun _ _ _ h => h))
            clear hA hB hO hE hP hd hal hperm HST2 HX F0 hol
            go_wp2_with fail
            go_loopw [12] (fun i w => ∃ k : Nat, k ≤ xs.length ∧ i = .int .i64 k ∧ Ext (fun _ => False) wr w) (fun i _ => xs.length - (intOf i).toNat)
            case atStart => exact ⟨0, Nat.zero_le _, rfl, .refl _ _⟩
            case round =>
              obtain ⟨k, hk, rfl, hxr⟩ := hrel
              have HXR := Lib.hid hxr
              by_cases hlt2 : k < xs.length
              · obtain ⟨X, hX⟩ : ∃ X, at_ xs k = X := ⟨_, rfl⟩
                have HRr := HR.out.ext hxr (fun _ _ _ h => h)
                have HXr := HXW.out.ext hxr (fun _ _ _ h => h)
                obtain ⟨b, o, rfl, hb0, e0, e1⟩ := HXr.elem k hlt2 X hX
                have HC10 : ∀ w, Ext (fun _ => False) wr w → Calls Try.prog 34 #[.slice pp xs.length co, .agg #[.int .i64 X.f0, .int .i64 X.f1]] w fun e w' => e = .returned (.int .i64 (cnt xs X : Nat)) ∧ Ext (fun _ => False) wr w' ∧ w'.cell? ⟨b, o + k * 2, none⟩ = some (.int .i64 X.f0) ∧ w'.cell? ⟨b, o + k * 2 + 1, none⟩ = some (.int .i64 X.f1) ∧ b < w'.heap.size := fun w hx => by
                  have h := count_any w pp co out X (HRr.ext hx (fun _ _ _ h => h)) (by rw [HOL.out]; omega)
                  rw [HOL.out] at h
                  refine h.mono ?_
                  rintro e w' ⟨rfl, h2⟩
                  have h3 := hx.trans h2 (fun _ _ h => h)
                  exact ⟨by rw [cnt_perm HPM.out], h3, (h3.cell hb0 (fun h => h)).trans e0, (h3.cell hb0 (fun h => h)).trans e1, Nat.lt_of_lt_of_le hb0 h3.size⟩
                have HC20 : ∀ w, Ext (fun _ => False) wr w → Calls Try.prog 34 #[.slice (some ⟨b, o, none⟩) xs.length c, .agg #[.int .i64 X.f0, .int .i64 X.f1]] w fun e w' => e = .returned (.int .i64 (cnt xs X : Nat)) ∧ Ext (fun _ => False) wr w' ∧ w'.cell? ⟨b, o + k * 2, none⟩ = some (.int .i64 X.f0) ∧ w'.cell? ⟨b, o + k * 2 + 1, none⟩ = some (.int .i64 X.f1) ∧ b < w'.heap.size := fun w hx => by
                  have h := count_any w _ c xs X (HXr.ext hx (fun _ _ _ h => h)) (by omega)
                  refine h.mono ?_
                  rintro e w' ⟨rfl, h2⟩
                  have h3 := hx.trans h2 (fun _ _ h => h)
                  exact ⟨rfl, h3, (h3.cell hb0 (fun h => h)).trans e0, (h3.cell hb0 (fun h => h)).trans e1, Nat.lt_of_lt_of_le hb0 h3.size⟩
                have i1 : (k : Int) < (xs.length : Int) := by omega
                have HC0 := fun w q cq (hq : (q = pp ∧ cq = co) ∨ (q = some ⟨b, o, none⟩ ∧ cq = c)) (hx : Ext (fun _ => False) wr w) => (show Calls Try.prog 34 #[.slice q xs.length cq, .agg #[.int .i64 X.f0, .int .i64 X.f1]] w fun e w' => e = .returned (.int .i64 (cnt xs X : Nat)) ∧ Ext (fun _ => False) wr w' ∧ w'.cell? ⟨b, o + k * 2, none⟩ = some (.int .i64 X.f0) ∧ w'.cell? ⟨b, o + k * 2 + 1, none⟩ = some (.int .i64 X.f1) ∧ b < w'.heap.size from by
                  rcases hq with ⟨rfl, rfl⟩ | ⟨rfl, rfl⟩
                  · exact HC10 w hx
                  · exact HC20 w hx)
                have HC := Lib.hid HC0
                clear HRr HXr hX hxr HC10 HC20 HC0
                go_upto_region 23 with fail
                go_cut [105] from 87 to 105 (fun t wc => t = .bool false ∧ Ext (fun _ => False) wr wc)
                case first =>
                  go_region_with (first
                    | (go_at_call 34; refine (HC.out _ _ _ ?_ ?_).mono ?_; (first | exact .inl ⟨rfl, rfl⟩ | exact .inr ⟨rfl, rfl⟩); (repeat (first | exact Ext.refl _ _ | assumption | refine Ext.drew ?_)); rintro e w' ⟨rfl, hq1, hq2, hq3, hq4⟩))
                  all_goals go_wp2_with fail
                  all_goals go_meet
                  all_goals exact ⟨rfl, by repeat (first | exact Ext.refl _ _ | assumption | refine Ext.drew ?_)⟩
                case rest =>
                  obtain ⟨rfl, hxc⟩ := hcut
                  have T := Lib.hid (HXR.out.trans hxc (fun _ _ h => h))
                  clear hxc e0 e1
                  go_wp2_with fail
                  go_roundw
                  case rel => exact ⟨k + 1, by omega, by go_num, T.out⟩
                  case measure => simp [intOf]; omega
              · obtain rfl : k = xs.length := by omega
                have L1 := Lib.hid (len_any (HA.out.ext hxr (fun h => h) (fun _ _ h => h)))
                have L2 := Lib.hid (len_any (HB.out.ext hxr (fun h => h) (fun _ _ h => h)))
                clear hxr
                go_wp2_with fail
                refine L1.out.mono ?_
                rintro e w' ⟨rfl, rfl⟩
                go_wp2_with fail
                refine L2.out.mono ?_
                rintro e w' ⟨rfl, rfl⟩
                go_wp2_with fail
                refine (HeapI.known_any _).mono ?_
                rintro e w6 ⟨rfl, hx⟩
                have X6 := Lib.hid ((HE.out.trans HXR.out (fun _ _ h => h)).trans hx (fun _ _ h => h))
                clear hx
                go_wp2_with fail
                go_ret
                exact ⟨rfl, X6.out⟩
end Go.Proofs.Ytjaehghnjolaaaa.HeapP
