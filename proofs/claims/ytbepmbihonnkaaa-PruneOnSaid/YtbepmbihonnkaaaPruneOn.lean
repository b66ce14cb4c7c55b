/- law24.PruneOn. -/
import Derived.Test.YtbepmbihonnkaaaPruneFiner
import Derived.Test.YtbepmbihonnkaaaMapKit2
namespace Go.Proofs.Ytbepmbihonnkaaa.Bpe
open Go.RowKit Go.Proofs.Ytbepmbihonnkaaa.Lib Go.Proofs.Ytbepmbihonnkaaa.Sl
set_option linter.unusedVariables false
set_option linter.unusedSimpArgs false

section
variable {d : Dat} {n : Nat}
/-- The names of the first k ids that have one, and the ids. -/
def entsO (d : Dat) (n k : Nat) : List (Value × Value) := (List.range k).filterMap fun (id : Nat) => if 0 ≤ nm d n (id : Int) then some (.int .i64 (nm d n (id : Int)), .int .i64 (id : Int)) else none
theorem entsO_succ (k : Nat) : entsO d n (k + 1) = entsO d n k ++ (if 0 ≤ nm d n (k : Int) then [((.int .i64 (nm d n (k : Int)), .int .i64 (k : Int)) : Value × Value)] else []) := by
  unfold entsO
  rw [List.range_succ, List.filterMap_append]
  congr 1
  by_cases h : 0 ≤ nm d n (k : Int)
  · rw [if_pos h]; simp [h]
  · rw [if_neg h]; simp [h]
theorem entsO_mem {k : Nat} {p : Value × Value} (h : p ∈ entsO d n k) : ∃ id : Nat, id < k ∧ 0 ≤ nm d n (id : Int) ∧ p = (.int .i64 (nm d n (id : Int)), .int .i64 (id : Int)) := by
  unfold entsO at h
  obtain ⟨id, hid, he⟩ := List.mem_filterMap.1 h
  by_cases h0 : 0 ≤ nm d n (id : Int)
  · rw [if_pos h0] at he
    cases he
    exact ⟨id, List.mem_range.1 hid, h0, rfl⟩
  · rw [if_neg h0] at he
    cases he
theorem entsO_in {k id : Nat} (h : id < k) (h0 : 0 ≤ nm d n (id : Int)) : ((.int .i64 (nm d n (id : Int)), .int .i64 (id : Int)) : Value × Value) ∈ entsO d n k := by
  unfold entsO
  exact List.mem_filterMap.2 ⟨id, List.mem_range.2 h, by rw [if_pos h0]⟩
theorem nm_new {id : Nat} (h : id < 256 + d.ms.length) : nm d n (id : Int) = newOf d n id := by
  unfold nm renAt
  rw [Int.toNat_natCast, ren_at d n _ _ h]
  rfl
theorem new_made (hd : RightD d) {id : Nat} (h : id < 256 + d.ms.length) (h0 : 0 ≤ nm d n (id : Int)) : madeB (d.ms.take n) (id : Int) = true := by
  rw [nm_new h] at h0
  unfold newOf at h0
  by_cases hb : id < 256
  · unfold madeB
    rw [decide_eq_true (show (0 : Int) ≤ (id : Int) by omega), decide_eq_true (show (id : Int) < 256 by omega)]; rfl
  · rw [if_neg hb] at h0
    obtain ⟨j, x, hr, hj, hi, hlt⟩ := hd.rank_ex (id := (id : Int)) (by omega) (by omega)
    rw [hr] at h0
    by_cases hjn : j < n
    · unfold madeB
      simp only [Bool.or_eq_true, Bool.and_eq_true]
      exact .inr ⟨decide_eq_true (by omega), isId_iff.2 ⟨j, x, by rw [List.getElem?_take, if_pos hjn]; exact hj, hi⟩⟩
    · simp [hjn] at h0
theorem made_new (hd : RightD d) (hnm : n ≤ d.ms.length) {x : Int} (h : madeB (d.ms.take n) x = true) : 0 ≤ nm d n x := by
  rcases part_cases h with ⟨h0, h1⟩ | ⟨j, y, hj, hy, rfl⟩
  · rw [nm_byte n h0 h1]; exact h0
  · rw [(nm_made hd n hy hj hnm).1]; omega
theorem entsO_len (d : Dat) (n : Nat) : ∀ k, k ≤ 256 + d.ms.length → (entsO d n k).length = min k 256 + (renGo d n k).2.length := by
  intro k
  induction k with
  | zero => intro _; rfl
  | succ k ih =>
    intro hk
    rw [entsO_succ, List.length_append, ih (by omega), nm_new (by omega)]
    unfold newOf
    by_cases h0 : k < 256
    · rw [renGo_low d n h0, if_pos h0, if_pos (by omega)]
      simp
      omega
    · rw [if_neg h0]
      by_cases h1 : (((rankOf d.ms k).getD 0 : Nat) : Int) < (n : Int)
      · rw [renGo_in d n h0 h1, if_pos h1, if_pos (by omega)]
        simp
        omega
      · rw [renGo_out d n h0 h1, if_neg h1, if_neg (by omega)]
        simp
        omega
theorem entsO_ok (d : Dat) (n k : Nat) (hd : RightD d) : ∀ p ∈ entsO d n k, ∃ z : Int, inI z ∧ p.1 = .int .i64 z := fun p hp => by
  obtain ⟨id, _, _, rfl⟩ := entsO_mem hp
  have := renAt_bd d n (256 + d.ms.length) (id : Int)
  have h2 := hd.few
  exact ⟨_, by unfold inI; unfold nm; omega, rfl⟩
theorem entsO_ne (hd : RightD d) (hnm : n ≤ d.ms.length) {k : Nat} (hk : k < 256 + d.ms.length) (h0 : 0 ≤ nm d n (k : Int)) : ∀ p ∈ entsO d n k, p.1 ≠ .int .i64 (nm d n (k : Int)) := fun p hp he => by
  obtain ⟨id, hid, h1, rfl⟩ := entsO_mem hp
  simp at he
  have := nm_inj hd n hnm (new_made hd (show id < 256 + d.ms.length by omega) h1) (new_made hd hk h0) he
  omega
theorem entsO_at (hd : RightD d) (hnm : n ≤ d.ms.length) {x : Int} (h : madeB (d.ms.take n) x = true) {v : Value} (hv : ((.int .i64 (nm d n x), v) : Value × Value) ∈ entsO d n (256 + d.ms.length)) : v = .int .i64 x := by
  obtain ⟨id, hid, h1, he⟩ := entsO_mem hv
  simp at he
  have := nm_inj hd n hnm h (new_made hd hid h1) he.1
  rw [he.2, this]
theorem entsO_has (hd : RightD d) (hnm : n ≤ d.ms.length) {x : Int} (h : madeB (d.ms.take n) x = true) : ∃ p ∈ entsO d n (256 + d.ms.length), p.1 = .int .i64 (nm d n x) := by
  have hr := hd.part_range h
  have h0 := made_new hd hnm h
  obtain ⟨id, rfl⟩ : ∃ id : Nat, x = id := ⟨x.toNat, by omega⟩
  exact ⟨_, entsO_in (by omega) h0, rfl⟩
end
/-- The names come back, one by one. -/
structure BackSt (W1 wr : World) (d : Dat) (n : Nat) (l1 : List Int) (p : Option Addr) (c k : Nat) : Prop where
  kl : k ≤ l1.length
  row : Arr wr 3 1 p l1.length c (Chain.ints (l1.take k ++ (l1.drop k).map (nm d n)))
  ext : Ext (fun j => blkOf p = some j) W1 wr
theorem BackSt.step {W1 wr : World} {d : Dat} {n : Nat} {l1 : List Int} {a c k : Nat} (h : BackSt W1 wr d n l1 (some ⟨a, 0, none⟩) c k) {x : Int} (hx : l1[k]? = some x) : BackSt W1 (wr.setCell ⟨a, k, none⟩ (.int .i64 x)) d n l1 (some ⟨a, 0, none⟩) c (k + 1) := by
  obtain ⟨hk, e⟩ := List.getElem?_eq_some_iff.1 hx
  refine ⟨hk, ?_, h.ext.setCell (p := ⟨a, k, none⟩) (fun _ => rfl) _⟩
  have := arr_set h.row k (.int .i64 x)
  have e2 : (Chain.ints (l1.take k ++ (l1.drop k).map (nm d n))).set k (.int .i64 x) = Chain.ints (l1.take (k + 1) ++ (l1.drop (k + 1)).map (nm d n)) := by
    have hd : l1.drop k = x :: l1.drop (k + 1) := by rw [← e]; exact List.drop_eq_getElem_cons hk
    have hl : (l1.take k).length = k := by rw [List.length_take]; omega
    unfold Chain.ints
    rw [← List.map_set, hd, List.map_cons, List.set_append_right _ _ (by omega), hl, Nat.sub_self, List.set_cons_zero, List.take_add_one, hx]
    simp
  rwa [e2] at this
theorem BackSt.cell {W1 wr : World} {d : Dat} {n : Nat} {l1 : List Int} {a c k : Nat} (h : BackSt W1 wr d n l1 (some ⟨a, 0, none⟩) c k) {x : Int} (hx : l1[k]? = some x) : wr.cell? ⟨a, k, none⟩ = some (.int .i64 (nm d n x)) ∧ wr.frozen? ⟨a, k, none⟩ = false ∧ a < wr.heap.size := by
  obtain ⟨hk, e⟩ := List.getElem?_eq_some_iff.1 hx
  refine ⟨(arr_cell h.row k (by omega)).trans ?_, arr_frozen h.row k, arr_lt h.row rfl⟩
  have hl : (l1.take k).length = k := by rw [List.length_take]; omega
  unfold Chain.ints
  rw [List.getElem?_map, List.getElem?_append_right (by omega), hl, Nat.sub_self, List.getElem?_map, List.getElem?_drop, Nat.add_zero, hx]
  rfl
set_option maxRecDepth 100000 in
set_option maxHeartbeats 16000000 in
theorem pon_any (w : World) (L : Pl) (d : Dat) (h : DR w L d) (k : Int) (hk : (Lit.int .i64 k).wf = true) (s : ByteArray) (hs0 : s.size ≤ 140737488351232) :
    Calls Try.prog 9 #[.agg #[.slice L.p0 d.ws.length L.c0, .slice L.p1 d.ms.length L.c1, .slice L.p2 d.ls.length L.c2, .slice L.p3 d.ns.length L.c3, .slice L.p4 d.ss.length L.c4], .int .i64 k, .string s] w fun e w' => e = .returned (.bool true) ∧ Ext (fun _ => False) w w' := by
  have X0 := Lib.hid ((Ext.refl (fun _ => False) w).alloc (.cells (dataCells L d) 26))
  have C := Lib.hid (of5_any _ L d (h.on X0.out))
  clear h hk
  go_enter Try.func9, Try.ntmps9
  go_wp2_with fail
  refine C.out.mono ?_
  rintro e W ⟨hx, h⟩
  have X := Lib.hid (X0.out.trans hx (fun _ _ h => h))
  clear hx C
  rcases h with ⟨hg, rfl⟩ | ⟨hg, a, rfl, hm, hwa⟩
  · have K := Lib.hid (known24_any W)
    clear hg
    go_wp2_with fail
    refine K.out.mono ?_
    rintro e W2 ⟨rfl, hx2⟩
    have X2 := Lib.hid (X.out.trans hx2 (fun _ _ h => h))
    clear hx2
    go_wp2_with fail
    go_ret
    exact ⟨rfl, X2.out⟩
  · have D := Lib.hid (RightD.of_good hg)
    have HG := Lib.hid hg
    have M := Lib.hid hm
    have few := good_few hg
    clear hg hm
    go_wp2_with fail
    refine (few24_any W s 500 (by decide)).mono ?_
    rintro e W' ⟨rfl, rfl⟩
    have FZ0 := fewB_size s 500
    obtain ⟨t, ht⟩ : ∃ t, fewB s 500 = t := ⟨_, rfl⟩
    rw [ht] at FZ0 ⊢
    clear ht hs0
    have PF := pfirst_any W a d k M.out HG.out
    obtain ⟨n, hn⟩ : ∃ n, kc d k = n := ⟨_, rfl⟩
    have hnm : n ≤ d.ms.length := by rw [← hn]; exact kc_le d k
    rw [hn] at PF
    have PF := Lib.hid PF
    clear hn
    have HNM := Lib.hid hnm
    obtain ⟨l1, ol1, ol2, ol3⟩ := on_pure D.out hnm t
    have LOW := Lib.hid ol1
    have J1 := Lib.hid ol2
    have J2 := Lib.hid ol3
    have GC := Lib.hid (good_cut HG.out hnm)
    have LE1 : l1.length ≤ 500 := by
      have := join_le (cutD d n).ms (bytesL t)
      rw [ol2, List.length_map, bytesL_length] at this
      omega
    have LE0 : (joinT d.ms (bytesL t)).1.length ≤ 500 := by have := join_le d.ms (bytesL t); rw [bytesL_length] at this; omega
    have CS := Lib.hid (show (cutD d n).ws.length = n from ren_total D.out n hnm)
    have EL := Lib.hid (show (entsO d n (256 + d.ms.length)).length = 256 + n from by
      rw [entsO_len d n _ (Nat.le_refl _), ren_total D.out n hnm]; omega)
    have IL := Lib.hid (show (renGo d n (256 + d.ms.length)).1.length = 256 + d.ms.length from (renGo_len d _ _).1)
    clear ol1 ol2 ol3
    go_wp2_with fail
    refine PF.out.mono ?_
    rintro e W1 ⟨a1, ib, rfl, hm1, hA1, hx1, _, _⟩
    have X1 := Lib.hid (X.out.trans hx1 (fun _ _ h => h))
    have M1 := Lib.hid (M.out.on hx1)
    have N1 := Lib.hid hm1
    have I1 := Lib.hid (ints_rd hA1)
    have SZ := Lib.hid (show ∀ W', Ext (fun _ => False) W1 W' → Calls Try.prog 22 #[.pointer (some ⟨a, 0, none⟩)] W' fun e w' => e = .returned (.int .i64 (256 + (d.ms.length : Int))) ∧ W' = w' from fun W' hx' => by
      obtain ⟨L0, _, _, _, _, _, _, _, _, hM⟩ := M1.out.on hx'
      have := size_any W' a L0.p0 d.ws.length L0.c0 hM.blk.c0 (by have := hM.rd.b0; omega)
      rwa [D.out.len] at this)
    have SZ2 := Lib.hid (show ∀ W', Ext (fun _ => False) W1 W' → Calls Try.prog 22 #[.pointer (some ⟨a1, 0, none⟩)] W' fun e w' => e = .returned (.int .i64 (256 + (n : Int))) ∧ W' = w' from fun W' hx' => by
      obtain ⟨L0, _, _, _, _, _, _, _, _, hM⟩ := N1.out.on hx'
      have := size_any W' a1 L0.p0 (cutD d n).ws.length L0.c0 hM.blk.c0 (by have := hM.rd.b0; omega)
      rwa [CS.out] at this)
    clear hm1 hA1 hx1 PF M
    obtain ⟨nl, hnl⟩ : ∃ nl, 256 + d.ms.length = nl := ⟨_, rfl⟩
    have NL := Lib.hid hnl
    have hnb : nl ≤ 100000 := by omega
    have hnl2 : (256 : Int) + (d.ms.length : Int) = (nl : Int) := by omega
    have q0 : ((nl : Int) != (nl : Int)) = false := by simp
    have S1 := SZ.out W1 (Ext.refl _ _)
    rw [hnl2] at S1
    rw [hnl]
    have S1 := Lib.hid S1
    clear hnl hnl2
    go_wp2_with fail
    refine S1.out.mono ?_
    rintro e w' ⟨rfl, rfl⟩
    clear S1
    have hmm := @run_makeMap Try.prog
    go_upto_region 9 with (fail)
    obtain ⟨mb, hmb⟩ : ∃ mb, W1.heap.size = mb := ⟨_, rfl⟩
    obtain ⟨W2, hW2⟩ : ∃ W2, W1.alloc (.map #[] 0) = W2 := ⟨_, rfl⟩
    have ST0 := Lib.hid (show Ext (fun _ => False) W1 W2 ∧ MapAt W2 mb [] from by rw [← hW2, ← hmb]; exact ⟨(Ext.refl _ _).alloc _, MapAt.new W1⟩)
    have MB := Lib.hid hmb
    try rw [hW2]
    try rw [hmb]
    clear hW2 hmb hmm
    go_wp2_with fail
    go_loopw [14] (fun i wr => ∃ k : Nat, i = .int .i64 k ∧ k ≤ nl ∧ MapAt wr mb (entsO d n k) ∧ Ext (fun j => j = mb) W2 wr) (fun i _ => nl - (intOf i).toNat)
    case atStart => exact ⟨0, rfl, Nat.zero_le _, ST0.out.2, Ext.refl _ _⟩
    case round =>
      obtain ⟨j, rfl, hj, hmap, hx⟩ := hrel
      have MP := Lib.hid hmap
      have EX := Lib.hid hx
      have E1 := Lib.hid (show Ext (fun _ => False) W1 wr from ST0.out.1.trans hx (fun i hi e => by have := MB.out; omega))
      clear hmap hx
      by_cases hlt : j < nl
      · have i1 : (j : Int) < (nl : Int) := by omega
        have hget : (renGo d n (256 + d.ms.length)).1[j]? = some (nm d n (j : Int)) := by
          rw [ren_at d n _ _ (by have := NL.out; omega), nm_new (by have := NL.out; omega)]
        obtain ⟨b, o, hp, hb, cx⟩ := (I1.out.on E1.out).cellI hget
        injection hp with hp
        injection hp with hp1 hp2
        subst hp1 hp2
        have SUC := Lib.hid (entsO_succ (d := d) (n := n) j)
        rw [Nat.zero_add] at cx
        have jn : j < 256 + d.ms.length := by have := NL.out; omega
        by_cases h0 : 0 ≤ nm d n (j : Int)
        · obtain ⟨w2, hput, hm2, hx2⟩ := run_put (P := Try.prog) (w := wr) Try.underlying63 intFit MP.out (entsO_ok d n j D.out) (.int .i64 (nm d n (j : Int))) (.int .i64 (j : Int)) ⟨_, by have := renAt_bd d n (256 + d.ms.length) (j : Int); unfold inI nm; omega, rfl⟩ (entsO_ne D.out HNM.out jn h0)
          have T := Lib.hid (show MapAt w2 mb (entsO d n (j + 1)) from by rw [SUC.out, if_pos h0]; exact hm2)
          have X2 := Lib.hid (EX.out.trans hx2 (fun _ _ h => h))
          obtain ⟨z, hz⟩ : ∃ z, nm d n (j : Int) = z := ⟨_, rfl⟩
          rw [hz] at cx hput h0
          have d0 : decide (z ≥ 0) = true := decide_eq_true h0
          clear hm2 hx2 hget hz jn
          go_wp2_with fail
          go_roundw
          case rel => exact ⟨j + 1, by go_num, hlt, T.out, X2.out⟩
          case measure => simp [intOf]; omega
        · have T := Lib.hid (show MapAt wr mb (entsO d n (j + 1)) from by rw [SUC.out, if_neg h0, List.append_nil]; exact MP.out)
          obtain ⟨z, hz⟩ : ∃ z, nm d n (j : Int) = z := ⟨_, rfl⟩
          rw [hz] at cx h0
          have d0 : decide (z ≥ 0) = false := decide_eq_false h0
          clear hget hz jn
          go_wp2_with fail
          go_roundw
          case rel => exact ⟨j + 1, by go_num, hlt, T.out, EX.out⟩
          case measure => simp [intOf]; omega
      · obtain rfl : j = nl := by omega
        have MC := mergeB_ok (N1.out.on E1.out) (RightD.of_good GC.out) t (by omega)
        rw [J1.out] at MC
        have MC := Lib.hid MC
        clear hlt
        go_wp2_with fail
        refine MC.out.mono ?_
        rintro e W3 ⟨pa, ca, rfl, hAa, hxa, hfa⟩
        have E3 := Lib.hid (E1.out.trans hxa (fun _ _ h => h))
        have MP3 := Lib.hid (show MapAt W3 mb (entsO d n (256 + d.ms.length)) from by rw [NL.out]; exact MP.out.ext hxa (fun h => h))
        obtain ⟨sz, hsz⟩ : ∃ sz, 256 + n = sz := ⟨_, rfl⟩
        have hsz2 : (256 : Int) + (n : Int) = (sz : Int) := by omega
        have hlen : ∀ ty, (Builtin.len_ #[63] ty #[.map (some mb)]).run Try.prog W3 = .ok (.int .i64 (sz : Int)) W3 := fun ty => by
          rw [run_len_at (P := Try.prog) Try.underlying63 MP3.out ty, EL.out, hsz]
          rfl
        have S2 := SZ2.out W3 E3.out
        rw [hsz2] at S2
        have S2 := Lib.hid S2
        have q1 : ((sz : Int) != (sz : Int)) = false := by simp
        have B0 := Lib.hid (show BackSt W3 W3 d n l1 pa ca 0 from ⟨Nat.zero_le _, by rw [List.length_map] at hAa; exact hAa, Ext.refl _ _⟩)
        have FA := Lib.hid (show ∀ i, blkOf pa = some i → W1.heap.size ≤ i from fun i hi => by have := hfa i hi; have := E1.out.size; omega)
        have MA := Lib.hid (show ∀ i, blkOf pa = some i → mb ≠ i from fun i hi e => by have := hfa i hi; have := MP.out.lt; omega)
        rw [List.length_map]
        clear hAa hxa hfa MC hsz hsz2
        go_wp2_with fail
        refine S2.out.mono ?_
        rintro e w' ⟨rfl, rfl⟩
        clear S2 hlen
        go_wp2_with fail
        go_loopw [17] (fun i wr => ∃ k : Nat, i = .int .i64 k ∧ BackSt W3 wr d n l1 pa ca k) (fun i _ => l1.length - (intOf i).toNat)
        case atStart => exact ⟨0, rfl, B0.out⟩
        case round =>
          obtain ⟨i, rfl, hst⟩ := hrel
          have ST := Lib.hid hst
          have hi := hst.kl
          clear hst
          by_cases hlt : i < l1.length
          · have i1 : (i : Int) < (l1.length : Int) := by omega
            obtain ⟨x, hx⟩ : ∃ x, l1[i]? = some x := ⟨_, List.getElem?_eq_getElem hlt⟩
            obtain ⟨ab, rfl⟩ := arr_some ST.out.row (by omega)
            obtain ⟨c1, c2, c3⟩ := ST.out.cell hx
            have LX := LOW.out x (List.mem_of_getElem? hx)
            have MR := MP3.out.ext ST.out.ext (fun h => MA.out mb h rfl)
            have hl : (Instr.lookup 63 (.map (some mb)) (.int .i64 (nm d n x)) false).run Try.prog wr = .ok (.int .i64 x) wr := by
              rcases run_look1 (P := Try.prog) (w := wr) Try.underlying63 intFit MR (entsO_ok d n _ D.out) (.int .i64 (nm d n x)) (.int .i64 0) ⟨_, by have := renAt_bd d n (256 + d.ms.length) x; unfold inI nm; omega, rfl⟩ (by kernel_rfl) with ⟨v, hv, hrun⟩ | ⟨hno, _⟩
              · rw [entsO_at D.out HNM.out LX hv] at hrun
                exact hrun
              · obtain ⟨q, hq, hqe⟩ := entsO_has D.out HNM.out LX
                exact absurd hqe (hno q hq)
            have T := Lib.hid (ST.out.step hx)
            obtain ⟨z, hz⟩ : ∃ z, nm d n x = z := ⟨_, rfl⟩
            rw [hz] at c1 hl
            clear hx hz LX MR
            go_wp2_with fail
            go_roundw
            case rel => exact ⟨i + 1, by go_num, T.out⟩
            case measure => simp [intOf]; omega
          · obtain rfl : i = l1.length := by omega
            have E4 := Lib.hid (show Ext (fun _ => False) W1 wr from E3.out.trans ST.out.ext (fun i hi e => by have := FA.out i e; omega))
            have RW := Lib.hid (show Rd eI wr pa l1 from by
              have := ST.out.row
              rw [List.take_length, List.drop_length, List.map_nil, List.append_nil] at this
              exact ints_rd this)
            have JO := joined_any (M1.out.on E4.out) D.out RW.out (c := ca)
            have JO : Calls Try.prog 32 #[.pointer (some ⟨a, 0, none⟩), .slice pa l1.length ca] wr fun e w' => JoinedEnd wr (joinT d.ms (bytesL t)).1 0 e w' := by
              have e : joinedT d l1 = ((joinT d.ms (bytesL t)).1, 0) := by
                unfold joinedT
                rw [if_neg (by omega), if_pos (List.all_eq_true.2 (low_ok D.out LOW.out)), J2.out]
              rwa [e] at JO
            have JO := Lib.hid JO
            obtain ⟨lz, hlz⟩ : ∃ lz, (joinT d.ms (bytesL t)).1 = lz := ⟨_, rfl⟩
            rw [hlz] at JO LE0
            have HLZ := Lib.hid hlz
            clear hlt hlz
            go_wp2_with fail
            refine JO.out.mono ?_
            rintro e W5 ⟨p5, c5, rfl, hA5, hx5, _⟩
            have E5 := Lib.hid (E4.out.trans hx5 (fun _ _ h => h))
            have R5 := Lib.hid (ints_rd hA5)
            have MD := mergeB_ok (M1.out.on E5.out) D.out t (by omega)
            rw [HLZ.out] at MD
            have MD := Lib.hid MD
            clear hA5 hx5 JO
            go_wp2_with fail
            refine MD.out.mono ?_
            rintro e W6 ⟨p6, c6, rfl, hA6, hx6, _⟩
            have E6 := Lib.hid (E5.out.trans hx6 (fun _ _ h => h))
            have R6 := Lib.hid (ints_rd hA6)
            have R56 := Lib.hid (R5.out.on hx6)
            clear hA6 hx6 MD
            go_wp2_with fail
            refine (sameI_any W6 p5 p6 c5 c6 lz lz R56.out R6.out (by omega)).mono ?_
            rintro e W7 ⟨rfl, hx7⟩
            have X7 := Lib.hid (X1.out.trans (E6.out.trans hx7 (fun _ _ h => h)) (fun _ _ h => h))
            rw [decide_eq_true (rfl : lz = lz)]
            clear hx7
            go_wp2_with fail
            refine (known24_any W7).mono ?_
            rintro e W8 ⟨rfl, hx8⟩
            have X8 := Lib.hid (X7.out.trans hx8 (fun _ _ h => h))
            clear hx8
            go_wp2_with fail
            go_ret
            exact ⟨rfl, X8.out⟩
end Go.Proofs.Ytbepmbihonnkaaa.Bpe
