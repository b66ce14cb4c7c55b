/- Texts of the proof of TopFiner, part 15 of 17: WordI, HouseE, Places, Decode, Awake, TopFew, Within, Within1, PruneFst, CutTwice, MapKit2, TopFiner. -/
import Derived.Test.YtjffafcagklpiaaDoorZTopFiner1
import Derived.Test.YtjffafcagklpiaaDoorZTopFiner4
import Derived.Test.YtjffafcagklpiaaDoorZTopFiner12
import Derived.Test.YtjffafcagklpiaaDoorZTopFiner13
import Derived.Test.YtjffafcagklpiaaDoorZTopFiner14
/- (*model.Model).Word of a right model. -/
namespace Go.Proofs.YtjffafcagklpiaaDoor.Bpe
open Go.RowKit Go.Proofs.YtjffafcagklpiaaDoor.Lib Go.Proofs.YtjffafcagklpiaaDoor.Sl
set_option linter.unusedVariables false
set_option linter.unusedSimpArgs false

theorem wordI_any {w : World} {a : Nat} {d : Dat} (h : IsModel w a d) (hd : RightD d) (id : Int) :
    Calls Tryd.prog 19 #[.pointer (some ⟨a, 0, none⟩), .int .i64 id] w fun e w' => e = .returned (.tuple #[.string (wordOf d.ws id).1, .bool (okId d id)]) ∧ Ext (fun _ => False) w w' := by
  obtain ⟨L, tp, mp, q0, q1, q2, d0, d1, d2, hM⟩ := h
  have := word_any w a L.p0 L.c0 d.ws id hM.blk.c0 hM.rd.r0 (by have := hM.rd.b0; omega)
  rwa [word_ok hd] at this
end Go.Proofs.YtjffafcagklpiaaDoor.Bpe
/- What the small model makes of 'the ab'. -/
namespace Go.Proofs.YtjffafcagklpiaaDoor.Cut
open Go.Proofs.YtjffafcagklpiaaDoor.Lib Go.Proofs.YtjffafcagklpiaaDoor.Sl
theorem house_enc : encT houseDat 9 ⟨#[116, 104, 101, 32, 97, 98]⟩ = ([259, 32, 256], false) := by decide +kernel
end Go.Proofs.YtjffafcagklpiaaDoor.Cut
/- places.Of: where a text's tokens stand; here: how many there are, and where each ends. -/
namespace Go.Proofs.YtjffafcagklpiaaDoor.Cut
open Go.RowKit Go.Shelf Go.Proofs.YtjffafcagklpiaaDoor.Lib Go.Proofs.YtjffafcagklpiaaDoor.Sl Go.Proofs.YtjffafcagklpiaaDoorW.PrintLast
open Go.Proofs.YtjffafcagklpiaaDoor.Bpe
set_option linter.unusedVariables false
set_option linter.unusedSimpArgs false
attribute [local go_sem] Oper.semAt_some

structure Plc where
  id : Int
  from_ : Int
  tp : Int
  ia : Int
  ib : Int
def ePl : En Plc := ⟨5, fun x => [.int .i64 x.id, .int .i64 x.from_, .int .i64 x.tp, .int .i64 x.ia, .int .i64 x.ib], by decide, fun _ => rfl, by simp [Value.oneCell']⟩
theorem infoPl : (Tryd.prog.info? 45).map (fun i => (i.zero, i.size, i.bytes)) = some (some (.agg #[.int .i64 0, .int .i64 0, .int .i64 0, .int .i64 0, .int .i64 0]), 5, 40) := by kernel_rfl
/-- The places of the first k ids. -/
def Are (d : Dat) (ids : List Int) (k : Nat) (R : List Plc) : Prop := R.length = k ∧ ∀ j x, R[j]? = some x → x.tp = (toT d ids (j + 1) : Int)
theorem Are.put {d : Dat} {ids : List Int} {k : Nat} {R : List Plc} (h : Are d ids k R) (x : Plc) (hx : x.tp = (toT d ids (k + 1) : Int)) : Are d ids (k + 1) (R ++ [x]) := by
  refine ⟨by simp [h.1], fun j y hy => ?_⟩
  rcases Nat.lt_or_ge j R.length with hj | hj
  · rw [List.getElem?_append_left hj] at hy
    exact h.2 j y hy
  · rw [List.getElem?_append_right hj] at hy
    obtain ⟨e, rfl⟩ : j - R.length = 0 ∧ x = y := by
      rcases Nat.eq_zero_or_pos (j - R.length) with h0 | h0
      · rw [h0] at hy; exact ⟨h0, by simpa using hy⟩
      · rw [List.getElem?_eq_none (by simp; omega)] at hy; cases hy
    rw [hx, show j = k from by have := h.1; omega]
def PlEnd (w : World) (d : Dat) (ids : List Int) (st : Int) (e : Ending) (w' : World) : Prop :=
  ∃ p c R, Are d ids ids.length R ∧ e = .returned (.tuple #[.slice p ids.length c, .int .i64 st, .int .i64 0]) ∧ Arr w' 45 5 p ids.length c (flat ePl R) ∧ Ext (fun _ => False) w w' ∧ ∀ k, blkOf p = some k → w.heap.size ≤ k
/-- What the loop knows. -/
structure PlSt (d : Dat) (w wr : World) (ids : List Int) (k : Nat) (p : Option Addr) (c : Nat) : Prop where
  kl : k ≤ ids.length
  row : ∃ R, Are d ids k R ∧ Arr wr 45 5 p k c (flat ePl R)
  ext : Ext (fun _ => False) w wr
  fr : ∀ j, blkOf p = some j → w.heap.size ≤ j
set_option maxRecDepth 100000 in
set_option maxHeartbeats 4000000 in
theorem places_any {w : World} {m : Nat} {d : Dat} (hm : IsCut w m d) (hd : RightD d) (hT : Tabs w) (most : Int) (hm1 : 1 ≤ most) (hm2 : most ≤ 65536) (s : ByteArray) (hs : s.size ≤ 1048576) :
    Calls Tryd.prog 9 #[.pointer (some ⟨m, 0, none⟩), .int .i64 most, .string s] w fun e w' => PlEnd w d (encT d most s).1 (if (encT d most s).2 = true then 2 else 1) e w' := by
  have EA := Lib.hid (encode_any hm hd hT most hm1 hm2 s hs)
  have EC := Lib.hid (encT_cat hd most s)
  have EO := Lib.hid (encT_ok hd most s)
  obtain ⟨ids, hids⟩ : ∃ l, (encT d most s).1 = l := ⟨_, rfl⟩
  obtain ⟨st, hst⟩ : ∃ st : Int, (if (encT d most s).2 = true then 2 else 1) = st := ⟨_, rfl⟩
  rw [hids] at EC EO EA
  rw [hst] at EA
  rw [hids, hst]
  have IL : ids.length ≤ 1048576 := by have := cat_pos hd EO.out; have := EC.out; omega
  have HM := Lib.hid hm
  have HD := Lib.hid hd
  have HT := Lib.hid hT
  clear hids hst hm hd hT
  go_enter Tryd.func9, Tryd.ntmps9
  go_wp2_with fail
  refine EA.out.mono ?_
  rintro e w1 ⟨q, cq, rfl, hq1, hx1, _⟩
  have RI := Lib.hid (ints_rd hq1)
  have X1 := Lib.hid hx1
  clear hq1 hx1
  go_wp2_with fail
  refine (numbers_any w1 (HT.out.on X1.out) s hs).mono ?_
  rintro e w2 ⟨il, rfl, hA2, hx2⟩
  have IA := Lib.hid hA2
  have X2 := Lib.hid (X1.out.trans hx2 (fun _ _ h => h))
  have RI2 := Lib.hid (RI.out.on hx2)
  clear hA2 hx2
  obtain ⟨g, hg⟩ : ∃ g, w1.heap.size = g := ⟨_, rfl⟩
  rw [hg] at IA
  rw [hg]
  clear hg
  go_wp2_with fail
  go_loopw [13, 14, 36] (fun v t i wr => ∃ (k : Nat) (p : Option Addr) (c : Nat), i = .int .i64 k ∧ v = .slice p k c ∧ t = .int .i64 (toT d ids k) ∧ PlSt d w2 wr ids k p c) (fun _ _ i _ => ids.length - (intOf i).toNat)
  case atStart => exact ⟨0, none, 0, rfl, rfl, rfl, Nat.zero_le _, ⟨[], ⟨rfl, fun j x h => by simp at h⟩, arr_nil _ _ _⟩, Ext.refl _ _, (fun j hj => by cases hj)⟩
  case round =>
    obtain ⟨k, p, c, rfl, rfl, rfl, hst⟩ := hrel
    have ST := Lib.hid hst
    have hk := hst.kl
    clear hst
    by_cases hlt : k < ids.length
    · have i1 : (k : Int) < (ids.length : Int) := by omega
      obtain ⟨x, hx⟩ : ∃ x, ids[k]? = some x := ⟨_, List.getElem?_eq_getElem hlt⟩
      obtain ⟨b, o, hq, hb, cx⟩ := (RI2.out.on ST.out.ext).cellI hx
      have HX := Lib.hid hx
      have hok := EO.out x (List.mem_of_getElem? hx)
      have hto := toT_succ (d := d) hx
      have hwp := wb_pos HD.out hok
      have hle := toT_le d ids (k + 1)
      have hec := EC.out
      have WI := wordI_any (HM.out.model.on (X2.out.trans ST.out.ext (fun _ _ h => h))) HD.out x
      rw [hok] at WI
      have hws : ((wordOf d.ws x).1).size = (wb d x).length := (ba_size _).symm
      obtain ⟨wx, hwx⟩ : ∃ s, (wordOf d.ws x).1 = s := ⟨_, rfl⟩
      rw [hwx] at WI hws
      have WI := Lib.hid WI
      rw [hq]
      clear hx hok hwx
      obtain ⟨a0, ha0⟩ : ∃ a0, toT d ids k = a0 := ⟨_, rfl⟩
      obtain ⟨t0, ht0⟩ : ∃ t0, toT d ids (k + 1) = t0 := ⟨_, rfl⟩
      rw [ha0, ht0] at hto
      rw [ht0] at hle
      rw [ha0]
      have E1 : ((a0 : Int) + (wx.size : Int)) = (t0 : Int) := by omega
      have E2 : IntKind.i64.wrap ((a0 : Int) + (wx.size : Int)) = (t0 : Int) := by rw [E1]; exact IntWalk.i64_in _ (by omega)
      obtain ⟨u0, hu0⟩ : ∃ u0, t0 = u0 + 1 := ⟨t0 - 1, by omega⟩
      have e5 : (t0 : Int) - 1 = (u0 : Int) := by omega
      have e6 : (u0 : Int) < (s.size : Int) := by omega
      have e7 : u0 < s.size := by omega
      have e8 : a0 < s.size := by omega
      have e9 : (a0 : Int) < (s.size : Int) := by omega
      have TT := Lib.hid (And.intro hto (And.intro ha0 (And.intro ht0 hu0)))
      clear hto ha0 ht0 hu0 hws hwp hle
      go_wp2_with fail
      refine WI.out.mono ?_
      rintro e w3 ⟨rfl, hx3⟩
      have X3 := Lib.hid (ST.out.ext.trans hx3 (fun _ _ h => h))
      have Y3 := Lib.hid hx3
      clear hx3
      go_upto_region 12 with (fail)
      obtain ⟨va, hva⟩ : ∃ va, il[a0]? = some va := ⟨_, List.getElem?_eq_getElem (by have := arr_len IA.out; simp only [ints, List.length_map] at this; omega)⟩
      obtain ⟨vb, hvb⟩ : ∃ vb, il[u0]? = some vb := ⟨_, List.getElem?_eq_getElem (by have := arr_len IA.out; simp only [ints, List.length_map] at this; omega)⟩
      have CE := Lib.hid (show ∀ w', Ext (fun _ => False) w3 w' → (w'.cell? ⟨g, a0, none⟩ = some (.int .i64 va) ∧ w'.cell? ⟨g, u0, none⟩ = some (.int .i64 vb)) from fun w' hx => by
        have R := (ints_rd IA.out).on (X3.out.trans hx (fun _ _ h => h))
        obtain ⟨b1, o1, h1, _, c1⟩ := R.cellI hva
        obtain ⟨b2, o2, h2, _, c2⟩ := R.cellI hvb
        cases h1
        cases h2
        rw [Nat.zero_add] at c1 c2
        exact ⟨c1, c2⟩)
      clear hva hvb
      refine start_ (n := 20) (S := fun w' => w'.cell? ⟨g, a0, none⟩ = some (.int .i64 va) ∧ w'.cell? ⟨g, u0, none⟩ = some (.int .i64 vb)) (ds := [18]) (ls 20 0) (by kernel_rfl) rfl rfl (CE.out _ (Ext.refl _ _).drew) (fun hHeld => ?_)
      refine pure_ (i := 0) (N := some 50) (v := ?_) (a' := ?_) (ls 20 1) rfl rfl (by kernel_rfl) (fun _ _ _ h => h) (Or.inl ⟨by rfl, ?_⟩) ?_ ?_
      rotate_left
      · intro w'; go_simp; with_reducible rfl
      rotate_left
      · simp only [Act.put, List.setIfInBounds_toArray, List.set_cons_zero, List.set_cons_succ, i64_w, i32_w]; rfl
      refine pure_ (i := 1) (N := some 51) (v := ?_) (a' := ?_) (ls 20 3) rfl rfl (by kernel_rfl) (fun _ _ _ h => h) (Or.inl ⟨by rfl, ?_⟩) ?_ ?_
      rotate_left
      · intro w'; go_simp; with_reducible rfl
      rotate_left
      · simp only [Act.put, List.setIfInBounds_toArray, List.set_cons_zero, List.set_cons_succ, i64_w, i32_w]; rfl
      refine pure_ (i := 2) (N := some 52) (v := ?_) (a' := ?_) (ls 20 7) rfl rfl (by kernel_rfl) (fun _ _ _ h => h) (Or.inl ⟨by rfl, ?_⟩) ?_ ?_
      rotate_left
      · intro w'; go_simp; with_reducible rfl
      rotate_left
      · simp only [Act.put, List.setIfInBounds_toArray, List.set_cons_zero, List.set_cons_succ, i64_w, i32_w]; rfl
      refine pure_ (i := 3) (N := some 53) (v := ?_) (a' := ?_) (ls 20 15) rfl rfl (by kernel_rfl) (fun _ _ _ h => h) (Or.inl ⟨by rfl, ?_⟩) ?_ ?_
      rotate_left
      · intro w'; go_simp; with_reducible rfl
      rotate_left
      · simp only [Act.put, List.setIfInBounds_toArray, List.set_cons_zero, List.set_cons_succ, i64_w, i32_w]; rfl
      refine pure_ (i := 4) (N := some 54) (v := ?_) (a' := ?_) (ls 20 31) rfl rfl (by kernel_rfl) (fun _ _ _ h => h) (Or.inl ⟨by rfl, ?_⟩) ?_ ?_
      rotate_left
      · intro w'; go_simp; with_reducible rfl
      rotate_left
      · simp only [Act.put, List.setIfInBounds_toArray, List.set_cons_zero, List.set_cons_succ, i64_w, i32_w]; rfl
      refine pure_ (i := 5) (N := some 55) (v := ?_) (a' := ?_) (ls 20 63) rfl rfl (by kernel_rfl) (fun _ _ _ h => h) (Or.inl ⟨by rfl, ?_⟩) ?_ ?_
      rotate_left
      · intro w'; go_simp; with_reducible rfl
      rotate_left
      · simp only [Act.put, List.setIfInBounds_toArray, List.set_cons_zero, List.set_cons_succ, i64_w, i32_w]; rfl
      refine pure_ (i := 6) (N := some 56) (v := ?_) (a' := ?_) (ls 20 127) rfl rfl (by kernel_rfl) (fun _ _ _ h => h) (Or.inl ⟨by rfl, ?_⟩) ?_ ?_
      rotate_left
      · intro w'; go_simp; with_reducible rfl
      rotate_left
      · simp only [Act.put, List.setIfInBounds_toArray, List.set_cons_zero, List.set_cons_succ, i64_w, i32_w]; rfl
      refine pure_ (i := 7) (N := some 57) (v := ?_) (a' := ?_) (ls 20 255) rfl rfl (by kernel_rfl) (fun _ _ _ h => h) (Or.inl ⟨by rfl, ?_⟩) ?_ ?_
      rotate_left
      · intro w'; go_simp; with_reducible rfl
      rotate_left
      · simp only [Act.put, List.setIfInBounds_toArray, List.set_cons_zero, List.set_cons_succ, i64_w, i32_w]; rfl
      refine pure_ (i := 9) (N := some 59) (v := ?_) (a' := ?_) (ls 20 767) rfl rfl (by kernel_rfl) (fun _ _ _ h => h) (Or.inl ⟨by rfl, ?_⟩) ?_ ?_
      rotate_left
      · intro w'; go_simp; with_reducible rfl
      rotate_left
      · simp only [Act.put, List.setIfInBounds_toArray, List.set_cons_zero, List.set_cons_succ, i64_w, i32_w]; rfl
      refine pure_ (i := 10) (N := some 60) (v := ?_) (a' := ?_) (ls 20 1791) rfl rfl (by kernel_rfl) (fun _ _ _ h => h) (Or.inl ⟨by rfl, ?_⟩) ?_ ?_
      rotate_left
      · intro w'; go_simp; with_reducible rfl
      rotate_left
      · simp only [Act.put, List.setIfInBounds_toArray, List.set_cons_zero, List.set_cons_succ, i64_w, i32_w]; rfl
      refine pure_ (i := 11) (N := some 61) (v := ?_) (a' := ?_) (ls 20 3839) rfl rfl (by kernel_rfl) (fun _ _ _ h => h) (Or.inl ⟨by rfl, ?_⟩) ?_ ?_
      rotate_left
      · intro w'; go_simp; with_reducible rfl
      rotate_left
      · simp only [Act.put, List.setIfInBounds_toArray, List.set_cons_zero, List.set_cons_succ, i64_w, i32_w]; rfl
      refine pure_ (i := 12) (N := some 62) (v := ?_) (a' := ?_) (ls 20 7935) rfl rfl (by kernel_rfl) (fun _ _ _ h => h) (Or.inl ⟨by rfl, ?_⟩) ?_ ?_
      rotate_left
      · intro w'; have e10 : wrap64 (u0 : Int) = (u0 : Int) := IntWalk.wrap64_in _ (by omega); go_simp; with_reducible rfl
      rotate_left
      · simp only [Act.put, List.setIfInBounds_toArray, List.set_cons_zero, List.set_cons_succ, i64_w, i32_w]; rfl
      refine take_ (i := 8) (N := some 58) (v := ?_) (a' := ?_) (ls 20 8191) rfl rfl (by kernel_rfl) (fun _ _ _ h => h) (Or.inl ⟨by rfl, ?_⟩) hHeld ?_ ?_
      rotate_left
      · rintro w' ⟨s0, s1⟩; go_simp; with_reducible rfl
      rotate_left
      · simp only [Act.put, List.setIfInBounds_toArray, List.set_cons_zero, List.set_cons_succ, i64_w, i32_w]; rfl
      refine take_ (i := 13) (N := some 63) (v := ?_) (a' := ?_) (ls 20 16383) rfl rfl (by kernel_rfl) (fun _ _ _ h => h) (Or.inl ⟨by rfl, ?_⟩) hHeld ?_ ?_
      rotate_left
      · rintro w' ⟨s0, s1⟩; go_simp; with_reducible rfl
      rotate_left
      · simp only [Act.put, List.setIfInBounds_toArray, List.set_cons_zero, List.set_cons_succ, i64_w, i32_w]; rfl
      refine pure_ (i := 14) (N := some 64) (v := ?_) (a' := ?_) (ls 20 32767) rfl rfl (by kernel_rfl) (fun _ _ _ h => h) (Or.inl ⟨by rfl, ?_⟩) ?_ ?_
      rotate_left
      · intro w'; go_simp; with_reducible rfl
      rotate_left
      · simp only [Act.put, List.setIfInBounds_toArray, List.set_cons_zero, List.set_cons_succ, i64_w, i32_w]; rfl
      refine pure_ (i := 15) (N := some 65) (v := ?_) (a' := ?_) (ls 20 65535) rfl rfl (by kernel_rfl) (fun _ _ _ h => h) (Or.inl ⟨by rfl, ?_⟩) ?_ ?_
      rotate_left
      · intro w'; go_simp; with_reducible rfl
      rotate_left
      · simp only [Act.put, List.setIfInBounds_toArray, List.set_cons_zero, List.set_cons_succ, i64_w, i32_w]; rfl
      refine pure_ (i := 16) (N := some 66) (v := ?_) (a' := ?_) (ls 20 131071) rfl rfl (by kernel_rfl) (fun _ _ _ h => h) (Or.inl ⟨by rfl, ?_⟩) ?_ ?_
      rotate_left
      · intro w'; go_simp; with_reducible rfl
      rotate_left
      · simp only [Act.put, List.setIfInBounds_toArray, List.set_cons_zero, List.set_cons_succ, i64_w, i32_w]; rfl
      refine one_ (i := 17) (N := some 67) (ls 20 262143) rfl rfl (by kernel_rfl) (by decide) (fun K hK => ?_)
      refine value_ (w1 := ?_) (v := ?_) (by rfl) rfl ?_ ?_
      rotate_left 2
      · go_simp
        constructor
        · rfl
        · rfl
      refine hK.out _ _ (CE.out _ ((Ext.refl _ _).drew.alloc _)) (fun hHeld => ?_)
      clear hK K
      refine norm_ (a' := ?_) ?_ ?_
      rotate_left
      · simp only [Act.put, List.setIfInBounds_toArray, List.set_cons_zero, List.set_cons_succ, i64_w, i32_w]; rfl
      refine last_ (i := 18) (N := some 68) (ls 20 524287) rfl rfl (by kernel_rfl) (by decide) (fun K hK => ?_)
      obtain ⟨R, hAre, hRow⟩ := ST.out.row
      obtain ⟨ib, hib⟩ : ∃ z, wrap64 (vb + 1) = z := ⟨_, rfl⟩
      have AR := Lib.hid hAre
      have X4 := Lib.hid (Y3.out.trans (((Ext.refl (fun _ => False) w3).alloc (.cells #[.int .i64 x, .int .i64 a0, .int .i64 t0, .int .i64 va, .int .i64 ib] 45)).drew) (fun _ _ h => h))
      have RW := Lib.hid (arr_ext hRow X4.out (fun _ _ h => h))
      clear hAre hRow
      refine arr_append_step (by rfl) (.tmp 50) (.tmp 67) 37 45 5 40 (.agg #[.int .i64 0, .int .i64 0, .int .i64 0, .int .i64 0, .int .i64 0]) rfl Tryd.underlying37 infoPl rfl (by decide) (by decide) p k c (flat ePl R) rfl (some ⟨w3.heap.size, 0, none⟩) 1 1 rfl [.int .i64 x, .int .i64 a0, .int .i64 t0, .int .i64 va, .int .i64 ib] rfl (fun ad h => by injection h with h; subst h; rw [← hib]; exact World.news_of_block (heap_alloc_new _ _)) (fun h => by cases h) (by simp [Value.oneCell']) (by rw [← hib] at RW; exact RW.out) (by omega) ?_
      intro p1 c1 w7 hA1 hx1 hm1
      rw [hib] at hx1
      have NS := Lib.hid (show PlSt d w2 w7 ids (k + 1) p1 c1 from ⟨hlt, ⟨R ++ [⟨x, a0, t0, va, ib⟩], AR.out.put _ (by rw [TT.out.2.2.1]), by rw [flat_append]; exact hA1⟩, (ST.out.ext.trans X4.out (fun _ _ h => h)).trans hx1 (fun j hj h => by have := ST.out.fr j h; omega), fun j hj => by
        rcases hm1 j hj with h | h
        · exact ST.out.fr j h
        · rw [hib] at h; have := ST.out.ext.size; have := X4.out.size; omega⟩)
      clear hA1 hx1 hm1 hib
      refine hK.out _ _ ?_
      clear hK K
      refine norm_ (a' := ?_) ?_ ?_
      rotate_left
      · simp only [Act.put, List.setIfInBounds_toArray, List.set_cons_zero, List.set_cons_succ, i64_w, i32_w]; rfl
      refine pure_ (i := 19) (N := some 13) (v := ?_) (a' := ?_) (ls 20 1048575) rfl rfl (by kernel_rfl) (fun _ _ _ h => h) (Or.inl ⟨by rfl, ?_⟩) ?_ ?_
      rotate_left
      · intro w'; go_simp; with_reducible rfl
      rotate_left
      · simp only [Act.put, List.setIfInBounds_toArray, List.set_cons_zero, List.set_cons_succ, i64_w, i32_w]; rfl
      refine done_ (by kernel_rfl) ?_
      go_wp2_with fail
      go_roundw
      case rel => exact ⟨k + 1, p1, c1, by go_num, rfl, by rw [TT.out.2.2.1], NS.out⟩
      case measure => simp [intOf]; omega
    · have i1 : ¬ (k : Int) < (ids.length : Int) := by omega
      obtain rfl : k = ids.length := by omega
      go_wp2_with fail
      obtain ⟨R, h1, h2⟩ := ST.out.row
      refine bodyPost_ret (v := .tuple #[.slice p ids.length c, .int .i64 st, .int .i64 0]) (by simp [results, Tryd.f9, go_sem]) rfl ?_
      exact ⟨p, c, R, h1, rfl, h2, X2.out.trans ST.out.ext (fun _ _ h => h), fun k hk => Nat.le_trans X2.out.size (ST.out.fr k hk)⟩
end Go.Proofs.YtjffafcagklpiaaDoor.Cut
/- decode.Words, decode.Bytes. -/
namespace Go.Proofs.YtjffafcagklpiaaDoor.Cut
open Go.RowKit Go.Proofs.YtjffafcagklpiaaDoor.Lib Go.Proofs.YtjffafcagklpiaaDoor.Sl Go.Proofs.YtjffafcagklpiaaDoor.Bpe
set_option linter.unusedVariables false
set_option linter.unusedSimpArgs false

/-- The ids up to the first that is none. -/
def okL (d : Dat) (ids : List Int) : List Int := ids.takeWhile (okId d)
def wordL (d : Dat) (l : List Int) : List ByteArray := l.map fun i => (wordOf d.ws i).1
theorem wordL_len (d : Dat) (l : List Int) : (wordL d l).length = l.length := by simp [wordL]
theorem okL_all {d : Dat} {ids : List Int} (h : ∀ x ∈ ids, okId d x = true) : okL d ids = ids := by
  induction ids with
  | nil => rfl
  | cons x t ih => unfold okL; rw [List.takeWhile_cons, if_pos (h x (.head _))]; congr 1; exact ih (fun y hy => h y (.tail _ hy))
theorem okL_stop {d : Dat} {ids : List Int} {k : Nat} {x : Int} (h : ∀ y ∈ ids.take k, okId d y = true) (hx : ids[k]? = some x) (hb : okId d x = false) : okL d ids = ids.take k := by
  obtain ⟨hk, hxe⟩ := List.getElem?_eq_some_iff.1 hx
  have e : ids = ids.take k ++ x :: ids.drop (k + 1) := by
    rw [← hxe, List.getElem_cons_drop, List.take_append_drop]
  have go : ∀ l : List Int, (∀ y ∈ l, okId d y = true) → (l ++ x :: ids.drop (k + 1)).takeWhile (okId d) = l := by
    intro l
    induction l with
    | nil => intro _; simp [List.takeWhile_cons, hb]
    | cons y t ih => intro h; rw [List.cons_append, List.takeWhile_cons, if_pos (h y (.head _)), ih (fun z hz => h z (.tail _ hz))]
  unfold okL
  conv => lhs; rw [e]
  exact go _ h
theorem cat_wordL (d : Dat) (l : List Int) : ((wordL d l).map (·.data.toList)).flatten = cat d l := by
  induction l with
  | nil => rfl
  | cons x t ih => simp only [wordL, List.map_cons, List.flatten_cons, cat_cons] at ih ⊢; rw [ih]; rfl
theorem join_empty (xs : List (List UInt8)) : Go.Lib.join xs [] = xs.flatten := by
  unfold Go.Lib.join List.intercalate
  induction xs with
  | nil => rfl
  | cons x t ih =>
    cases t with
    | nil => simp [List.intersperse]
    | cons y t => rw [List.intersperse_cons_cons, List.flatten_cons, List.flatten_cons, ih]; simp
theorem cat_le {d : Dat} (hd : RightD d) (l : List Int) (h : ∀ x ∈ l, okId d x = true) : (cat d l).length ≤ 256 * l.length := by
  induction l with
  | nil => exact Nat.zero_le _
  | cons x t ih =>
    have h1 := ih (fun y hy => h y (.tail _ hy))
    have h2 := wb_le hd x
    rw [cat_cons, List.length_append, List.length_cons]
    omega
def WordsEnd (w : World) (l : List ByteArray) (e : Ending) (w' : World) : Prop :=
  ∃ p c, e = .returned (.slice p l.length c) ∧ Arr w' 9 1 p l.length c (flat eS l) ∧ Ext (fun _ => False) w w' ∧ ∀ k, blkOf p = some k → w.heap.size ≤ k
structure WdSt (d : Dat) (w wr : World) (ids : List Int) (k : Nat) (p : Option Addr) (c : Nat) : Prop where
  kl : k ≤ ids.length
  ok : ∀ y ∈ ids.take k, okId d y = true
  arr : Arr wr 9 1 p k c (flat eS (wordL d (ids.take k)))
  ext : Ext (fun _ => False) w wr
  fr : ∀ j, blkOf p = some j → w.heap.size ≤ j
set_option maxRecDepth 100000 in
set_option maxHeartbeats 4000000 in
theorem words_any {w : World} {m : Nat} {d : Dat} (hm : IsModel w m d) (hd : RightD d) {q : Option Addr} {cq : Nat} {ids : List Int} (hr : Rd eI w q ids) (hl : ids.length ≤ 1099511627776) :
    Calls Tryd.prog 30 #[.pointer (some ⟨m, 0, none⟩), .slice q ids.length cq] w fun e w' => WordsEnd w (wordL d (okL d ids)) e w' := by
  have HM := Lib.hid hm
  have HD := Lib.hid hd
  have HR := Lib.hid hr
  clear hm hd hr
  go_enter Tryd.func30, Tryd.ntmps30
  go_wp2_with fail
  go_loopw [5, 14] (fun v i wr => ∃ (k : Nat) (p : Option Addr) (c : Nat), i = .int .i64 k ∧ v = .slice p k c ∧ WdSt d w wr ids k p c) (fun _ i _ => ids.length - (intOf i).toNat)
  case atStart => exact ⟨0, none, 0, rfl, rfl, Nat.zero_le _, (fun y hy => by cases hy), arr_nil _ _ _, Ext.refl _ _, (fun j hj => by cases hj)⟩
  case round =>
    obtain ⟨k, p, c, rfl, rfl, hst⟩ := hrel
    have ST := Lib.hid hst
    have hk := hst.kl
    clear hst
    by_cases hlt : k < ids.length
    · have i1 : (k : Int) < (ids.length : Int) := by omega
      obtain ⟨x, hx⟩ : ∃ x, ids[k]? = some x := ⟨_, List.getElem?_eq_getElem hlt⟩
      obtain ⟨b, o, hq, hb, cx⟩ := (HR.out.on ST.out.ext).cellI hx
      have HX := Lib.hid hx
      rw [hq]
      clear hx
      obtain ⟨okx, hok⟩ : ∃ b, okId d x = b := ⟨_, rfl⟩
      obtain ⟨wx, hwx⟩ : ∃ s, (wordOf d.ws x).1 = s := ⟨_, rfl⟩
      have WI := wordI_any (HM.out.on ST.out.ext) HD.out x
      rw [hok, hwx] at WI
      have WI := Lib.hid WI
      have HOK := Lib.hid hok
      have HWX := Lib.hid hwx
      clear hok hwx
      cases okx with
      | true =>
        go_wp2_with fail
        refine WI.out.mono ?_
        rintro e w1 ⟨rfl, hx1⟩
        have A1 := Lib.hid (arr_ext ST.out.arr hx1 (fun _ _ h => h))
        have X1 := Lib.hid (ST.out.ext.trans hx1 (fun _ _ h => h))
        clear hx1
        go_wp2_with (at_builtin; refine arr_append1 rfl (.tmp 26) (.tmp 28) 22 9 1 16 (.string ⟨#[]⟩) rfl Tryd.underlying22 infoS rfl (by decide) (by decide) p k c (flat eS (wordL d (ids.take k))) [.string wx] rfl _ rfl (by simp) rfl (by simp [Value.oneCell']) A1.out (by omega) ?_; intro p3 c3 w3 hA3 hx3 hm3)
        have NX := Lib.hid (show WdSt d w w3 ids (k + 1) p3 c3 from by
          have et : ids.take (k + 1) = ids.take k ++ [x] := by rw [List.take_add_one, HX.out]; rfl
          refine ⟨by omega, fun y hy => ?_, ?_, X1.out.trans hx3 (fun i hi e => by have := ST.out.fr i e; omega), fun j hj => ?_⟩
          · rw [et] at hy
            rcases List.mem_append.1 hy with hy | hy
            · exact ST.out.ok y hy
            · obtain rfl : y = x := by simpa using hy
              exact HOK.out
          · rw [et]
            have e2 : flat eS (wordL d (ids.take k ++ [x])) = flat eS (wordL d (ids.take k)) ++ [.string wx] := by
              rw [show wordL d (ids.take k ++ [x]) = wordL d (ids.take k) ++ [wx] from by simp [wordL, HWX.out], flat_append]
              rfl
            rw [e2]
            exact hA3
          · rcases hm3 j hj with h | h
            · exact ST.out.fr j h
            · have := X1.out.size; omega)
        clear hA3 hx3 hm3
        go_wp2_with fail
        go_roundw
        case rel => exact ⟨k + 1, p3, c3, by go_num, rfl, NX.out⟩
        case measure => simp [intOf]; omega
      | false =>
        have EN := Lib.hid (okL_stop ST.out.ok HX.out HOK.out)
        go_wp2_with fail
        refine WI.out.mono ?_
        rintro e w1 ⟨rfl, hx1⟩
        have A1 := Lib.hid (arr_ext ST.out.arr hx1 (fun _ _ h => h))
        have X1 := Lib.hid (ST.out.ext.trans hx1 (fun _ _ h => h))
        clear hx1
        go_wp2_with fail
        go_ret
        have e1 : (wordL d (ids.take k)).length = k := by rw [wordL_len, List.length_take]; omega
        rw [EN.out]
        exact ⟨p, c, by rw [e1]; rfl, by rw [e1]; exact A1.out, X1.out, ST.out.fr⟩
    · have i1 : ¬ (k : Int) < (ids.length : Int) := by omega
      obtain rfl : k = ids.length := by omega
      have EN := Lib.hid (show okL d ids = ids from okL_all (fun y hy => ST.out.ok y (by rw [List.take_length]; exact hy)))
      go_wp2_with fail
      go_ret
      rw [EN.out]
      have := ST.out.arr
      rw [List.take_length] at this
      exact ⟨p, c, by rw [wordL_len]; rfl, by rw [wordL_len]; exact this, ST.out.ext, ST.out.fr⟩
/-- The bytes of the ids up to the first that is none. -/
def bytesT (d : Dat) (ids : List Int) : ByteArray := ⟨(cat d (okL d ids)).toArray⟩
theorem okL_ok (d : Dat) (ids : List Int) : ∀ x ∈ okL d ids, okId d x = true := by
  induction ids with
  | nil => intro x hx; cases hx
  | cons y t ih =>
    intro x hx
    unfold okL at hx
    rw [List.takeWhile_cons] at hx
    split at hx
    · rename_i h
      rcases List.mem_cons.1 hx with rfl | hx
      · exact h
      · exact ih x hx
    · cases hx
theorem okL_le (d : Dat) (ids : List Int) : (okL d ids).length ≤ ids.length := (List.takeWhile_sublist _).length_le
set_option maxRecDepth 100000 in
set_option maxHeartbeats 4000000 in
theorem bytesD_any {w : World} {m : Nat} {d : Dat} (hm : IsModel w m d) (hd : RightD d) {q : Option Addr} {cq : Nat} {ids : List Int} (hr : Rd eI w q ids) (hl : ids.length ≤ 268435456) :
    Calls Tryd.prog 15 #[.pointer (some ⟨m, 0, none⟩), .slice q ids.length cq] w fun e w' => e = .returned (.tuple #[.string (bytesT d ids), .int .i64 (okL d ids).length]) ∧ Ext (fun _ => False) w w' := by
  have W0 := Lib.hid (words_any (cq := cq) hm hd hr (by omega))
  have LC := cat_le hd (okL d ids) (okL_ok d ids)
  have LL := okL_le d ids
  have CW := Lib.hid (cat_wordL d (okL d ids))
  have WL := Lib.hid (wordL_len d (okL d ids))
  obtain ⟨L, hL⟩ : ∃ L, wordL d (okL d ids) = L := ⟨_, rfl⟩
  have BT := Lib.hid (show bytesT d ids = ⟨(cat d (okL d ids)).toArray⟩ from rfl)
  obtain ⟨bt, hbt⟩ : ∃ b, bytesT d ids = b := ⟨_, rfl⟩
  rw [hL] at W0 CW WL
  rw [hbt] at BT ⊢
  rw [← WL.out] at LL LC ⊢
  clear hL hbt hm hd hr
  go_enter Tryd.func15, Tryd.ntmps15
  go_wp2_with fail
  refine W0.out.mono ?_
  rintro e w1 ⟨p, c, rfl, hA, hx1, hf⟩
  have X1 := Lib.hid hx1
  have A1 := Lib.hid hA
  clear hx1 hA hf
  have JN : Calls Tryd.prog 31 #[.slice p L.length c, .string ⟨#[]⟩] w1 fun e w' => e = .returned (.string bt) ∧ Ext (fun _ => False) w1 w' := by
    rcases arr_cases A1.out with ⟨rfl, h0, hc, hcs⟩ | ⟨a, rfl⟩
    · have hb : bt = ⟨#[]⟩ := by
        rw [BT.out, ← CW.out]
        have : L = [] := List.eq_nil_of_length_eq_zero h0
        rw [this]
        rfl
      rw [h0, hc, hb]
      exact (Tryd.strings_Join_none none 0 ⟨#[]⟩ w1).mono fun e w' ⟨h1, h2⟩ => ⟨h1, h2 ▸ Ext.refl _ _⟩
    · have hcap := (arr_cap A1.out).1
      have RD := Rd.of_arr (E := eS) A1.out
      have J := Tryd.strings_Join a 0 c L ⟨#[]⟩ w1 (fun j x hj => by
        obtain ⟨b, o, hp, hb, hc⟩ := RD.cellS hj
        have h1 := Option.some.inj hp
        injection h1 with h2 h3
        subst h2 h3
        exact hc) (arr_lt A1.out rfl) (by omega) hcap (by
        rw [show (⟨#[]⟩ : ByteArray).data.toList = [] from rfl, join_empty, CW.out]
        omega)
      refine J.mono fun e w' ⟨h1, h2⟩ => ⟨?_, Ext.of_below h2⟩
      rw [h1, show (⟨#[]⟩ : ByteArray).data.toList = [] from rfl, join_empty, CW.out, BT.out]
  have JN := Lib.hid JN
  go_wp2_with fail
  refine JN.out.mono ?_
  rintro e w2 ⟨rfl, hx2⟩
  have X2 := Lib.hid (X1.out.trans hx2 (fun _ _ h => h))
  clear hx2
  go_wp2_with fail
  go_ret2
  exact ⟨rfl, X2.out⟩
end Go.Proofs.YtjffafcagklpiaaDoor.Cut
/- tesseratop.awake. -/
namespace Go.Proofs.YtjffafcagklpiaaDoor.Cut
open Go.RowKit Go.Proofs.YtjffafcagklpiaaDoor.Lib Go.Proofs.YtjffafcagklpiaaDoor.Sl Go.Proofs.YtjffafcagklpiaaDoor.Bpe
set_option linter.unusedVariables false
set_option linter.unusedSimpArgs false

theorem IsCut.of_good {w : World} {a : Nat} {d : Dat} (hm : IsModel w a d) (hg : good d = true) : IsCut w a d := by
  have h5 : (check5 d).1 = 0 := by
    unfold good at hg
    simp only [Bool.and_eq_true, decide_eq_true_eq] at hg
    exact hg.2
  have h4 : (check4 d.ls d.ns d.ss).1 = 0 := by
    unfold check5 at h5
    by_cases c1 : 4096 < d.ms.length
    · rw [if_pos c1] at h5; cases h5
    rw [if_neg c1] at h5
    by_cases c2 : d.ws.length ≠ d.ms.length
    · rw [if_pos c2] at h5; cases h5
    rw [if_neg c2] at h5
    by_cases c3 : (check4 d.ls d.ns d.ss).1 ≠ 0
    · rw [if_pos c3] at h5; exact absurd h5 c3
    · exact Classical.not_not.1 c3
  unfold check4 at h4
  by_cases c1 : 512 < d.ls.length
  · rw [if_pos c1] at h4; cases h4
  rw [if_neg c1] at h4
  by_cases c2 : 512 < d.ns.length
  · rw [if_pos c2] at h4; cases h4
  rw [if_neg c2] at h4
  by_cases c3 : 512 < d.ss.length
  · rw [if_pos c3] at h4; cases h4
  rw [if_neg c3] at h4
  by_cases c4 : (right d.ls).2 ≠ 0
  · rw [if_pos c4] at h4; exact absurd h4 c4
  rw [if_neg c4] at h4
  by_cases c5 : (right d.ns).2 ≠ 0
  · rw [if_pos c5] at h4; exact absurd h4 c5
  rw [if_neg c5] at h4
  by_cases c6 : (right d.ss).2 ≠ 0
  · rw [if_pos c6] at h4; exact absurd h4 c6
  exact ⟨hm, right_ok (Classical.not_not.1 c4), right_ok (Classical.not_not.1 c5), right_ok (Classical.not_not.1 c6)⟩
theorem house_ids : okL houseDat [259, 32, 256] = [259, 32, 256] := by decide +kernel
theorem house_bytes : bytesT houseDat [259, 32, 256] = ⟨#[116, 104, 101, 32, 97, 98]⟩ := by
  apply ba_ext
  decide +kernel
set_option maxRecDepth 100000 in
set_option maxHeartbeats 4000000 in
theorem awake_any (w : World) (hT : Tabs w) : Calls Tryd.prog 5 #[] w fun e w' => e = .returned (.bool true) ∧ Ext (fun _ => False) w w' := by
  have HT := Lib.hid hT
  clear hT
  go_enter Tryd.func5, Tryd.ntmps5
  go_wp2_with fail
  refine (house_any w).mono ?_
  rintro e W ⟨L, rfl, hR, hx⟩
  have C := Lib.hid (of5_any _ L houseDat hR)
  have X := Lib.hid hx
  clear hR hx
  go_wp2_with fail
  refine C.out.mono ?_
  rintro e W1 ⟨hx, h⟩
  have X1 := Lib.hid (X.out.trans hx (fun _ _ h => h))
  clear hx C
  rcases h with ⟨hg, rfl⟩ | ⟨hg, a, rfl, hm, hwa⟩
  · exact absurd hg (by rw [house_good]; decide)
  · have D := Lib.hid (RightD.of_good hg)
    have M := Lib.hid (IsCut.of_good hm hg)
    have EN := encode_any M.out D.out (HT.out.on X1.out) 9 (by omega) (by omega) ⟨#[116, 104, 101, 32, 97, 98]⟩ (by decide)
    rw [house_enc] at EN
    have EN := Lib.hid EN
    clear hg hm
    go_wp2_with fail
    refine EN.out.mono ?_
    rintro e W2 ⟨p, c, rfl, hA, hx2, _⟩
    have X2 := Lib.hid (X1.out.trans hx2 (fun _ _ h => h))
    have BY := bytesD_any (cq := c) (M.out.on hx2).model D.out (ints_rd hA) (by decide)
    rw [house_ids, house_bytes] at BY
    have BY := Lib.hid BY
    clear hA hx2 EN
    go_wp2_with fail
    refine BY.out.mono ?_
    rintro e W3 ⟨rfl, hx3⟩
    have X3 := Lib.hid (X2.out.trans hx3 (fun _ _ h => h))
    clear hx3
    go_wp2_with fail
    go_ret
    exact ⟨rfl, X3.out⟩
end Go.Proofs.YtjffafcagklpiaaDoor.Cut
/- tesseratop.few. -/
namespace Go.Proofs.YtjffafcagklpiaaDoor.Cut
open Go.RowKit Go.Proofs.YtjffafcagklpiaaDoor.Lib Go.Proofs.YtjffafcagklpiaaDoor.Sl
set_option linter.unusedVariables false
set_option linter.unusedSimpArgs false

def fewB (s : ByteArray) (n : Nat) : ByteArray := if n < s.size then s.extract 0 n else s
theorem fewB_size (s : ByteArray) (n : Nat) : (fewB s n).size ≤ n := by
  unfold fewB
  split
  · rw [ByteArray.size_extract]; omega
  · omega
set_option maxRecDepth 100000 in
set_option maxHeartbeats 1000000 in
theorem fewTop_any (w : World) (s : ByteArray) (n : Nat) (hn : n ≤ 1048576) :
    Calls Tryd.prog 6 #[.string s, .int .i64 n] w fun e w' => e = .returned (.string (fewB s n)) ∧ w = w' := by
  by_cases h : n < s.size
  · have E := Lib.hid (show fewB s n = s.extract 0 n from if_pos h)
    have i1 : (n : Int) < (s.size : Int) := by omega
    have d1 : decide ((s.size : Int) > (n : Int)) = true := decide_eq_true (by omega)
    have i0 : (0 : Int) ≤ (n : Int) := by omega
    have i2 : (n : Int) ≤ (s.size : Int) := by omega
    go_enter Tryd.func6, Tryd.ntmps6
    go_wp2_with fail
    go_ret
    exact ⟨by rw [E.out]; simp, rfl⟩
  · have E := Lib.hid (show fewB s n = s from if_neg h)
    have d1 : decide ((s.size : Int) > (n : Int)) = false := decide_eq_false (by omega)
    go_enter Tryd.func6, Tryd.ntmps6
    go_wp2_with fail
    go_ret
    exact ⟨by rw [E.out]; rfl, rfl⟩
end Go.Proofs.YtjffafcagklpiaaDoor.Cut
/- tesserabook.Within of 0 and up. -/
namespace Go.Proofs.YtjffafcagklpiaaDoor.Wi
open Go.Proofs.YtjffafcagklpiaaDoor.Lib Go.Proofs.YtjffafcagklpiaaDoor.Sl
open Go.RowKit
set_option linter.unusedVariables false
set_option linter.unusedSimpArgs false

theorem inI_wf {n : Int} (h : (Lit.int .i64 n).wf = true) : inI n := by
  unfold inI
  simp [Lit.wf, IntKind.min, IntKind.max, IntKind.signed, IntKind.bits] at h
  omega
def WithinEnd (w : World) (n : Int) (e : Ending) (w' : World) : Prop := ∃ r : Int, e = .returned (.int .i64 r) ∧ 0 ≤ r ∧ r ≤ n ∧ w = w'
theorem within0_any (w : World) (k : Int) (n : Int) (hk : inI k) (h0 : 0 ≤ n) (hn : n ≤ 1000000) :
    Calls Tryd.prog 7 #[.int .i64 k, .int .i64 0, .int .i64 n] w fun e w' => WithinEnd w n e w' := by
  obtain ⟨k0, k1⟩ := hk
  by_cases h : 0 ≤ k
  · have h1 := Int.emod_nonneg k (show n + 1 ≠ 0 by omega)
    have h2 := Int.emod_lt_of_pos k (show (0 : Int) < n + 1 by omega)
    go_enter Tryd.func7, Tryd.ntmps7
    go_wp2_with fail
    go_ret
    exact ⟨k % (n + 1), ret_int (by omega), h1, by omega, rfl⟩
  · have h1 := Int.tmod_lt_of_pos k (show (0 : Int) < n + 1 by omega)
    have h2 := Int.lt_tmod_of_pos k (show (0 : Int) < n + 1 by omega)
    obtain ⟨r, hr⟩ : ∃ r, k.tmod (n + 1) = r := ⟨_, rfl⟩
    rw [hr] at h1 h2
    by_cases hz : r < 0
    · go_enter Tryd.func7, Tryd.ntmps7
      go_wp2_with fail
      go_ret
      exact ⟨r + n + 1, ret_int (by omega), by omega, by omega, rfl⟩
    · go_enter Tryd.func7, Tryd.ntmps7
      go_wp2_with fail
      go_ret
      exact ⟨r, ret_int (by omega), by omega, by omega, rfl⟩

end Go.Proofs.YtjffafcagklpiaaDoor.Wi
/- tesserabook.Within of any bounds. -/
namespace Go.Proofs.YtjffafcagklpiaaDoor.Wi
open Go.Proofs.YtjffafcagklpiaaDoor.Lib Go.Proofs.YtjffafcagklpiaaDoor.Sl
open Go.RowKit
set_option linter.unusedVariables false
set_option linter.unusedSimpArgs false

def WithinEndL (w : World) (l n : Int) (e : Ending) (w' : World) : Prop := ∃ r : Int, e = .returned (.int .i64 r) ∧ l ≤ r ∧ r ≤ n ∧ w = w'
theorem within_any (w : World) (k l n : Int) (hk : inI k) (h0 : 0 ≤ l) (hl : l ≤ n) (hn : n ≤ 1000000) :
    Calls Tryd.prog 7 #[.int .i64 k, .int .i64 l, .int .i64 n] w fun e w' => WithinEndL w l n e w' := by
  obtain ⟨k0, k1⟩ := hk
  by_cases h : 0 ≤ k
  · have h1 := Int.emod_nonneg k (show n - l + 1 ≠ 0 by omega)
    have h2 := Int.emod_lt_of_pos k (show (0 : Int) < n - l + 1 by omega)
    obtain ⟨r, hr⟩ : ∃ r, k % (n - l + 1) = r := ⟨_, rfl⟩
    rw [hr] at h1 h2
    go_enter Tryd.func7, Tryd.ntmps7
    go_wp2_with fail
    go_ret
    exact ⟨l + r, ret_int (by omega), by omega, by omega, rfl⟩
  · have h1 := Int.tmod_lt_of_pos k (show (0 : Int) < n - l + 1 by omega)
    have h2 := Int.lt_tmod_of_pos k (show (0 : Int) < n - l + 1 by omega)
    obtain ⟨r, hr⟩ : ∃ r, k.tmod (n - l + 1) = r := ⟨_, rfl⟩
    rw [hr] at h1 h2
    by_cases hz : r < 0
    · go_enter Tryd.func7, Tryd.ntmps7
      go_wp2_with fail
      go_ret
      exact ⟨l + (r + n - l + 1), ret_int (by omega), by omega, by omega, rfl⟩
    · go_enter Tryd.func7, Tryd.ntmps7
      go_wp2_with fail
      go_ret
      exact ⟨l + r, ret_int (by omega), by omega, by omega, rfl⟩
end Go.Proofs.YtjffafcagklpiaaDoor.Wi
/- prune.First. -/
namespace Go.Proofs.YtjffafcagklpiaaDoor.Sl
open Go.Proofs.YtjffafcagklpiaaDoor.Lib
open Go.RowKit Go.Proofs.YtjffafcagklpiaaDoorW.PrintLast
set_option linter.unusedVariables false
set_option linter.unusedSimpArgs false

/-- Merges are put out one by one: the state of prune.First's loop. -/
structure FpSt (w wr : World) (L : Pl) (d : Dat) (I : List Int) (Wd : List ByteArray) (M : List Mrg) (N ib ob : Nat) (pw : Option Addr) (cw : Nat) (pm : Option Addr) (cm : Nat) : Prop where
  ids : Arr wr 3 1 (some ⟨ib, 0, none⟩) N N (ints I)
  wds : Arr wr 9 1 pw Wd.length cw (flat eS Wd)
  mgs : Arr wr 66 3 pm M.length cm (flat eM M)
  ext : Ext (fun _ => False) w wr
  obj : wr.heap[ob]? = some (.cells #[.slice pw Wd.length cw, .slice pm M.length cm, .slice L.p2 d.ls.length L.c2, .slice L.p3 d.ns.length L.c3, .slice L.p4 d.ss.length L.c4] 26 (0, 0))
  f0 : w.heap.size ≤ ob ∧ w.heap.size ≤ ib ∧ ob ≠ ib ∧ blkOf pw ≠ some ob
  f1 : ∀ j, blkOf pm = some j → w.heap.size ≤ j ∧ j ≠ ob ∧ j ≠ ib ∧ blkOf pw ≠ some j
section
variable {w wr W w1 : World} {L : Pl} {d : Dat} {I : List Int} {Wd : List ByteArray} {M : List Mrg} {N ib ob : Nat} {pw : Option Addr} {cw : Nat} {pm : Option Addr} {cm : Nat} {p1 : Option Addr} {c1 : Nat}
theorem FpSt.on (h : FpSt w wr L d I Wd M N ib ob pw cw pm cm) (hx : Ext (fun _ => False) wr W) : FpSt w W L d I Wd M N ib ob pw cw pm cm :=
  { h with ids := arr_ext h.ids hx (fun _ _ h => h), wds := arr_ext h.wds hx (fun _ _ h => h), mgs := arr_ext h.mgs hx (fun _ _ h => h), ext := h.ext.trans hx (fun _ _ h => h), obj := hx.obj h.obj (fun h => h) }
theorem FpSt.addMerge {x : Mrg} (h : FpSt w wr L d I Wd M N ib ob pw cw pm cm) (hA : Arr w1 66 3 p1 (M.length + 1) c1 (flat eM M ++ [.int .i64 x.l, .int .i64 x.r, .int .i64 x.i])) (hx1 : Ext (fun j => blkOf pm = some j) wr w1) (hm : Moved wr pm p1) :
    FpSt w (w1.setCell ⟨ob, 1, none⟩ (.slice p1 (M.length + 1) c1)) L d I Wd (M ++ [x]) N ib ob pw cw p1 c1 := by
  have hs := blk_lt h.obj
  have hil := arr_lt h.ids (k := ib) rfl
  have hx2 : Ext (fun j => j = ob) w1 (w1.setCell ⟨ob, 1, none⟩ (.slice p1 (M.length + 1) c1)) := (Ext.refl (fun j => j = ob) w1).setCell (p := ⟨ob, 1, none⟩) (fun _ => rfl) _
  have s0 := h.ext.size
  have s1 := hx1.size
  have hf := h.f0
  have hp1 : ∀ j, blkOf p1 = some j → w.heap.size ≤ j ∧ j ≠ ob ∧ j ≠ ib ∧ blkOf pw ≠ some j := fun j hj => by
    rcases hm j hj with h1 | h1
    · exact h.f1 j h1
    · exact ⟨by omega, by omega, by omega, fun e => by have := arr_lt h.wds e; omega⟩
  refine ⟨?_, ?_, ?_, ?_, ?_, h.f0, hp1⟩
  · exact arr_ext (arr_ext h.ids hx1 (fun j hj e => by have := h.f1 j e; simp [blkOf] at hj; omega)) hx2 (fun j hj e => by simp [blkOf] at hj; omega)
  · exact arr_ext (arr_ext h.wds hx1 (fun j hj e => (h.f1 j e).2.2.2 hj)) hx2 (fun j hj e => hf.2.2.2 (by rw [hj, e]))
  · have := arr_ext hA hx2 (fun j hj e => (hp1 j hj).2.1 e)
    simpa [flat, eM] using this
  · exact (h.ext.trans hx1 (fun i hi e => by have := h.f1 i e; omega)).trans hx2 (fun i hi e => by omega)
  · have := blk_set (hx1.obj h.obj (fun e => (h.f1 _ e).2.1 rfl)) 1 (.slice p1 (M.length + 1) c1)
    simpa using this
/-- What the state says of the data. -/
theorem FpSt.data {n : Nat} (h : FpSt w wr L d I Wd M N ib ob pw cw pm cm) (hR : DR w L d) (hD : RightD d) (hn : n ≤ d.ms.length) (hI : (renGo d n (256 + d.ms.length)).1 = I) (hW : (renGo d n (256 + d.ms.length)).2 = Wd) (hM : (d.ms.take n).map (cutM I) = M) :
    DR wr ⟨pw, cw, pm, cm, L.p2, L.c2, L.p3, L.c3, L.p4, L.c4⟩ (cutD d n) := by
  have hl := (renGo_len d n (256 + d.ms.length))
  have hf := hD.few
  subst hI hW hM
  have hml : (cutD d n).ms.length = n := by unfold cutD; rw [List.length_map, List.length_take]; omega
  have R := hR.on h.ext
  have a1 := h.wds
  have a2 := h.mgs
  refine ⟨Rd.of_arr a1, Rd.of_arr a2, R.r2, R.r3, R.r4, (arr_cap a1).1, (arr_cap a2).1, R.k2, R.k3, R.k4, ?_, ?_, R.b2, R.b3, R.b4, fun s hs => ?_, fun x hx => ?_⟩
  · rw [cutD_ws]; omega
  · rw [hml]; omega
  · have := renGo_ws hD n _ s hs; omega
  · unfold cutD at hx
    rw [List.mem_map] at hx
    obtain ⟨y, _, rfl⟩ := hx
    have h1 := renAt_bd d n (256 + d.ms.length) y.l
    have h2 := renAt_bd d n (256 + d.ms.length) y.r
    have h3 := renAt_bd d n (256 + d.ms.length) y.i
    unfold cutM inI
    exact ⟨⟨by simp only; omega, by simp only; omega⟩, ⟨by simp only; omega, by simp only; omega⟩, ⟨by simp only; omega, by simp only; omega⟩⟩
end
def PFirstEnd (w : World) (d : Dat) (n : Nat) (e : Ending) (w' : World) : Prop := ∃ (a ib : Nat),
  e = .returned (.tuple #[.pointer (some ⟨a, 0, none⟩), .slice (some ⟨ib, 0, none⟩) (256 + d.ms.length) (256 + d.ms.length), .int .i64 0]) ∧
  IsModel w' a (cutD d n) ∧ Arr w' 3 1 (some ⟨ib, 0, none⟩) (256 + d.ms.length) (256 + d.ms.length) (ints (renGo d n (256 + d.ms.length)).1) ∧ Ext (fun _ => False) w w' ∧ w.heap.size ≤ ib ∧ w.heap.size ≤ a

set_option maxRecDepth 100000 in
set_option maxHeartbeats 8000000 in
theorem pfirst_any (w : World) (a : Nat) (d : Dat) (k : Int) (h : IsModel w a d) (hg : good d = true) :
    Calls Tryd.prog 8 #[.pointer (some ⟨a, 0, none⟩), .int .i64 k] w fun e w' => PFirstEnd w d (kc d k) e w' := by
  have hd := RightD.of_good hg
  have hf := hd.few
  have C := Lib.hid (pof_any w a d h hd)
  have D := Lib.hid hd
  have CK := Lib.hid (cut_check hg (kc_le d k))
  have KC := Lib.hid (show mn (mx k 0) d.ms.length = ((kc d k : Nat) : Int) from by
    unfold mn mx kc
    by_cases h0 : k < 0
    · rw [if_pos h0, if_pos h0, if_neg (by omega)]; rfl
    · rw [if_neg h0, if_neg h0]
      by_cases h1 : (d.ms.length : Int) < k
      · rw [if_pos h1, if_pos h1]
      · rw [if_neg h1, if_neg h1]; omega)
  clear h hd hg
  go_enter Tryd.func8, Tryd.ntmps8
  go_wp2_with fail
  refine C.out.mono ?_
  rintro e W ⟨L, pr, cr, R, rfl, hT, hx⟩
  have T := Lib.hid hT
  have X := Lib.hid hx
  have KR := Lib.hid (show mn (mx k 0) (R.length : Int) = ((kc d k : Nat) : Int) from by rw [hT.rl]; exact KC.out)
  have hrl2 : R.length ≤ 4096 := by have := hT.rl; omega
  clear hT hx C
  have xa : Ext (fun _ => False) W (W.alloc (.cells (tbCells L d pr cr R) 61)) := (Ext.refl _ _).alloc _
  have HB := Lib.hid (show (W.alloc (.cells (tbCells L d pr cr R) 61)).heap[W.heap.size]? = _ from heap_alloc_new W _)
  have TA := Lib.hid (T.out.on xa)
  have XA := Lib.hid xa
  clear xa
  go_wp2_with fail
  rw [KR.out]
  refine (renamed_any _ L d pr cr R ((kc d k : Nat) : Int) TA.out D.out).mono ?_
  rintro e W2 ⟨ib, pw, cw, rfl, hI, hWd, hx2, hib, hpw⟩
  obtain ⟨n, hn⟩ : ∃ n, kc d k = n := ⟨_, rfl⟩
  have hn2 : n ≤ d.ms.length := by rw [← hn]; exact kc_le d k
  rw [hn] at hI hWd CK KR ⊢
  have htb := blk_lt (hx2.obj HB.out (fun h => h))
  have TB2 := Lib.hid (hx2.obj HB.out (fun h => h))
  have XW2 := Lib.hid (XA.out.trans hx2 (fun _ _ h => h))
  have hibW : W.heap.size ≤ ib := by have := XA.out.size; omega
  obtain ⟨Wd, hWd2⟩ : ∃ Wd, (renGo d n (256 + d.ms.length)).2 = Wd := ⟨_, rfl⟩
  obtain ⟨I, hI2⟩ : ∃ I, (renGo d n (256 + d.ms.length)).1 = I := ⟨_, rfl⟩
  obtain ⟨N, hN⟩ : ∃ N : Nat, 256 + d.ms.length = N := ⟨_, rfl⟩
  have HWd := Lib.hid hWd2
  have HI := Lib.hid hI2
  have HN := Lib.hid hN
  have HL1 := Lib.hid (show I.length = N from by rw [← hI2, ← hN]; exact (renGo_len d n _).1)
  rw [hWd2] at hWd ⊢
  rw [hI2] at hI
  rw [hN] at hI ⊢
  have xo : Ext (fun _ => False) W2 (W2.alloc (.cells #[.slice pw Wd.length cw, .slice none 0 0, .slice L.p2 d.ls.length L.c2, .slice L.p3 d.ns.length L.c3, .slice L.p4 d.ss.length L.c4] 26)) := (Ext.refl _ _).alloc _
  have S0 := Lib.hid (show FpSt W (W2.alloc (.cells #[.slice pw Wd.length cw, .slice none 0 0, .slice L.p2 d.ls.length L.c2, .slice L.p3 d.ns.length L.c3, .slice L.p4 d.ss.length L.c4] 26)) L d I Wd [] N ib W2.heap.size pw cw none 0 from
    { ids := arr_ext hI xo (fun _ _ h => h), wds := arr_ext hWd xo (fun _ _ h => h), mgs := arr_nil _ _ _, ext := XW2.out.trans xo (fun _ _ h => h), obj := heap_alloc_new W2 _,
      f0 := ⟨XW2.out.size, hibW, by have := arr_lt hI (k := ib) rfl; omega, fun h => by have := arr_lt hWd h; omega⟩
      f1 := fun j hj => by cases hj })
  have TB3 := Lib.hid (xo.obj TB2.out (fun h => h))
  have hib2 : w.heap.size ≤ ib := by have := X.out.size; omega
  clear hI hWd hx2 hib hpw hWd2 hI2 hN xo
  have b0 := blk_cell TB2.out 0
  have b1 := blk_cell TB2.out 1
  have b2 := blk_cell TB2.out 2
  have b3 := blk_cell TB2.out 3
  have b4 := blk_cell TB2.out 4
  simp [tbCells] at b0 b1 b2 b3 b4
  have hk1 := T.out.rd.k1
  have hnc : (n : Int) ≤ (L.c1 : Int) := by omega
  have HKN := Lib.hid hn
  clear hn
  go_wp2_with fail
  obtain ⟨ob, hob⟩ : ∃ ob, W2.heap.size = ob := ⟨_, rfl⟩
  rw [hob] at S0 ⊢
  clear b0 b1 b2 b3 b4 htb
  generalize W2.alloc (.cells #[.slice pw Wd.length cw, .slice none 0 0, .slice L.p2 d.ls.length L.c2, .slice L.p3 d.ns.length L.c3, .slice L.p4 d.ss.length L.c4] 26) = W3 at S0 TB3 ⊢
  clear hob
  go_loopw [48] (fun i w2 => ∃ j : Nat, i = .int .i64 j ∧ j ≤ n ∧ ∃ (pm : Option Addr) (cm : Nat), FpSt W w2 L d I Wd ((d.ms.take j).map (cutM I)) N ib ob pw cw pm cm) (fun i _ => n - (intOf i).toNat)
  case atStart => exact ⟨0, rfl, Nat.zero_le _, none, 0, S0.out⟩
  case round =>
    obtain ⟨j, rfl, hj, pm, cm, hst⟩ := hrel
    have ob0 := hst.obj
    have S3 := Lib.hid hst
    clear hst S0
    have o1 := blk_cell ob0 1
    have o1f := blk_frozen ob0 1
    simp at o1
    by_cases hlt : j < n
    · have i1 : (j : Int) < (n : Int) := by omega
      obtain ⟨x, hx⟩ : ∃ x, d.ms[j]? = some x := ⟨_, List.getElem?_eq_getElem (by omega)⟩
      obtain ⟨b, o, hp, hb, c0, c1, c2⟩ := (T.out.rd.on S3.out.ext).r1.cellM hx
      obtain ⟨hi0, hi1⟩ := D.out.idr j x hx
      obtain ⟨hl0, hl1⟩ := D.out.part_range (D.out.pl j x hx)
      obtain ⟨hr0, hr1⟩ := D.out.part_range (D.out.pr j x hx)
      have hI0 := S3.out.ids
      have cid : ∀ z : Int, 0 ≤ z → z < 256 + (d.ms.length : Int) → wr.cell? ⟨ib, z.toNat, none⟩ = some (.int .i64 (renAt I z)) := fun z h0 h1 => by
        have := HL1.out
        have := HN.out
        refine (arr_cell hI0 z.toNat (by omega)).trans ?_
        unfold ints renAt
        rw [List.getElem?_map, List.getElem?_eq_getElem (by omega)]
        rfl
      have HLM := Lib.hid (show ((d.ms.take j).map (cutM I)).length = j from by rw [List.length_map, List.length_take]; omega)
      have HX := Lib.hid hx
      have HP := Lib.hid hp
      rw [hp]
      have j1 : (j : Int) < (d.ms.length : Int) := by omega
      have cl := cid x.l hl0 hl1
      have cr := cid x.r hr0 hr1
      have ci := cid x.i (by omega) hi1
      have hL0 : x.l < (N : Int) := by have := HN.out; omega
      have hR0 : x.r < (N : Int) := by have := HN.out; omega
      have hI00 : x.i < (N : Int) := by have := HN.out; omega
      have hI01 : 0 ≤ x.i := by omega
      have hXX : Ext (fun _ => False) wr (wr.alloc (.cells #[.int .i64 x.l, .int .i64 x.r, .int .i64 x.i] 66)) := (Ext.refl _ _).alloc _
      have hbl : ib < wr.heap.size := arr_lt hI0 rfl
      have hol := blk_lt ob0
      have S5 := Lib.hid (S3.out.on hXX)
      rw [← hXX.cell (p := ⟨ib, x.l.toNat, none⟩) hbl (fun h => h)] at cl
      rw [← hXX.cell (p := ⟨ib, x.r.toNat, none⟩) hbl (fun h => h)] at cr
      rw [← hXX.cell (p := ⟨ib, x.i.toNat, none⟩) hbl (fun h => h)] at ci
      clear hx hp cid hI0 hbl ob0 hXX
      go_wp2_with fail
      obtain ⟨n0, n1, n2⟩ := box3 wr 66 (.int .i64 x.l) (.int .i64 x.r) (.int .i64 x.i)
      have o5 := blk_cell S5.out.obj 1
      have o5f := blk_frozen S5.out.obj 1
      simp only [HLM.out] at o5
      simp at o5
      obtain ⟨W5, hW5⟩ : ∃ W5, wr.alloc (.cells #[.int .i64 x.l, .int .i64 x.r, .int .i64 x.i] 66) = W5 := ⟨_, rfl⟩
      have hol2 : ob < W5.heap.size := by rw [← hW5]; simp; omega
      rw [hW5] at S5 n0 n1 n2 cl cr ci o5 o5f ⊢
      obtain ⟨xb, hxb⟩ : ∃ xb, wr.heap.size = xb := ⟨_, rfl⟩
      rw [hxb] at n0 n1 n2 hol ⊢
      obtain ⟨rl, hrl⟩ : ∃ rl, renAt I x.l = rl := ⟨_, rfl⟩
      obtain ⟨rr, hrr⟩ : ∃ rr, renAt I x.r = rr := ⟨_, rfl⟩
      obtain ⟨ri, hri⟩ : ∃ ri, renAt I x.i = ri := ⟨_, rfl⟩
      rw [hrl] at cl
      rw [hrr] at cr
      rw [hri] at ci
      obtain ⟨M, hM⟩ : ∃ M, (d.ms.take j).map (cutM I) = M := ⟨_, rfl⟩
      rw [hM] at S5 S3 HLM
      have HM1 := Lib.hid (show (d.ms.take (j + 1)).map (cutM I) = M ++ [⟨rl, rr, ri⟩] from by
        rw [List.take_add_one, HX.out, List.map_append, hM]
        simp [cutM, hrl, hrr, hri])
      clear hM hrl hrr hri hxb hW5
      refine start_ (n := 22) (S := fun w' => w'.cell? ⟨xb, 0, none⟩ = some (.int .i64 x.l) ∧ w'.cell? ⟨xb, 1, none⟩ = some (.int .i64 x.r) ∧ w'.cell? ⟨xb, 2, none⟩ = some (.int .i64 x.i) ∧ w'.cell? ⟨ib, x.l.toNat, none⟩ = some (.int .i64 rl) ∧ w'.cell? ⟨ib, x.r.toNat, none⟩ = some (.int .i64 rr) ∧ w'.cell? ⟨ib, x.i.toNat, none⟩ = some (.int .i64 ri) ∧ w'.cell? ⟨ob, 1, none⟩ = some (.slice pm j cm)) (ds := [19, 20, 21]) (ls 22 0) (by kernel_rfl) rfl rfl ⟨n0, n1, n2, cl, cr, ci, o5⟩ (fun hHeld => ?_)
      have S6 := Lib.hid (S5.out.on ((Ext.refl (fun _ => False) W5).drew))
      clear n0 n1 n2 cl cr ci o5 o5f
      generalize W5.drew = W6 at S6 hHeld ⊢
      refine pure_ (i := 0) (N := some 52) (v := ?_) (a' := ?_) (ls 22 1) rfl rfl (by kernel_rfl) (fun _ _ _ h => h) (Or.inl ⟨by rfl, ?_⟩) ?_ ?_
      rotate_left
      · intro w'; go_simp; with_reducible rfl
      rotate_left
      · simp only [Act.put, List.setIfInBounds_toArray, List.set_cons_zero, List.set_cons_succ, i64_w, i32_w]; rfl
      refine pure_ (i := 2) (N := some 54) (v := ?_) (a' := ?_) (ls 22 5) rfl rfl (by kernel_rfl) (fun _ _ _ h => h) (Or.inl ⟨by rfl, ?_⟩) ?_ ?_
      rotate_left
      · intro w'; go_simp; with_reducible rfl
      rotate_left
      · simp only [Act.put, List.setIfInBounds_toArray, List.set_cons_zero, List.set_cons_succ, i64_w, i32_w]; rfl
      refine pure_ (i := 3) (N := some 55) (v := ?_) (a' := ?_) (ls 22 13) rfl rfl (by kernel_rfl) (fun _ _ _ h => h) (Or.inl ⟨by rfl, ?_⟩) ?_ ?_
      rotate_left
      · intro w'; go_simp; with_reducible rfl
      rotate_left
      · simp only [Act.put, List.setIfInBounds_toArray, List.set_cons_zero, List.set_cons_succ, i64_w, i32_w]; rfl
      refine pure_ (i := 7) (N := some 59) (v := ?_) (a' := ?_) (ls 22 141) rfl rfl (by kernel_rfl) (fun _ _ _ h => h) (Or.inl ⟨by rfl, ?_⟩) ?_ ?_
      rotate_left
      · intro w'; go_simp; with_reducible rfl
      rotate_left
      · simp only [Act.put, List.setIfInBounds_toArray, List.set_cons_zero, List.set_cons_succ, i64_w, i32_w]; rfl
      refine pure_ (i := 8) (N := some 60) (v := ?_) (a' := ?_) (ls 22 397) rfl rfl (by kernel_rfl) (fun _ _ _ h => h) (Or.inl ⟨by rfl, ?_⟩) ?_ ?_
      rotate_left
      · intro w'; go_simp; with_reducible rfl
      rotate_left
      · simp only [Act.put, List.setIfInBounds_toArray, List.set_cons_zero, List.set_cons_succ, i64_w, i32_w]; rfl
      refine pure_ (i := 12) (N := some 64) (v := ?_) (a' := ?_) (ls 22 4493) rfl rfl (by kernel_rfl) (fun _ _ _ h => h) (Or.inl ⟨by rfl, ?_⟩) ?_ ?_
      rotate_left
      · intro w'; go_simp; with_reducible rfl
      rotate_left
      · simp only [Act.put, List.setIfInBounds_toArray, List.set_cons_zero, List.set_cons_succ, i64_w, i32_w]; rfl
      refine pure_ (i := 13) (N := some 65) (v := ?_) (a' := ?_) (ls 22 12685) rfl rfl (by kernel_rfl) (fun _ _ _ h => h) (Or.inl ⟨by rfl, ?_⟩) ?_ ?_
      rotate_left
      · intro w'; go_simp; with_reducible rfl
      rotate_left
      · simp only [Act.put, List.setIfInBounds_toArray, List.set_cons_zero, List.set_cons_succ, i64_w, i32_w]; rfl
      refine take_ (i := 1) (N := some 53) (v := ?_) (a' := ?_) (ls 22 12687) rfl rfl (by kernel_rfl) (fun _ _ _ h => h) (Or.inl ⟨by rfl, ?_⟩) hHeld ?_ ?_
      rotate_left
      · rintro w' ⟨s0, s1, s2, s3, s4, s5, s6⟩; go_simp; with_reducible rfl
      rotate_left
      · simp only [Act.put, List.setIfInBounds_toArray, List.set_cons_zero, List.set_cons_succ, i64_w, i32_w]; rfl
      refine take_ (i := 4) (N := some 56) (v := ?_) (a' := ?_) (ls 22 12703) rfl rfl (by kernel_rfl) (fun _ _ _ h => h) (Or.inl ⟨by rfl, ?_⟩) hHeld ?_ ?_
      rotate_left
      · rintro w' ⟨s0, s1, s2, s3, s4, s5, s6⟩; go_simp; with_reducible rfl
      rotate_left
      · simp only [Act.put, List.setIfInBounds_toArray, List.set_cons_zero, List.set_cons_succ, i64_w, i32_w]; rfl
      refine pure_ (i := 5) (N := some 57) (v := ?_) (a' := ?_) (ls 22 12735) rfl rfl (by kernel_rfl) (fun _ _ _ h => h) (Or.inl ⟨by rfl, ?_⟩) ?_ ?_
      rotate_left
      · intro w'; go_simp; with_reducible rfl
      rotate_left
      · simp only [Act.put, List.setIfInBounds_toArray, List.set_cons_zero, List.set_cons_succ, i64_w, i32_w]; rfl
      refine take_ (i := 6) (N := some 58) (v := ?_) (a' := ?_) (ls 22 12799) rfl rfl (by kernel_rfl) (fun _ _ _ h => h) (Or.inl ⟨by rfl, ?_⟩) hHeld ?_ ?_
      rotate_left
      · rintro w' ⟨s0, s1, s2, s3, s4, s5, s6⟩; go_simp; with_reducible rfl
      rotate_left
      · simp only [Act.put, List.setIfInBounds_toArray, List.set_cons_zero, List.set_cons_succ, i64_w, i32_w]; rfl
      refine take_ (i := 9) (N := some 61) (v := ?_) (a' := ?_) (ls 22 13311) rfl rfl (by kernel_rfl) (fun _ _ _ h => h) (Or.inl ⟨by rfl, ?_⟩) hHeld ?_ ?_
      rotate_left
      · rintro w' ⟨s0, s1, s2, s3, s4, s5, s6⟩; go_simp; with_reducible rfl
      rotate_left
      · simp only [Act.put, List.setIfInBounds_toArray, List.set_cons_zero, List.set_cons_succ, i64_w, i32_w]; rfl
      refine pure_ (i := 10) (N := some 62) (v := ?_) (a' := ?_) (ls 22 14335) rfl rfl (by kernel_rfl) (fun _ _ _ h => h) (Or.inl ⟨by rfl, ?_⟩) ?_ ?_
      rotate_left
      · intro w'; go_simp; with_reducible rfl
      rotate_left
      · simp only [Act.put, List.setIfInBounds_toArray, List.set_cons_zero, List.set_cons_succ, i64_w, i32_w]; rfl
      refine take_ (i := 11) (N := some 63) (v := ?_) (a' := ?_) (ls 22 16383) rfl rfl (by kernel_rfl) (fun _ _ _ h => h) (Or.inl ⟨by rfl, ?_⟩) hHeld ?_ ?_
      rotate_left
      · rintro w' ⟨s0, s1, s2, s3, s4, s5, s6⟩; go_simp; with_reducible rfl
      rotate_left
      · simp only [Act.put, List.setIfInBounds_toArray, List.set_cons_zero, List.set_cons_succ, i64_w, i32_w]; rfl
      refine take_ (i := 14) (N := some 66) (v := ?_) (a' := ?_) (ls 22 32767) rfl rfl (by kernel_rfl) (fun _ _ _ h => h) (Or.inl ⟨by rfl, ?_⟩) hHeld ?_ ?_
      rotate_left
      · rintro w' ⟨s0, s1, s2, s3, s4, s5, s6⟩; go_simp; with_reducible rfl
      rotate_left
      · simp only [Act.put, List.setIfInBounds_toArray, List.set_cons_zero, List.set_cons_succ, i64_w, i32_w]; rfl
      refine pure_ (i := 15) (N := some 67) (v := ?_) (a' := ?_) (ls 22 65535) rfl rfl (by kernel_rfl) (fun _ _ _ h => h) (Or.inl ⟨by rfl, ?_⟩) ?_ ?_
      rotate_left
      · intro w'; go_simp; with_reducible rfl
      rotate_left
      · simp only [Act.put, List.setIfInBounds_toArray, List.set_cons_zero, List.set_cons_succ, i64_w, i32_w]; rfl
      refine take_ (i := 16) (N := some 68) (v := ?_) (a' := ?_) (ls 22 131071) rfl rfl (by kernel_rfl) (fun _ _ _ h => h) (Or.inl ⟨by rfl, ?_⟩) hHeld ?_ ?_
      rotate_left
      · rintro w' ⟨s0, s1, s2, s3, s4, s5, s6⟩; go_simp; with_reducible rfl
      rotate_left
      · simp only [Act.put, List.setIfInBounds_toArray, List.set_cons_zero, List.set_cons_succ, i64_w, i32_w]; rfl
      refine pure_ (i := 17) (N := some 69) (v := ?_) (a' := ?_) (ls 22 262143) rfl rfl (by kernel_rfl) (fun _ _ _ h => h) (Or.inl ⟨by rfl, ?_⟩) ?_ ?_
      rotate_left
      · intro w'; go_simp; with_reducible rfl
      rotate_left
      · simp only [Act.put, List.setIfInBounds_toArray, List.set_cons_zero, List.set_cons_succ, i64_w, i32_w]; rfl
      refine one_ (i := 18) (N := some 70) (ls 22 524287) rfl rfl (by kernel_rfl) (by decide) (fun K hK => ?_)
      refine value_ (w1 := ?_) (v := ?_) (by rfl) rfl ?_ ?_
      rotate_left 2
      · go_simp
        constructor
        · rfl
        · rfl
      refine hK.out _ _ (by obtain ⟨s0, s1, s2, s3, s4, s5, s6⟩ := hHeld; exact ⟨cell_alloc s0, cell_alloc s1, cell_alloc s2, cell_alloc s3, cell_alloc s4, cell_alloc s5, cell_alloc s6⟩) (fun hHeld => ?_)
      clear hK K
      refine norm_ (a' := ?_) ?_ ?_
      rotate_left
      · simp only [Act.put, List.setIfInBounds_toArray, List.set_cons_zero, List.set_cons_succ, i64_w, i32_w]; rfl
      refine last_ (i := 19) (N := some 71) (ls 22 1048575) rfl rfl (by kernel_rfl) (by decide) (fun K hK => ?_)
      have S7 := Lib.hid (S6.out.on ((Ext.refl (fun _ => False) W6).alloc (.cells #[.int .i64 rl, .int .i64 rr, .int .i64 ri] 66)))
      refine arr_append_step (by rfl) (.tmp 53) (.tmp 70) 23 66 3 24 (.agg #[.int .i64 0, .int .i64 0, .int .i64 0]) rfl Tryd.underlying23 infoM rfl (by decide) (by decide) pm j cm (flat eM M) rfl (some ⟨W6.heap.size, 0, none⟩) 1 1 rfl [.int .i64 rl, .int .i64 rr, .int .i64 ri] rfl (fun ad h => by injection h with h; subst h; exact World.news_of_block (heap_alloc_new W6 _)) (fun h => by cases h) (by simp [Value.oneCell']) (HLM.out ▸ S7.out.mgs) (by omega) ?_
      intro p1 c1 w7 hA1 hx1 hm1
      have NY := Lib.hid (S7.out.addMerge (x := ⟨rl, rr, ri⟩) (by rw [HLM.out]; exact hA1) hx1 hm1)
      have ob7 := hx1.obj S7.out.obj (fun e => by have := S7.out.f1 _ e; omega)
      have r1 := blk_cell ob7 1
      have r1f := blk_frozen ob7 1
      simp at r1
      clear hA1 hx1 hm1 ob7
      refine hK.out _ _ ?_
      clear hK K
      refine norm_ (a' := ?_) ?_ ?_
      rotate_left
      · simp only [Act.put, List.setIfInBounds_toArray, List.set_cons_zero, List.set_cons_succ, i64_w, i32_w]; rfl
      refine pure_ (i := 20) (N := some 72) (v := ?_) (a' := ?_) (ls 22 2097151) rfl rfl (by kernel_rfl) (fun _ _ _ h => h) (Or.inl ⟨by rfl, ?_⟩) ?_ ?_
      rotate_left
      · intro w'; go_simp; with_reducible rfl
      rotate_left
      · simp only [Act.put, List.setIfInBounds_toArray, List.set_cons_zero, List.set_cons_succ, i64_w, i32_w]; rfl
      refine last_ (i := 21) (N := none) (ls 22 4194303) rfl rfl (by kernel_rfl) (by decide) (fun K hK => ?_)
      refine skip_ (w1 := ?_) (by rfl) rfl ?_ ?_
      rotate_left 1
      · go_simp; rfl
      refine hK.out _ _ ?_
      clear hK K
      refine done_ (by kernel_rfl) ?_
      go_wp2_with fail
      go_roundw
      case rel => exact ⟨j + 1, by go_num, by omega, p1, c1, by rw [HM1.out]; have := NY.out; rwa [HLM.out] at this⟩
      case measure => simp [intOf]; omega
    · obtain rfl : j = n := by omega
      have i1 : ¬ (j : Int) < (j : Int) := by omega
      have HLM := Lib.hid (show ((d.ms.take j).map (cutM I)).length = j from by rw [List.length_map, List.length_take]; omega)
      have DD := Lib.hid (S3.out.data T.out.rd D.out hn2 HI.out HWd.out rfl)
      have HC1 := Lib.hid (show (cutD d j).ws.length = Wd.length from by rw [cutD_ws, HWd.out])
      have HC2 := Lib.hid (show (cutD d j).ms.length = j from by rw [cutD_ms, List.length_map, List.length_take]; omega)
      have NW := new5_any wr _ (cutD d j) DD.out
      rw [HC1.out, HC2.out] at NW
      have NW := Lib.hid NW
      rw [HLM.out] at ob0
      have o0 := blk_cell ob0 0
      have o1 := blk_cell ob0 1
      have o2 := blk_cell ob0 2
      have o3 := blk_cell ob0 3
      have o4 := blk_cell ob0 4
      simp at o0 o1 o2 o3 o4
      clear ob0 o1f
      go_wp2_with fail
      refine NW.out.mono ?_
      rintro e W9 ⟨hx9, hres⟩
      rcases hres with ⟨hbad, _⟩ | ⟨_, a9, rfl, hm9, ha9⟩
      · exact absurd CK.out hbad
      have M9 := Lib.hid hm9
      have X9 := Lib.hid hx9
      have A9 := Lib.hid (arr_ext S3.out.ids hx9 (fun _ _ h => h))
      clear hm9 hx9 o0 o1 o2 o3 o4
      have hsz := X.out.size
      have hsz2 := S3.out.ext.size
      have FE := Lib.hid (show ∀ W', Ext (fun _ => False) W9 W' → PFirstEnd w d j (.returned (.tuple #[.pointer (some ⟨a9, 0, none⟩), .slice (some ⟨ib, 0, none⟩) N N, .int .i64 0])) W' from fun W' hx' => by
        refine ⟨a9, ib, by rw [HN.out], M9.out.on hx', ?_, X.out.trans (S3.out.ext.trans (X9.out.trans hx' (fun _ _ h => h)) (fun _ _ h => h)) (fun _ _ h => h), hib2, by omega⟩
        have := arr_ext A9.out hx' (fun _ _ h => h)
        rw [HI.out, HN.out]
        exact this)
      go_wp2_with fail
      go_ret3
      rw [HKN.out]
      exact FE.out _ ((Ext.refl _ _).alloc _)
end Go.Proofs.YtjffafcagklpiaaDoor.Sl
/- Cut down twice; cut down to all. -/
namespace Go.Proofs.YtjffafcagklpiaaDoor.Sl
open Go.Proofs.YtjffafcagklpiaaDoor.Lib
set_option linter.unusedVariables false
set_option linter.unusedSimpArgs false

section
variable {d : Dat} (hd : RightD d)
include hd in
/-- The words, seen from the cut data. -/
theorem ren_cut (n i : Nat) (hnm : n ≤ d.ms.length) (hin : i ≤ n) : ∀ j, 256 ≤ j → j ≤ 256 + d.ms.length → (renGo (cutD d n) (i : Nat) (256 + (renGo d n j).2.length)).2 = (renGo d (i : Nat) j).2 := by
  have hq := cut_right hd n hnm
  have hl := hd.len
  intro j
  induction j with
  | zero => intro h; omega
  | succ j ih =>
    intro h0 h1
    by_cases hb : j < 256
    · have e1 : ∀ (d : Dat) (k : Int) (j : Nat), j ≤ 256 → (renGo d k j).2 = [] := by
        intro d k j
        induction j with
        | zero => intro _; rfl
        | succ j ih => intro h; rw [renGo_low d k (by omega)]; exact ih (by omega)
      rw [e1 d _ _ (by omega), e1 d _ _ (by omega)]
      exact e1 _ _ _ (by simp)
    · have ih := ih (by omega) (by omega)
      obtain ⟨r, x, hr, hx, hxi, hlt⟩ := hd.rank_ex (id := (j : Int)) (by omega) (by omega)
      have ex : x.i.toNat = j := by omega
      by_cases hn : r < n
      · obtain ⟨m1, m2, m3⟩ := nm_made hd n hx hn hnm
        have hqr : rankOf (cutD d n).ms (256 + ((renGo d n j).2.length : Int)) = some r := by
          rw [ex] at m1
          have := hq.rank_at (k := r) (x := ⟨nm d n x.l, nm d n x.r, nm d n x.i⟩) (by rw [cutD_ms, List.getElem?_map, List.getElem?_take, if_pos hn, hx]; rfl)
          rwa [show (⟨nm d n x.l, nm d n x.r, nm d n x.i⟩ : Mrg).i = 256 + ((renGo d n j).2.length : Int) from m1] at this
        rw [renGo_in d _ hb (by rw [hr]; simpa using hn)]
        simp only [List.length_append, List.length_singleton]
        rw [← Nat.add_assoc]
        have hcast : ((256 + (renGo d n j).2.length : Nat) : Int) = 256 + ((renGo d n j).2.length : Int) := by omega
        by_cases hi : r < i
        · rw [renGo_in (cutD d n) _ (by omega) (by rw [hcast, hqr]; simpa using hi), renGo_in d _ hb (by rw [hr]; simpa using hi)]
          simp only
          rw [ih, Nat.add_sub_cancel_left, cutD_ws]
          rw [ex] at m3
          rw [m3, show (x.i - 256).toNat = j - 256 by omega]
        · rw [renGo_out (cutD d n) _ (by omega) (by rw [hcast, hqr]; simpa using hi), renGo_out d _ hb (by rw [hr]; simpa using hi)]
          exact ih
      · rw [renGo_out d _ hb (by rw [hr]; simpa using hn), renGo_out d _ hb (by rw [hr]; simp; omega)]
        exact ih
include hd in
theorem nm_cut (n i : Nat) (hnm : n ≤ d.ms.length) (hin : i ≤ n) {id : Int} (h : madeB (d.ms.take i) id = true) : nm (cutD d n) i (nm d n id) = nm d i id := by
  have hq := cut_right hd n hnm
  rcases part_cases h with ⟨h0, h1⟩ | ⟨k, y, hk, hy, rfl⟩
  · rw [nm_byte n h0 h1, nm_byte i h0 h1, nm_byte i h0 h1]
  · have hr := hd.idr k y hy
    have hml : (cutD d n).ms.length = n := by rw [cutD_ms, List.length_map, List.length_take]; omega
    have hqy : (cutD d n).ms[k]? = some ⟨nm d n y.l, nm d n y.r, nm d n y.i⟩ := by rw [cutD_ms, List.getElem?_map, List.getElem?_take, if_pos (by omega), hy]; rfl
    have m1 := (nm_made hd n hy (by omega) hnm).1
    have m2 := (nm_made hd i hy hk (by omega)).1
    have m3 := (nm_made hq i hqy hk (by omega)).1
    simp only at m3
    rw [m3, m2, m1]
    have := ren_cut hd n i hnm hin y.i.toNat (by omega) (by omega)
    rw [show (256 + ((renGo d n y.i.toNat).2.length : Int)).toNat = 256 + (renGo d n y.i.toNat).2.length by omega, this]
include hd in
theorem cut_cut (n i : Nat) (hnm : n ≤ d.ms.length) (hin : i ≤ n) : cutD (cutD d n) i = cutD d i := by
  have hml : (cutD d n).ms.length = n := by rw [cutD_ms, List.length_map, List.length_take]; omega
  have hw : (cutD (cutD d n) i).ws = (cutD d i).ws := by
    rw [cutD_ws, cutD_ws, hml]
    have := ren_cut hd n i hnm hin (256 + d.ms.length) (by omega) (Nat.le_refl _)
    rwa [ren_total hd n hnm] at this
  have hm : (cutD (cutD d n) i).ms = (cutD d i).ms := by
    rw [show (cutD (cutD d n) i).ms = ((cutD d n).ms.take i).map (fun x => (⟨nm (cutD d n) i x.l, nm (cutD d n) i x.r, nm (cutD d n) i x.i⟩ : Mrg)) from rfl, cutD_take n i hin, List.map_map, cutD_ms]
    refine List.map_congr_left fun x hx => ?_
    obtain ⟨r, hr⟩ := List.getElem?_of_mem hx
    rw [List.getElem?_take] at hr
    by_cases hri : r < i
    · rw [if_pos hri] at hr
      simp only [Function.comp]
      rw [nm_cut hd n i hnm hin (made_le (hd.pl r x hr) (by omega)), nm_cut hd n i hnm hin (made_le (hd.pr r x hr) (by omega)), nm_cut hd n i hnm hin (nm_self hd i (by omega) hr hri)]
    · rw [if_neg hri] at hr; cases hr
  show ({ cutD (cutD d n) i with ws := (cutD (cutD d n) i).ws, ms := (cutD (cutD d n) i).ms } : Dat) = _
  rw [hw, hm]
  rfl
include hd in
theorem ren_all : ∀ j, j ≤ d.ms.length → (renGo d (d.ms.length : Nat) (256 + j)).2 = d.ws.take j := by
  have hl := hd.len
  intro j
  induction j with
  | zero =>
    intro _
    have e1 : ∀ (k : Int) (j : Nat), j ≤ 256 → (renGo d k j).2 = [] := by
      intro k j
      induction j with
      | zero => intro _; rfl
      | succ j ih => intro h; rw [renGo_low d k (by omega)]; exact ih (by omega)
    rw [e1 _ _ (by omega), List.take_zero]
  | succ j ih =>
    intro hj
    obtain ⟨r, x, hr, hx, hxi, hlt⟩ := hd.rank_ex (id := ((256 + j : Nat) : Int)) (by omega) (by omega)
    obtain ⟨s, hs⟩ : ∃ s, d.ws[j]? = some s := ⟨_, List.getElem?_eq_getElem (by omega)⟩
    rw [← Nat.add_assoc, renGo_in d _ (by omega) (by rw [hr]; simpa using hlt), ih (by omega), Nat.add_sub_cancel_left, hs, List.take_add_one, hs]
    rfl
include hd in
theorem nm_all {id : Int} (h : madeB d.ms id = true) : nm d d.ms.length id = id := by
  have h : madeB (d.ms.take d.ms.length) id = true := by rw [List.take_length]; exact h
  rcases part_cases h with ⟨h0, h1⟩ | ⟨k, y, hk, hy, rfl⟩
  · exact nm_byte _ h0 h1
  · have hr := hd.idr k y hy
    have hl := hd.len
    rw [(nm_made hd _ hy hk (Nat.le_refl _)).1]
    have := ren_all hd (y.i.toNat - 256) (by omega)
    rw [show 256 + (y.i.toNat - 256) = y.i.toNat by omega] at this
    rw [this, List.length_take]
    omega
include hd in
theorem cut_all : cutD d d.ms.length = d := by
  have hl := hd.len
  have hw : (cutD d d.ms.length).ws = d.ws := by
    rw [cutD_ws, ren_all hd _ (Nat.le_refl _), List.take_of_length_le (by omega)]
  have hm : (cutD d d.ms.length).ms = d.ms := by
    rw [cutD_ms, List.take_length]
    conv => rhs; rw [← List.map_id d.ms]
    refine List.map_congr_left fun x hx => ?_
    obtain ⟨r, hr⟩ := List.getElem?_of_mem hx
    have hlt := (List.getElem?_eq_some_iff.1 hr).1
    have full : ∀ {id : Int} {j : Nat}, j ≤ d.ms.length → madeB (d.ms.take j) id = true → madeB d.ms id = true := fun hj h => by
      have := made_le h hj
      rwa [List.take_length] at this
    have hs := nm_self hd d.ms.length (Nat.le_refl _) hr hlt
    rw [List.take_length] at hs
    rw [nm_all hd (full (by omega) (hd.pl r x hr)), nm_all hd (full (by omega) (hd.pr r x hr)), nm_all hd hs]
    rfl
  show ({ cutD d d.ms.length with ws := (cutD d d.ms.length).ws, ms := (cutD d d.ms.length).ms } : Dat) = _
  rw [hw, hm]
  rfl
end
theorem good_cut {d : Dat} (h : good d = true) {n : Nat} (hn : n ≤ d.ms.length) : good (cutD d n) = true := by
  have hf := good_few h
  have hml : (cutD d n).ms.length = n := by rw [cutD_ms, List.length_map, List.length_take]; omega
  unfold good large
  rw [cut_check h hn, hml, decide_eq_false (show ¬ 300 < n by omega)]
  rfl
theorem cut_len {d : Dat} {n : Nat} (hn : n ≤ d.ms.length) : (cutD d n).ms.length = n := by rw [cutD_ms, List.length_map, List.length_take]; omega
/-- Cut twice, with any numbers. -/
theorem cut_kc {d : Dat} (hd : RightD d) {k j : Int} (hk : 0 ≤ k) (hj : 0 ≤ j) : cutD (cutD d (kc d k)) (kc (cutD d (kc d k)) j) = cutD d (kc d (if j < k then j else k)) := by
  have h1 := kc_le d k
  have h2 := kc_le (cutD d (kc d k)) j
  have hl := cut_len h1
  rw [hl] at h2
  rw [cut_cut hd _ _ h1 h2]
  congr 1
  have e : ∀ (d : Dat) (k : Int), 0 ≤ k → ((kc d k : Nat) : Int) = if (d.ms.length : Int) < k then (d.ms.length : Int) else k := by
    intro d k hk
    unfold kc
    rw [if_neg (by omega)]
    by_cases h : (d.ms.length : Int) < k
    · rw [if_pos h, if_pos h]
    · rw [if_neg h, if_neg h]; omega
  have e1 := e (cutD d (kc d k)) j hj
  have e2 := e d (if j < k then j else k) (by split <;> omega)
  have e3 := e d k hk
  rw [hl] at e1
  have : ((kc (cutD d (kc d k)) j : Nat) : Int) = ((kc d (if j < k then j else k) : Nat) : Int) := by
    rw [e1, e2, e3]
    by_cases c1 : j < k
    · rw [if_pos c1]
      by_cases c2 : (d.ms.length : Int) < k
      · rw [if_pos c2]
      · rw [if_neg c2, if_neg (show ¬ k < j by omega)]
        by_cases c3 : (d.ms.length : Int) < j
        · omega
        · rw [if_neg c3]
    · rw [if_neg c1]
      by_cases c2 : (d.ms.length : Int) < k
      · rw [if_pos c2]
        by_cases c3 : (d.ms.length : Int) < j
        · rw [if_pos c3]
        · omega
      · rw [if_neg c2]
        by_cases c3 : k < j
        · rw [if_pos c3]
        · rw [if_neg c3]; omega
  omega
theorem kc_all (d : Dat) : kc d (d.ms.length : Int) = d.ms.length := by
  unfold kc
  rw [if_neg (by omega), if_neg (by omega)]
  omega
end Go.Proofs.YtjffafcagklpiaaDoor.Sl
/- Maps with int keys: a lookup of one answer, a length. -/
namespace Go.Proofs.YtjffafcagklpiaaDoor.Sl
open Go.RowKit Go.Proofs.YtjffafcagklpiaaDoor.Lib
set_option linter.unusedVariables false
set_option linter.unusedSimpArgs false

theorem intFit : KeyFit Tryd.prog 3 (fun v => ∃ n : Int, inI n ∧ v = .int .i64 n) := by
  have F := KeyFit.of (Maps.int_keyed (P := Tryd.prog) Tryd.underlying3)
  have hk : ∀ n : Int, inI n → ∃ l, keyOf Tryd.prog 3 (.int .i64 n) = some l := fun n hn => by
    unfold inI at hn
    refine ⟨.int .i64 n, ?_⟩
    simp [keyOf, Tryd.underlying3, mapKey, Lit.wf, IntKind.min, IntKind.max, IntKind.signed, IntKind.bits]
    try omega
  exact ⟨fun w em v ⟨s, hs, e⟩ => by subst e; exact F.check w em _ (hk s hs), fun w x ⟨s, hs, e⟩ es hes => by
    subst e
    exact F.find w _ (hk s hs) es (fun y hy => by obtain ⟨s', hs', e⟩ := hes y hy; rw [e]; exact hk s' hs')⟩
section
variable {P : Program} {w w' : World} {b : Nat} {l : List (Value × Value)} {Ok : Value → Prop} {T k e : TypeId}
theorem run_look1 (hT : P.underlying T = some (.map k e)) (F : KeyFit P k Ok) (h : MapAt w b l) (hl : ∀ p ∈ l, Ok p.1) (x z : Value) (hx : Ok x) (hz : (zeroValue e).run P w = .ok z w) :
    (∃ v, (x, v) ∈ l ∧ (Instr.lookup T (.map (some b)) x false).run P w = .ok v w) ∨
    ((∀ p ∈ l, p.1 ≠ x) ∧ (Instr.lookup T (.map (some b)) x false).run P w = .ok z w) := by
  obtain ⟨es, c, hb, rfl⟩ := h
  have hes : ∀ y ∈ es.toList, Ok y.key := fun y hy => hl (y.key, y.val) (List.mem_map.2 ⟨y, hy, rfl⟩)
  have hg := MapKept.run_getObj_map (P := P) hb
  rcases F.find w x hx es.toList hes with ⟨h1, h2⟩ | ⟨j, y, h1, h2, h3⟩
  · refine .inr ⟨?_, ?_⟩
    · intro p hp
      obtain ⟨y, hy, rfl⟩ := List.mem_map.1 hp
      exact h2 y hy
    · simp [Instr.lookup, run_underlying hT, hg, F.check w _ x hx, h1, hz]
  · refine .inl ⟨y.val, List.mem_map.2 ⟨y, List.mem_of_getElem? h2, by rw [h3]⟩, ?_⟩
    simp [Instr.lookup, run_underlying hT, hg, F.check w _ x hx, h1]
theorem run_len_at (hT : P.underlying T = some (.map k e)) (h : MapAt w b l) (ty : TypeId) : (Builtin.len_ #[T] ty #[.map (some b)]).run P w = .ok (goInt l.length) w := by
  obtain ⟨es, c, hb, rfl⟩ := h
  have hg := MapKept.run_getObj_map (P := P) hb
  simp [Builtin.len_, run_underlying hT, hg]
end
end Go.Proofs.YtjffafcagklpiaaDoor.Sl
/- tesseratop.TopFiner. -/
namespace Go.Proofs.YtjffafcagklpiaaDoor.Cut
open Go.RowKit Go.Proofs.YtjffafcagklpiaaDoor.Lib Go.Proofs.YtjffafcagklpiaaDoor.Sl Go.Proofs.YtjffafcagklpiaaDoor.Bpe
set_option linter.unusedVariables false
set_option linter.unusedSimpArgs false

theorem kc_of_nat {d : Dat} {n : Nat} (h : n ≤ d.ms.length) : kc d (n : Int) = n := by
  unfold kc
  rw [if_neg (by omega), if_neg (by omega), Int.toNat_natCast]
theorem toT_mono {d : Dat} {ids : List Int} (hd : RightD d) (ho : ∀ y ∈ ids, okId d y = true) : ∀ {i j : Nat}, i < j → j ≤ ids.length → toT d ids i < toT d ids j
  | i, 0, h, _ => absurd h (Nat.not_lt_zero _)
  | i, j + 1, h, hl => by
    obtain ⟨x, hx⟩ : ∃ x, ids[j]? = some x := ⟨_, List.getElem?_eq_getElem (by omega)⟩
    have h1 := wb_pos hd (ho x (List.mem_of_getElem? hx))
    have h2 := toT_succ (d := d) hx
    rcases Nat.lt_or_ge i j with h3 | h3
    · have := toT_mono hd ho h3 (by omega); omega
    · obtain rfl : i = j := by omega
      omega
/-- What the map of ends holds. -/
def endsE (R : List Plc) : List (Value × Value) := R.map fun x => (.int .i64 x.tp, .bool true)
theorem endsE_ok {d : Dat} {ids : List Int} {k : Nat} {R : List Plc} (h : Are d ids k R) (hl : (cat d ids).length ≤ 1048576) (j : Nat) : ∀ p ∈ endsE (R.take j), ∃ n : Int, inI n ∧ p.1 = .int .i64 n := fun p hp => by
  obtain ⟨x, hx, rfl⟩ := List.mem_map.1 hp
  obtain ⟨i, hi⟩ := List.mem_iff_getElem?.1 (List.mem_of_mem_take hx)
  refine ⟨x.tp, ?_, rfl⟩
  have := h.2 i x hi
  have := toT_le d ids (i + 1)
  unfold inI
  omega
theorem endsE_ne {d : Dat} {ids : List Int} {R : List Plc} (hd : RightD d) (ho : ∀ y ∈ ids, okId d y = true) (h : Are d ids ids.length R) {j : Nat} {x : Plc} (hx : R[j]? = some x) : ∀ p ∈ endsE (R.take j), p.1 ≠ .int .i64 x.tp := fun p hp => by
  obtain ⟨y, hy, rfl⟩ := List.mem_map.1 hp
  obtain ⟨i, hi⟩ := List.mem_iff_getElem?.1 hy
  rw [List.getElem?_take] at hi
  have hij : i < j := by
    rcases Nat.lt_or_ge i j with h' | h'
    · exact h'
    · rw [if_neg (by omega)] at hi; cases hi
  rw [if_pos hij] at hi
  have h1 := h.2 i y hi
  have h2 := h.2 j x hx
  have hjl : j < R.length := by
    rcases Nat.lt_or_ge j R.length with h' | h'
    · exact h'
    · rw [List.getElem?_eq_none h'] at hx; cases hx
  have h3 := toT_mono hd ho (show i + 1 < j + 1 by omega) (by have := h.1; omega)
  intro e
  injection e with _ e
  omega
theorem endsE_succ {R : List Plc} {j : Nat} {x : Plc} (hx : R[j]? = some x) : endsE (R.take (j + 1)) = endsE (R.take j) ++ [(.int .i64 x.tp, .bool true)] := by
  unfold endsE
  rw [List.take_add_one, hx]
  simp
/-- The cell where a place's end lies. -/
theorem plc_cell {w : World} {p : Option Addr} {n c : Nat} {R : List Plc} (h : Arr w 45 5 p n c (flat ePl R)) {j : Nat} {x : Plc} (hx : R[j]? = some x) :
    ∃ b, p = some ⟨b, 0, none⟩ ∧ b < w.heap.size ∧ w.cell? ⟨b, j * 5 + 2, none⟩ = some (.int .i64 x.tp) := by
  have hln := arr_len h
  have hjl : j < R.length := by
    rcases Nat.lt_or_ge j R.length with h' | h'
    · exact h'
    · rw [List.getElem?_eq_none h'] at hx; cases hx
  have hfl : (flat ePl R).length = R.length * 5 := by rw [flat_length]; rfl
  obtain ⟨b, rfl⟩ := arr_some h (by omega)
  refine ⟨b, rfl, arr_lt h rfl, ?_⟩
  rw [arr_cell h (j * 5 + 2) (by omega)]
  have := flat_get (E := ePl) hx 2 (by decide)
  exact this
set_option maxRecDepth 100000 in
set_option maxHeartbeats 16000000 in
theorem finer_any (w : World) (hT : Tabs w) (L : Pl) (d : Dat) (h : DR w L d) (k : Int) (hk : (Lit.int .i64 k).wf = true) (mo : Int) (hmo : (Lit.int .i64 mo).wf = true) (s : ByteArray) (hs0 : s.size ≤ 140737488351232) :
    Calls Tryd.prog 3 #[.agg #[.slice L.p0 d.ws.length L.c0, .slice L.p1 d.ms.length L.c1, .slice L.p2 d.ls.length L.c2, .slice L.p3 d.ns.length L.c3, .slice L.p4 d.ss.length L.c4], .int .i64 k, .int .i64 mo, .string s] w fun e w' => e = .returned (.bool true) ∧ Ext (fun _ => False) w w' := by
  have hb : (w.alloc (.cells (dataCells L d) 26)).heap[w.heap.size]? = _ := heap_alloc_new w _
  have X0 := Lib.hid ((Ext.refl (fun _ => False) w).alloc (.cells (dataCells L d) 26))
  have C := Lib.hid (of5_any _ L d (h.on X0.out))
  have HT := Lib.hid (hT.on X0.out)
  have HB := Lib.hid hb
  have HK := Lib.hid (Wi.inI_wf hk)
  have HMO := Lib.hid (Wi.inI_wf hmo)
  clear hb h hk hT hmo
  go_enter Tryd.func3, Tryd.ntmps3
  go_wp2_with fail
  refine C.out.mono ?_
  rintro e W ⟨hx, h⟩
  have X := Lib.hid (X0.out.trans hx (fun _ _ h => h))
  have T := Lib.hid (HT.out.on hx)
  have B := Lib.hid (hx.obj HB.out (fun h => h))
  clear hx C
  rcases h with ⟨hg, rfl⟩ | ⟨hg, a, rfl, hm, hwa⟩
  · have K := Lib.hid (awake_any W T.out)
    clear hg
    go_wp2_with fail
    refine K.out.mono ?_
    rintro e W2 ⟨rfl, hx2⟩
    have X2 := Lib.hid (X.out.trans hx2 (fun _ _ h => h))
    clear hx2
    go_wp2_with fail
    go_ret
    exact ⟨rfl, X2.out⟩
  · have D := Lib.hid (RightD.of_good hg)
    have HG := Lib.hid hg
    have M := Lib.hid (IsCut.of_good hm hg)
    have few := good_few hg
    have b1 := blk_cell B.out 1
    simp [dataCells] at b1
    clear hg hm
    go_wp2_with fail
    refine (fewTop_any W s 300 (by decide)).mono ?_
    rintro e W' ⟨rfl, rfl⟩
    have FZ0 := fewB_size s 300
    obtain ⟨t, ht⟩ : ∃ t, fewB s 300 = t := ⟨_, rfl⟩
    rw [ht] at FZ0 ⊢
    clear ht hs0
    go_wp2_with fail
    refine (Wi.within_any W mo 1 100 HMO.out (by omega) (by omega) (by omega)).mono ?_
    rintro e W' ⟨r, rfl, hr0, hr1, rfl⟩
    go_wp2_with fail
    refine (Wi.within0_any W k (d.ms.length : Int) HK.out (by omega) (by omega)).mono ?_
    rintro e W' ⟨v, rfl, hv0, hv1, rfl⟩
    obtain ⟨n, rfl⟩ : ∃ n : Nat, v = n := ⟨v.toNat, by omega⟩
    have hnm : n ≤ d.ms.length := by omega
    have PF := pfirst_any W a d (n : Int) M.out.model HG.out
    rw [kc_of_nat hnm] at PF
    have PF := Lib.hid PF
    have GC := Lib.hid (good_cut HG.out hnm)
    have FI := Lib.hid (fun i hi => to_finer (i := i) D.out hnm r t hi)
    have LF := Lib.hid (len_finer D.out hnm r t)
    have ES := Lib.hid (encT_cut (d := d) (n := n) r t)
    have EC0 := Lib.hid (encT_cat D.out r t)
    have EC1 := Lib.hid (encT_cat (cut_right D.out n hnm) r t)
    have EO0 := Lib.hid (encT_ok D.out r t)
    have EO1 := Lib.hid (encT_ok (cut_right D.out n hnm) r t)
    have D1 := Lib.hid (cut_right D.out n hnm)
    obtain ⟨q, hq⟩ : ∃ q, cutD d n = q := ⟨_, rfl⟩
    rw [hq] at GC FI LF ES EC1 EO1 D1
    have HQ := Lib.hid hq
    clear hq b1 hv0 hv1 hnm
    go_wp2_with fail
    refine PF.out.mono ?_
    rintro e W1 ⟨a1, ib, rfl, hm1, hA1, hx1, _, _⟩
    rw [HQ.out] at hm1
    have X1 := Lib.hid (X.out.trans hx1 (fun _ _ h => h))
    have T1 := Lib.hid (T.out.on hx1)
    have PA := Lib.hid (places_any (M.out.on hx1) D.out T1.out r hr0 (by omega) t (by omega))
    have M1 := Lib.hid (IsCut.of_good hm1 GC.out)
    clear hm1 hA1 hx1 PF B M
    go_wp2_with fail
    refine PA.out.mono ?_
    rintro e W2 ⟨pa, ca, RA, hra, rfl, hAa, hx2, _⟩
    have X2 := Lib.hid (X1.out.trans hx2 (fun _ _ h => h))
    have T2 := Lib.hid (T1.out.on hx2)
    have PB := places_any (M1.out.on hx2) D1.out T2.out r hr0 (by omega) t (by omega)
    rw [ES.out] at PB
    have PB := Lib.hid PB
    have A2 := Lib.hid hAa
    have RA1 := Lib.hid hra
    obtain ⟨la, hla⟩ : ∃ l, (encT d r t).1 = l := ⟨_, rfl⟩
    obtain ⟨lb, hlb⟩ : ∃ l, (encT q r t).1 = l := ⟨_, rfl⟩
    obtain ⟨st, hst⟩ : ∃ st : Int, (if (encT d r t).2 = true then 2 else 1) = st := ⟨_, rfl⟩
    rw [hla] at FI LF EC0 EO0 RA1 A2
    rw [hlb] at FI LF EC1 EO1 PB
    rw [hst] at PB
    rw [hla, hst]
    clear hla hlb hst hx2 hra hAa PA ES
    go_wp2_with fail
    refine PB.out.mono ?_
    rintro e W3 ⟨pb, cb, RB, hrb, rfl, hBb, hx3, _⟩
    have X3 := Lib.hid (X2.out.trans hx3 (fun _ _ h => h))
    have T3 := Lib.hid (T2.out.on hx3)
    have B3 := Lib.hid hBb
    have RB1 := Lib.hid hrb
    have A3 := Lib.hid (arr_ext A2.out hx3 (fun _ _ h => h))
    clear hBb hrb hx3 PB A2
    have hmm := @run_makeMap Tryd.prog
    go_upto_region 14 with (fail)
    obtain ⟨mb, hmb⟩ : ∃ mb, W3.heap.size = mb := ⟨_, rfl⟩
    obtain ⟨W4, hW4⟩ : ∃ W4, W3.alloc (.map #[] 0) = W4 := ⟨_, rfl⟩
    have ST0 := Lib.hid (show Ext (fun _ => False) W3 W4 ∧ MapAt W4 mb [] from by rw [← hW4, ← hmb]; exact ⟨(Ext.refl _ _).alloc _, MapAt.new W3⟩)
    have MB := Lib.hid hmb
    have LA := Lib.hid (show ∀ n : Nat, la.length = n → n ≤ 300 from fun n h => by have := cat_pos D.out EO0.out; have := EC0.out; omega)
    have LB := Lib.hid (show ∀ n : Nat, lb.length = n → n ≤ 300 from fun n h => by have := cat_pos D1.out EO1.out; have := EC1.out; omega)
    obtain ⟨na, hna⟩ : ∃ n, la.length = n := ⟨_, rfl⟩
    obtain ⟨nb, hnb⟩ : ∃ n, lb.length = n := ⟨_, rfl⟩
    have ha3 := LA.out na hna
    have hb3 := LB.out nb hnb
    rw [hna, hnb] at LF
    have RBL := Lib.hid (show RB.length = nb from RB1.out.1.trans hnb)
    have RAL := Lib.hid (show RA.length = na from RA1.out.1.trans hna)
    rw [hna] at A3
    rw [hnb] at B3
    try rw [hW4]
    try rw [hmb]
    have HNA := Lib.hid hna
    have HNB := Lib.hid hnb
    rw [hna, hnb]
    clear hW4 hmb hmm hna hnb
    go_wp2_with fail
    go_loopw [22] (fun i wr => ∃ j : Nat, i = .int .i64 j ∧ j ≤ nb ∧ MapAt wr mb (endsE (RB.take j)) ∧ Ext (fun j => j = mb) W4 wr) (fun i _ => nb - (intOf i).toNat)
    case atStart => exact ⟨0, rfl, Nat.zero_le _, ST0.out.2, Ext.refl _ _⟩
    case round =>
      obtain ⟨j, rfl, hj, hmap, hx⟩ := hrel
      have MP := Lib.hid hmap
      have EX := Lib.hid hx
      have E1 := Lib.hid (show Ext (fun _ => False) W3 wr from ST0.out.1.trans hx (fun i hi e => by have := MB.out; omega))
      clear hmap hx
      by_cases hlt : j < nb
      · have i1 : (j : Int) < (nb : Int) := by omega
        obtain ⟨x, hget⟩ : ∃ x, RB[j]? = some x := ⟨_, List.getElem?_eq_getElem (by have := RBL.out; omega)⟩
        obtain ⟨b, hp, hb, cx⟩ := plc_cell (arr_ext B3.out E1.out (fun _ _ h => h)) hget
        subst hp
        have hin : inI x.tp := by
          have := RB1.out.2 j x hget
          have := toT_le q lb (j + 1)
          have := EC1.out
          unfold inI; omega
        obtain ⟨w2, hput, hm2, hx2⟩ := run_put (P := Tryd.prog) (w := wr) Tryd.underlying41 intFit MP.out (endsE_ok RB1.out (by have := EC1.out; omega) j) (.int .i64 x.tp) (.bool true) ⟨_, hin, rfl⟩ (endsE_ne D1.out EO1.out (by rw [HNB.out] at RB1 ⊢; exact RB1.out) hget)
        have T := Lib.hid (show MapAt w2 mb (endsE (RB.take (j + 1))) from by rw [endsE_succ hget]; exact hm2)
        have X2 := Lib.hid (EX.out.trans hx2 (fun _ _ h => h))
        obtain ⟨z, hz⟩ : ∃ z, x.tp = z := ⟨_, rfl⟩
        rw [hz] at cx hput
        clear hm2 hx2 hget hz hin
        go_wp2_with fail
        go_roundw
        case rel => exact ⟨j + 1, by go_num, hlt, T.out, X2.out⟩
        case measure => simp [intOf]; omega
      · obtain rfl : j = nb := by omega
        have i1 : ¬ (j : Int) < (j : Int) := by omega
        rw [show RB.take j = RB from by rw [← RBL.out, List.take_length]] at MP
        obtain ⟨W5, hW5⟩ : ∃ W5, wr = W5 := ⟨_, rfl⟩
        subst hW5
        clear hlt
        go_wp2_with fail
        go_loopw [23] (fun i wr2 => ∃ i1 : Nat, i = .int .i64 i1 ∧ i1 ≤ na ∧ wr2 = wr) (fun i _ => na - (intOf i).toNat)
        case atStart => exact ⟨0, rfl, Nat.zero_le _, rfl⟩
        case round =>
          obtain ⟨i, rfl, hi, rfl⟩ := hrel
          by_cases hlt : i < na
          · have i2 : (i : Int) < (na : Int) := by omega
            obtain ⟨x, hget⟩ : ∃ x, RA[i]? = some x := ⟨_, List.getElem?_eq_getElem (by have := RAL.out; omega)⟩
            obtain ⟨b, hp, hb, cx⟩ := plc_cell (arr_ext A3.out E1.out (fun _ _ h => h)) hget
            subst hp
            have hin : inI x.tp := by
              have := RA1.out.2 i x hget
              have := toT_le d la (i + 1)
              have := EC0.out
              unfold inI; omega
            have hl : (Instr.lookup 41 (.map (some mb)) (.int .i64 x.tp) false).run Tryd.prog wr = .ok (.bool true) wr := by
              rcases run_look1 (P := Tryd.prog) (w := wr) Tryd.underlying41 intFit MP.out (fun p hp => by
                  rw [← List.take_length (l := RB)] at hp
                  exact endsE_ok RB1.out (by have := EC1.out; omega) RB.length p hp) (.int .i64 x.tp) (.bool false) ⟨_, hin, rfl⟩ (by kernel_rfl) with ⟨v, hv, hr⟩ | ⟨hn, _⟩
              · obtain ⟨y, _, hy⟩ := List.mem_map.1 hv
                injection hy with _ hy
                rw [← hy] at hr
                exact hr
              · exfalso
                obtain ⟨j2, hj2, he⟩ := FI.out i (by rw [HNA.out]; exact hlt)
                obtain ⟨y, hy⟩ : ∃ y, RB[j2]? = some y := ⟨_, List.getElem?_eq_getElem (by have := RBL.out; have := HNB.out; omega)⟩
                refine hn (.int .i64 y.tp, .bool true) (List.mem_map.2 ⟨y, List.mem_of_getElem? hy, rfl⟩) ?_
                rw [RB1.out.2 j2 y hy, he, ← RA1.out.2 i x hget]
            obtain ⟨z, hz⟩ : ∃ z, x.tp = z := ⟨_, rfl⟩
            rw [hz] at cx hl
            clear hget hz hin
            go_wp2_with fail
            go_roundw
            case rel => exact ⟨i + 1, by go_num, hlt, trivial⟩
            case measure => simp [intOf]; omega
          · obtain rfl : i = na := by omega
            have i2 : ¬ (i : Int) < (i : Int) := by omega
            have K := Lib.hid (awake_any wr (T3.out.on E1.out))
            have XE := Lib.hid (X3.out.trans E1.out (fun _ _ h => h))
            have i3 : (i : Int) ≤ (j : Int) := by have := LF.out.1; omega
            have d2 : ((i : Int) == 0) = ((j : Int) == 0) := by
              have := LF.out.2
              by_cases h0 : i = 0
              · have h1 := this.1 h0
                subst h0; subst h1; rfl
              · have h1 : ¬ j = 0 := fun h => h0 (this.2 h)
                rw [beq_eq_false_iff_ne.2 (show (i : Int) ≠ 0 by omega), beq_eq_false_iff_ne.2 (show (j : Int) ≠ 0 by omega)]
            obtain ⟨u, hu⟩ : ∃ u, ((j : Int) == 0) = u := ⟨_, rfl⟩
            rw [hu] at d2
            clear hlt
            go_wp2_with (fail)
            all_goals first | (exfalso; omega) | skip
            refine K.out.mono ?_
            rintro e W6 ⟨rfl, hx6⟩
            have X6 := Lib.hid (XE.out.trans hx6 (fun _ _ h => h))
            clear hx6 K
            go_wp2_with fail
            go_ret
            exact ⟨rfl, X6.out⟩
end Go.Proofs.YtjffafcagklpiaaDoor.Cut
