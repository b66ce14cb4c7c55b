/- tally.Count, walked. -/
import Derived.Test.YtigpaaelggnffaaGreatDoorTallyCnt
import Derived.Test.YtigpaaelggnffaaGreatDoorEncP
namespace Go.Proofs.YtigpaaelggnffaaGreatDoor.Ty
open Go.RowKit Go.Proofs.YtigpaaelggnffaaGreatDoor.Lib Go.Proofs.YtigpaaelggnffaaGreatDoor.Sl Go.Proofs.YtigpaaelggnffaaGreatDoor.Bpe Go.Proofs.YtigpaaelggnffaaGreatDoor.Cut
set_option linter.unusedVariables false
set_option linter.unusedSimpArgs false

def sumSz (l : List ByteArray) : Nat := (l.map fun s => s.size).sum
theorem sumSz_snoc {l : List ByteArray} {k : Nat} {x : ByteArray} (h : l[k]? = some x) : sumSz (l.take (k + 1)) = sumSz (l.take k) + x.size := by
  unfold sumSz
  rw [List.take_add_one, h]
  simp
theorem sumSz_le (l : List ByteArray) (k : Nat) : sumSz (l.take k) ≤ sumSz l := by
  have := congrArg sumSz (List.take_append_drop k l)
  unfold sumSz at *
  rw [List.map_append, List.sum_append] at this
  omega
theorem size_le_sum : ∀ {l : List ByteArray} {x : ByteArray}, x ∈ l → x.size ≤ sumSz l
  | [], _, h => by cases h
  | y :: l, x, h => by
    have e : sumSz (y :: l) = y.size + sumSz l := rfl
    rcases List.mem_cons.1 h with rfl | h
    · omega
    · have := size_le_sum h; omega
/-- All ids of texts, one behind the other. -/
def idsAll (d : Dat) (most : Int) (l : List ByteArray) : List Int := l.flatMap fun s => (encT d most s).1
theorem idsAll_snoc (d : Dat) (most : Int) {l : List ByteArray} {k : Nat} {x : ByteArray} (h : l[k]? = some x) : idsAll d most (l.take (k + 1)) = idsAll d most (l.take k) ++ (encT d most x).1 := by
  unfold idsAll
  rw [List.take_add_one, h]
  simp
/-- What Count answers where all is well. -/
def CountEnd (w : World) (R : List TRow) (e : Ending) (w' : World) : Prop :=
  ∃ p c, e = .returned (.tuple #[.slice p R.length c, .int .i64 0]) ∧ Arr w' 45 2 p R.length c (flat eTR R) ∧ Ext (fun _ => False) w w' ∧ ∀ k, blkOf p = some k → w.heap.size ≤ k
/-- What it refuses. -/
def CountNo (w : World) (why : Int) (e : Ending) (w' : World) : Prop := e = .returned (.tuple #[.slice none 0 0, .int .i64 why]) ∧ Ext (fun _ => False) w w'
set_option maxRecDepth 100000 in
set_option maxHeartbeats 4000000 in
theorem count_bad (w : World) (pm : Option Addr) (most : Int) (h : pm = none ∨ most < 1 ∨ 65536 < most) (p : Option Addr) (c : Nat) (l : List ByteArray) (hl : Rd eS w p l) (hn : l.length ≤ 281474976710656) (hs : ∀ x ∈ l, x.size ≤ 140737488351232) :
    Calls Tryz.prog 14 #[.pointer pm, .int .i64 most, .slice p l.length c] w fun e w' => CountNo w 1 e w' := by
  have EB := Lib.hid (fun W => encode_bad W pm most ⟨#[]⟩ h)
  have HL := Lib.hid hl
  have HS := Lib.hid hs
  clear h hl hs
  go_enter Tryz.func14, Tryz.ntmps14
  go_wp2_with fail
  go_loopw [8, 27] (fun vb vk wr => ∃ k : Nat, vb = .int .i64 (sumSz (l.take k) : Nat) ∧ vk = .int .i64 k ∧ k ≤ l.length ∧ sumSz (l.take k) ≤ 1048576 ∧ wr = w) (fun _ vk _ => l.length - (intOf vk).toNat)
  case atStart => exact ⟨0, rfl, rfl, Nat.zero_le _, Nat.zero_le _, rfl⟩
  case round =>
    obtain ⟨k, rfl, rfl, hk, hsum, rfl⟩ := hrel
    by_cases hlt : k < l.length
    · have i1 : (k : Int) < (l.length : Int) := by omega
      obtain ⟨x, hget⟩ : ∃ x, l[k]? = some x := ⟨_, List.getElem?_eq_getElem hlt⟩
      obtain ⟨b, o, rfl, hb, c0⟩ := HL.out.cellS hget
      have hx := HS.out x (List.mem_of_getElem? hget)
      have SN := Lib.hid (sumSz_snoc hget)
      obtain ⟨S, hS⟩ : ∃ S, sumSz (l.take k) = S := ⟨_, rfl⟩
      rw [hS] at hsum SN
      rw [hS]
      clear hget hS
      by_cases hov : S + x.size ≤ 1048576
      · have i2 : ¬ (S : Int) + (x.size : Int) > 1048576 := by omega
        go_wp2_with fail
        go_roundw
        case rel => exact ⟨k + 1, by rw [SN.out]; go_num, by go_num, hlt, by rw [SN.out]; exact hov, trivial⟩
        case measure => simp [intOf]; omega
      · have i2 : (S : Int) + (x.size : Int) > 1048576 := by omega
        go_wp2_with fail
        refine (EB.out _).mono ?_
        rintro e w1 ⟨rfl, hx1⟩
        have X1 := Lib.hid hx1
        clear hx1
        go_wp2_with fail
        refine bodyPost_ret (v := .tuple #[.slice none 0 0, .int .i64 1]) (by simp [results, Tryz.f14, go_sem]) rfl ?_
        exact ⟨rfl, X1.out⟩
    · obtain rfl : k = l.length := by omega
      have i1 : ¬ ((l.length : Int) < (l.length : Int)) := by omega
      obtain ⟨S, hS⟩ : ∃ S, sumSz (l.take l.length) = S := ⟨_, rfl⟩
      rw [hS]
      clear hS hsum
      go_wp2_with fail
      refine (EB.out _).mono ?_
      rintro e w1 ⟨rfl, hx1⟩
      have X1 := Lib.hid hx1
      clear hx1
      go_wp2_with fail
      refine bodyPost_ret (v := .tuple #[.slice none 0 0, .int .i64 1]) (by simp [results, Tryz.f14, go_sem]) rfl ?_
      exact ⟨rfl, X1.out⟩
theorem toks_le_ids {d : Dat} (hd : RightD d) (most : Int) (s : ByteArray) (hs : s.size ≤ 1048576) : (encT d most s).1.length ≤ s.size := by
  have h1 := cat_pos hd (encT_ok hd most s)
  have h2 := encT_cat hd most s
  omega
theorem idsAll_len {d : Dat} (hd : RightD d) (most : Int) : ∀ (l : List ByteArray), sumSz l ≤ 1048576 → (idsAll d most l).length ≤ sumSz l
  | [], _ => Nat.le_refl _
  | x :: l, h => by
    have e : sumSz (x :: l) = x.size + sumSz l := rfl
    have h1 := toks_le_ids hd most x (by omega)
    have h2 := idsAll_len hd most l (by omega)
    have e2 : idsAll d most (x :: l) = (encT d most x).1 ++ idsAll d most l := rfl
    rw [e2, List.length_append]
    omega
theorem idsAll_in {d : Dat} (hd : RightD d) (most : Int) (l : List ByteArray) : ∀ x ∈ idsAll d most l, okId d x = true := fun x hx => by
  obtain ⟨s, _, h⟩ := List.mem_flatMap.1 hx
  exact encT_ok hd most s x h
theorem okId_inI {d : Dat} (hd : RightD d) {x : Int} (h : okId d x = true) : inI x := by
  have := hd.few
  have := hd.len
  unfold okId at h
  unfold inI
  simp at h
  omega
/-- What the loop over the entries knows. -/
structure RgSt (w W : World) (R V : List TRow) (mb rb : Nat) (p : Option Addr) (c : Nat) (L : List TRow) : Prop where
  perm : (V ++ L).Perm R
  rng : Rng W mb rb (entsR R) (entsR L)
  arr : Arr W 45 2 p V.length c (flat eTR V)
  ext : Ext (fun _ => False) w W
  fr : ∀ k, blkOf p = some k → w.heap.size ≤ k ∧ k ≠ mb ∧ k ≠ rb
  big : w.heap.size ≤ mb ∧ w.heap.size ≤ rb ∧ mb ≠ rb ∧ mb < W.heap.size ∧ rb < W.heap.size
def lenV : Value → Nat
  | .slice _ n _ => n
  | _ => 0
set_option maxRecDepth 100000 in
set_option maxHeartbeats 4000000 in
theorem count_long {w : World} {m : Nat} {d : Dat} (hm : IsCut w m d) (hd : RightD d) (hT : Tabs w) (most : Int) (hm1 : 1 ≤ most) (hm2 : most ≤ 65536) (p : Option Addr) (c : Nat) (l : List ByteArray) (hl : Rd eS w p l) (hn : l.length ≤ 281474976710656) (hs : ∀ x ∈ l, x.size ≤ 140737488351232) (hlong : 1048576 < sumSz l) :
    Calls Tryz.prog 14 #[.pointer (some ⟨m, 0, none⟩), .int .i64 most, .slice p l.length c] w fun e w' => CountNo w 3 e w' := by
  have EB := Lib.hid (encode_any hm hd hT most hm1 hm2 ⟨#[]⟩ (by decide))
  have HL := Lib.hid hl
  have HS := Lib.hid hs
  clear hm hd hT hl hs
  go_enter Tryz.func14, Tryz.ntmps14
  go_wp2_with fail
  go_loopw [8, 27] (fun vb vk wr => ∃ k : Nat, vb = .int .i64 (sumSz (l.take k) : Nat) ∧ vk = .int .i64 k ∧ k ≤ l.length ∧ sumSz (l.take k) ≤ 1048576 ∧ wr = w) (fun _ vk _ => l.length - (intOf vk).toNat)
  case atStart => exact ⟨0, rfl, rfl, Nat.zero_le _, Nat.zero_le _, rfl⟩
  case round =>
    obtain ⟨k, rfl, rfl, hk, hsum, rfl⟩ := hrel
    by_cases hlt : k < l.length
    · have i1 : (k : Int) < (l.length : Int) := by omega
      obtain ⟨x, hget⟩ : ∃ x, l[k]? = some x := ⟨_, List.getElem?_eq_getElem hlt⟩
      obtain ⟨b, o, rfl, hb, c0⟩ := HL.out.cellS hget
      have hx := HS.out x (List.mem_of_getElem? hget)
      have SN := Lib.hid (sumSz_snoc hget)
      obtain ⟨S, hS⟩ : ∃ S, sumSz (l.take k) = S := ⟨_, rfl⟩
      rw [hS] at hsum SN
      rw [hS]
      clear hget hS
      by_cases hov : S + x.size ≤ 1048576
      · have i2 : ¬ (S : Int) + (x.size : Int) > 1048576 := by omega
        go_wp2_with fail
        go_roundw
        case rel => exact ⟨k + 1, by rw [SN.out]; go_num, by go_num, hlt, by rw [SN.out]; exact hov, trivial⟩
        case measure => simp [intOf]; omega
      · have i2 : (S : Int) + (x.size : Int) > 1048576 := by omega
        go_wp2_with fail
        refine EB.out.mono ?_
        rintro e w1 ⟨q, cq, rfl, _, hx1, _⟩
        have X1 := Lib.hid hx1
        clear hx1
        go_wp2_with fail
        refine bodyPost_ret (v := .tuple #[.slice none 0 0, .int .i64 3]) (by simp [results, Tryz.f14, go_sem]) rfl ?_
        exact ⟨rfl, X1.out⟩
    · obtain rfl : k = l.length := by omega
      rw [List.take_length] at hsum
      omega
theorem encode_st {w : World} {m : Nat} {d : Dat} (hm : IsCut w m d) (hd : RightD d) (hT : Tabs w) (most : Int) (hm1 : 1 ≤ most) (hm2 : most ≤ 65536) (s : ByteArray) (hs : s.size ≤ 1048576) :
    Calls Tryz.prog 37 #[.pointer (some ⟨m, 0, none⟩), .int .i64 most, .string s] w fun e w' => ∃ st, EncEnd w (encT d most s).1 st e w' :=
  (encode_any hm hd hT most hm1 hm2 s hs).mono fun _ _ h => ⟨_, h⟩
set_option maxRecDepth 100000 in
set_option maxHeartbeats 16000000 in
theorem count_any {w : World} {m : Nat} {d : Dat} (hm : IsCut w m d) (hd : RightD d) (hT : Tabs w) (most : Int) (hm1 : 1 ≤ most) (hm2 : most ≤ 65536) (p : Option Addr) (c : Nat) (l : List ByteArray) (hl : Rd eS w p l) (hsum : sumSz l ≤ 1048576) (hn : l.length ≤ 281474976710656) :
    Calls Tryz.prog 14 #[.pointer (some ⟨m, 0, none⟩), .int .i64 most, .slice p l.length c] w fun e w' => CountEnd w (countR (idsAll d most l)) e w' := by
  have EB := Lib.hid (encode_st hm hd hT most hm1 hm2 ⟨#[]⟩ (by decide))
  have EN := Lib.hid (fun (W : World) (hx : Ext (fun _ => False) w W) (s : ByteArray) (hs : s.size ≤ 1048576) => encode_st (hm.on hx) hd (hT.on hx) most hm1 hm2 s hs)
  have IL := Lib.hid (idsAll_len hd most l hsum)
  have II := Lib.hid (fun x hx => okId_inI hd (idsAll_in hd most l x hx))
  have TL := Lib.hid (fun s hs => toks_le_ids hd most s hs)
  have HL := Lib.hid hl
  have SM := Lib.hid hsum
  clear hm hd hT hl
  go_enter Tryz.func14, Tryz.ntmps14
  go_wp2_with fail
  go_loopw [8, 27] (fun vb vk wr => ∃ k : Nat, vb = .int .i64 (sumSz (l.take k) : Nat) ∧ vk = .int .i64 k ∧ k ≤ l.length ∧ wr = w) (fun _ vk _ => l.length - (intOf vk).toNat)
  case atStart => exact ⟨0, rfl, rfl, Nat.zero_le _, rfl⟩
  case round =>
    obtain ⟨k, rfl, rfl, hk, rfl⟩ := hrel
    have hle := sumSz_le l k
    by_cases hlt : k < l.length
    · have i1 : (k : Int) < (l.length : Int) := by omega
      obtain ⟨x, hget⟩ : ∃ x, l[k]? = some x := ⟨_, List.getElem?_eq_getElem hlt⟩
      obtain ⟨b, o, rfl, hb, c0⟩ := HL.out.cellS hget
      have hsn := sumSz_snoc hget
      have hle2 := sumSz_le l (k + 1)
      have SN := Lib.hid hsn
      obtain ⟨S, hS⟩ : ∃ S, sumSz (l.take k) = S := ⟨_, rfl⟩
      rw [hS] at SN hle hsn
      rw [hS]
      have i2 : ¬ (S : Int) + (x.size : Int) > 1048576 := by omega
      have i3 : S + x.size ≤ 1048576 := by omega
      clear hget hS hsn hle2
      go_wp2_with fail
      go_roundw
      case rel => exact ⟨k + 1, by rw [SN.out]; go_num, by go_num, hlt, trivial⟩
      case measure => simp [intOf]; omega
    · obtain rfl : k = l.length := by omega
      have i1 : ¬ ((l.length : Int) < (l.length : Int)) := by omega
      obtain ⟨S, hS⟩ : ∃ S, sumSz (l.take l.length) = S := ⟨_, rfl⟩
      rw [hS] at hle
      rw [hS]
      have i2 : ¬ (S : Int) > 1048576 := by omega
      clear hS
      go_wp2_with fail
      refine EB.out.mono ?_
      rintro e w1 ⟨st, q, cq, rfl, _, hx1, _⟩
      have X1 := Lib.hid hx1
      clear hx1 EB
      have hmm := @run_makeMap Tryz.prog
      go_upto_region 14 with (fail)
      obtain ⟨mb, hmb⟩ : ∃ mb, w1.heap.size = mb := ⟨_, rfl⟩
      obtain ⟨W2, hW2⟩ : ∃ W2, w1.alloc (.map #[] 0) = W2 := ⟨_, rfl⟩
      have ST0 := Lib.hid (show Ext (fun _ => False) wr W2 ∧ MapS W2 mb [] ∧ wr.heap.size ≤ mb from by rw [← hW2, ← hmb]; exact ⟨X1.out.alloc _, MapS.new w1, X1.out.size⟩)
      try rw [hW2]
      try rw [hmb]
      clear hW2 hmb hmm
      go_wp2_with fail
      obtain ⟨w0, hw0⟩ : ∃ w0, w0 = wr := ⟨_, rfl⟩
      subst hw0
      go_loopw [53] (fun vk wr2 => ∃ k : Nat, vk = .int .i64 k ∧ k ≤ l.length ∧ MapS wr2 mb (entsR (rowsOf (idsAll d most (l.take k)))) ∧ Ext (fun j => j = mb) W2 wr2) (fun vk _ => l.length - (intOf vk).toNat)
      case atStart => exact ⟨0, rfl, Nat.zero_le _, ST0.out.2.1, Ext.refl _ _⟩
      case round =>
        obtain ⟨k, rfl, hk2, hmap, hx⟩ := hrel
        have MP := Lib.hid hmap
        have EX := Lib.hid hx
        have E1 := Lib.hid (show Ext (fun _ => False) w0 wr from ST0.out.1.trans hx (fun i hi e => by have := ST0.out.2.2; omega))
        clear hmap hx
        by_cases hlt2 : k < l.length
        · have i3 : (k : Int) < (l.length : Int) := by omega
          obtain ⟨x, hget⟩ : ∃ x, l[k]? = some x := ⟨_, List.getElem?_eq_getElem hlt2⟩
          obtain ⟨b, o, hp, hb, c0⟩ := (HL.out.on E1.out).cellS hget
          subst hp
          have hxs : x.size ≤ 1048576 := by have := size_le_sum (List.mem_of_getElem? hget); omega
          have EK := Lib.hid (EN.out wr E1.out x hxs)
          have SN := Lib.hid (idsAll_snoc d most hget)
          have LL := Lib.hid (TL.out x hxs)
          have SUB := Lib.hid (show ∀ y ∈ idsAll d most (l.take (k + 1)), inI y from fun y hy => II.out y (by
            obtain ⟨s, hs, h⟩ := List.mem_flatMap.1 hy
            exact List.mem_flatMap.2 ⟨s, List.mem_of_mem_take hs, h⟩))
          have LEN := Lib.hid (show (idsAll d most (l.take (k + 1))).length ≤ 1048576 from by
            have h1 : idsAll d most l = idsAll d most (l.take (k + 1)) ++ idsAll d most (l.drop (k + 1)) := by
              unfold idsAll
              rw [← List.flatMap_append, List.take_append_drop]
            have := IL.out
            rw [h1, List.length_append] at this
            have := SM.out
            omega)
          obtain ⟨pre, hpre⟩ : ∃ pre, idsAll d most (l.take k) = pre := ⟨_, rfl⟩
          obtain ⟨xs, hxs2⟩ : ∃ xs, (encT d most x).1 = xs := ⟨_, rfl⟩
          rw [hpre] at MP SN
          rw [hxs2] at EK SN LL
          rw [SN.out] at SUB LEN
          have hxl : xs.length ≤ 1048576 := by have := LL.out; omega
          clear hget hpre hxs2
          go_wp2_with fail
          refine EK.out.mono ?_
          rintro e W3 ⟨st3, q3, c3, rfl, hA3, hx3, hf3⟩
          have A3 := Lib.hid hA3
          have E3 := Lib.hid (E1.out.trans hx3 (fun _ _ h => h))
          have M3 := Lib.hid (MP.out.ext hx3 (fun h => h))
          have X3 := Lib.hid (EX.out.trans hx3 (fun _ _ h => h.elim))
          have F3 := Lib.hid (show ∀ b, blkOf q3 = some b → b ≠ mb from fun b hb e => by have := hf3 b hb; have := MP.out.lt; omega)
          clear hA3 hx3 hf3 EK
          go_wp2_with fail
          go_loopw [67] (fun vj wr3 => ∃ j : Nat, vj = .int .i64 j ∧ j ≤ xs.length ∧ MapS wr3 mb (entsR (rowsOf (pre ++ xs.take j))) ∧ Ext (fun j => j = mb) W2 wr3 ∧ Arr wr3 3 1 q3 xs.length c3 (ints xs)) (fun vj _ => xs.length - (intOf vj).toNat)
          case atStart => exact ⟨0, rfl, Nat.zero_le _, by rw [List.take_zero, List.append_nil]; exact M3.out, X3.out, A3.out⟩
          case round =>
            obtain ⟨j, rfl, hj, hmj, hxj, haj⟩ := hrel
            have MJ := Lib.hid hmj
            have XJ := Lib.hid hxj
            have AJ := Lib.hid haj
            by_cases hlt3 : j < xs.length
            · have i4 : (j : Int) < (xs.length : Int) := by omega
              obtain ⟨y, hgy⟩ : ∃ y, xs[j]? = some y := ⟨_, List.getElem?_eq_getElem hlt3⟩
              obtain ⟨b3, o3, hp3, hb3, c3'⟩ := (ints_rd haj).cellI hgy
              have hCN := rowsOf_counts (pre ++ xs.take j)
              have hy : inI y := SUB.out y (List.mem_append_right _ (List.mem_of_getElem? hgy))
              obtain ⟨v, w4, hlook, hput, hx4, hm4, hv⟩ := bump_step hmj hCN.nodup (fun r hr => SUB.out _ (by
                have := (hCN.mem r.id).1 (List.mem_map.2 ⟨r, hr, rfl⟩)
                rcases List.mem_append.1 this with h | h
                · exact List.mem_append_left _ h
                · exact List.mem_append_right _ (List.mem_of_mem_take h))) hy
              have hv0 : 0 ≤ v ∧ v ≤ 1048576 := by
                rcases hv with rfl | ⟨r, hr, rfl⟩
                · omega
                · have h1 := rows_pos hCN r hr
                  have h2 := LEN.out
                  rw [List.length_append] at h1 h2
                  have : (xs.take j).length ≤ xs.length := by rw [List.length_take]; omega
                  omega
              have M4 := Lib.hid (show MapS w4 mb (entsR (rowsOf (pre ++ xs.take (j + 1)))) from by
                have e : pre ++ xs.take (j + 1) = (pre ++ xs.take j) ++ [y] := by rw [List.take_add_one, hgy]; simp
                rw [e, rowsOf_snoc]
                exact hm4)
              have X4 := Lib.hid (XJ.out.trans hx4 (fun _ _ h => h))
              have A4 := Lib.hid (arr_ext haj hx4 (fun b hb => F3.out b hb))
              obtain ⟨v1, hv1⟩ := hv0
              clear hmj hxj haj hgy hCN hy hx4 hm4 hv
              subst hp3
              go_wp2_with fail
              go_roundw
              case rel => exact ⟨j + 1, by go_num, hlt3, M4.out, X4.out, A4.out⟩
              case measure => simp [intOf]; omega
            · obtain rfl : j = xs.length := by omega
              have i4 : ¬ ((xs.length : Int) < (xs.length : Int)) := by omega
              have MK := Lib.hid (show MapS wr mb (entsR (rowsOf (idsAll d most (l.take (k + 1))))) from by rw [SN.out, ← List.take_length (l := xs)]; exact MJ.out)
              clear hmj hxj haj
              go_wp2_with fail
              go_roundw
              case rel => exact ⟨k + 1, by go_num, hlt2, MK.out, XJ.out⟩
              case measure => simp [intOf]; omega
        · obtain rfl : k = l.length := by omega
          rw [List.take_length] at MP
          have hCN := rowsOf_counts (idsAll d most l)
          obtain ⟨R, hR⟩ : ∃ R, rowsOf (idsAll d most l) = R := ⟨_, rfl⟩
          rw [hR] at MP hCN
          have HR := Lib.hid hR
          have CN := Lib.hid hCN
          have RL := rows_len hCN
          obtain ⟨io, hrun, hrng⟩ := run_rangeS (P := Tryz.prog) (w := wr) Tryz.underlying76 MP.out
          have i3 : ¬ ((l.length : Int) < (l.length : Int)) := by omega
          clear hlt2 hR hCN
          obtain ⟨rb, hrb⟩ : ∃ rb, wr.heap.size = rb := ⟨_, rfl⟩
          have hml := MP.out.lt
          rw [hrb] at hrun hrng hml
          have ST4 := Lib.hid (show RgSt w0 (wr.alloc io) R [] mb rb none 0 R from ⟨by rw [List.nil_append], hrng, arr_nil _ _ _, E1.out.alloc _, (fun k hk => by cases hk), ⟨ST0.out.2.2, by rw [← hrb]; exact E1.out.size, by omega, by rw [World.size_alloc]; omega, by rw [World.size_alloc]; omega⟩⟩)
          clear hrng hrb hml MP EX
          go_wp2_with fail
          go_loopw [22] (fun v wr4 => ∃ (V : List TRow) (p4 : Option Addr) (c4 : Nat) (L : List TRow), v = .slice p4 V.length c4 ∧ RgSt w0 wr4 R V mb rb p4 c4 L) (fun v _ => R.length - lenV v)
          case atStart => exact ⟨[], none, 0, R, rfl, ST4.out⟩
          case round =>
            obtain ⟨V, p4, c4, L, rfl, hst⟩ := hrel
            have ST5 := Lib.hid hst
            have hpl := hst.perm.length_eq
            rw [List.length_append] at hpl
            rcases run_nextS (P := Tryz.prog) hst.rng hst.big.2.2.1 0 with ⟨hL, hnext⟩ | ⟨pr, xv, po, w5, hL, hnext, hrng5, hx5, hent⟩
            · have hLn : L = [] := by
                unfold entsR at hL
                exact List.map_eq_nil_iff.1 hL
              have PV := Lib.hid (show V.Perm R from by have := hst.perm; rwa [hLn, List.append_nil] at this)
              have OC := Lib.hid (order_any wr p4 c4 V (Rd.of_arr hst.arr) (by have := IL.out; have := SM.out; have := PV.out.length_eq; omega))
              have OE := Lib.hid (show ordR V = countR (idsAll d most l) from by unfold countR; rw [HR.out]; exact ordR_of_perm PV.out)
              have OL := Lib.hid (show V.length = (countR (idsAll d most l)).length from by rw [← OE.out, ordR_length])
              clear hst hL hLn hpl
              go_wp2_with fail
              refine OC.out.mono ?_
              rintro e w6 ⟨p6, c6, rfl, hA6, hx6, hf6⟩
              have R6 := Lib.hid (show CountEnd w0 (countR (idsAll d most l)) (.returned (.tuple #[.slice p6 V.length c6, .int .i64 0])) w6 from by
                rw [OL.out]
                rw [OL.out, OE.out] at hA6
                exact ⟨p6, c6, rfl, hA6, ST5.out.ext.trans hx6 (fun _ _ h => h), fun k hk => Nat.le_trans ST5.out.ext.size (hf6 k hk)⟩)
              clear hA6 hx6 hf6 OC
              go_wp2_with fail
              refine bodyPost_ret (v := .tuple #[.slice p6 V.length c6, .int .i64 0]) (by simp [results, Tryz.f14, go_sem]) rfl ?_
              exact R6.out
            · unfold entsR at hL
              obtain ⟨P1, Q1, hLs, hp1, hq1⟩ := List.map_eq_append_iff.1 hL
              obtain ⟨r, Q2, hQs, hr1, hq2⟩ := List.map_eq_cons_iff.1 hq1
              subst hQs hLs hr1
              simp only at hnext hent
              have hE := hent w5 rfl rfl
              have RN := Lib.hid (show Rng w5 mb rb (entsR R) (entsR (P1 ++ Q2)) from by
                unfold entsR
                rw [List.map_append, hp1, hq2]
                exact hrng5)
              have X5 := Lib.hid hx5
              have BG := Lib.hid hst.big
              have A5 := Lib.hid (arr_ext hst.arr hx5 (fun k hk e => (hst.fr k hk).2.2 e))
              obtain ⟨ri, rn⟩ := r
              simp only at hnext hE
              rw [List.length_append, List.length_cons] at hpl
              have hrl : R.length ≤ 1048576 := by have := IL.out; have := SM.out; omega
              clear hst hL hp1 hq1 hq2 hent hrng5 hx5
              go_wp2_with (at_builtin; refine arr_append1 rfl (.tmp 84) (.tmp 88) 33 45 2 16 (.agg #[.int .i64 0, .int .i64 0]) rfl Tryz.underlying33 infoR rfl (by decide) (by decide) p4 V.length c4 (flat eTR V) [.int .i64 ri, .int .i64 rn] rfl _ rfl (by simp) rfl (by simp [Value.oneCell']) A5.out (by omega) ?_; intro p7 c7 w7 hA7 hx7 hm7)
              have NS := Lib.hid (show RgSt w0 w7 R (V ++ [⟨ri, rn⟩]) mb rb p7 c7 (P1 ++ Q2) from by
                have fr := ST5.out.fr
                have bg := BG.out
                refine ⟨?_, RN.out.ext hx7 (fun e => (fr _ e).2.1 rfl) (fun e => (fr _ e).2.2 rfl), ?_, (ST5.out.ext.trans X5.out (fun k hk e => by omega)).trans hx7 (fun k hk e => by have := (fr k e).1; omega), fun k hk => ?_, ⟨bg.1, bg.2.1, bg.2.2.1, ?_, ?_⟩⟩
                · refine List.Perm.trans ?_ ST5.out.perm
                  rw [List.append_assoc]
                  exact List.Perm.append_left V (List.perm_middle (a := (⟨ri, rn⟩ : TRow)) (l₁ := P1) (l₂ := Q2)).symm
                · rw [flat_append, List.length_append]
                  exact hA7
                · rcases hm7 k hk with h | h
                  · exact fr k h
                  · have := X5.out.size
                    exact ⟨by omega, by omega, by omega⟩
                · have := X5.out.size; have := hx7.size; omega
                · have := X5.out.size; have := hx7.size; omega)
              clear hA7 hx7 hm7 hnext hE
              go_roundw
              case rel => exact ⟨V ++ [⟨ri, rn⟩], p7, c7, P1 ++ Q2, by rw [List.length_append]; rfl, NS.out⟩
              case measure => simp only [lenV]; omega
end Go.Proofs.YtigpaaelggnffaaGreatDoor.Ty
