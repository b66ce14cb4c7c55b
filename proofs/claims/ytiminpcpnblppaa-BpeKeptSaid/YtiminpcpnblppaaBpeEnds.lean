/- law10.BpeEnds. -/
import Derived.Test.YtiminpcpnblppaaKnown10
import Derived.Test.YtiminpcpnblppaaCame
import Derived.Deep.RegionHeld3
namespace Go.Proofs.Ytiminpcpnblppaa.Bpe
open Go.RowKit Go.Proofs.Ytiminpcpnblppaa.Lib Go.Proofs.Ytiminpcpnblppaa.Sl Go.Proofs.Ytiminpcpnblppaa.Chain
set_option linter.unusedVariables false
set_option linter.unusedSimpArgs false

theorem wordI_any {w : World} {a : Nat} {d : Dat} (h : IsModel w a d) (hd : RightD d) (id : Int) :
    Calls Try.prog 20 #[.pointer (some ⟨a, 0, none⟩), .int .i64 id] w fun e w' => e = .returned (.tuple #[.string (wordOf d.ws id).1, .bool (okId d id)]) ∧ Ext (fun _ => False) w w' := by
  obtain ⟨L, tp, mp, q0, q1, q2, d0, d1, d2, hM⟩ := h
  have := word_any w a L.p0 L.c0 d.ws id hM.blk.c0 hM.rd.r0 (by have := hM.rd.b0; omega)
  rwa [word_ok hd] at this
/-- The head of a law of chapter 10: the ids of a text's bytes, merged. -/
theorem merge_few {w : World} {m : Nat} {d : Dat} (hm : IsModel w m d) (hd : RightD d) (s : ByteArray) (n : Nat) (hn : n ≤ 1048576) :
    Calls Try.prog 19 #[.pointer (some ⟨m, 0, none⟩), .string (fewB s n)] w fun e w' => JoinedEnd w (joinT d.ms (bytesL (fewB s n))).1 0 e w' := by
  have := mergeB_any hm hd (fewB s n)
  have hs := fewB_size s n
  have e : mergeT d (fewB s n) = ((joinT d.ms (bytesL (fewB s n))).1, 0) := if_neg (by omega)
  rwa [e] at this
/-- A text that grows by a word. -/
structure CatSt (d : Dat) (l : List Int) (k : Nat) (acc : ByteArray) : Prop where
  kl : k ≤ l.length
  eq : acc.data.toList = cat d (l.take k)
theorem CatSt.step {d : Dat} {l : List Int} {k : Nat} {acc : ByteArray} (h : CatSt d l k acc) {x : Int} (hx : l[k]? = some x) : CatSt d l (k + 1) (acc ++ (wordOf d.ws x).1) := by
  refine ⟨(List.getElem?_eq_some_iff.1 hx).1, ?_⟩
  rw [ba_list, h.eq, List.take_add_one, hx, cat_append]
  show _ = _ ++ (wb d x ++ [])
  rw [List.append_nil]
  rfl
theorem CatSt.size {d : Dat} {l : List Int} {k : Nat} {acc : ByteArray} (h : CatSt d l k acc) : acc.size ≤ (cat d l).length := by
  rw [← ba_size, h.eq]
  have := cat_append d (l.take k) (l.drop k)
  rw [List.take_append_drop] at this
  rw [this, List.length_append]
  omega
theorem CatSt.whole {d : Dat} {l : List Int} {acc : ByteArray} (h : CatSt d l l.length acc) {s : ByteArray} (hs : cat d l = s.data.toList) : acc = s := by
  apply ba_ext
  rw [h.eq, List.take_length, hs]
set_option maxRecDepth 100000 in
set_option maxHeartbeats 16000000 in
theorem bpeends_any (w : World) (L : Pl) (d : Dat) (h : DR w L d) (s : ByteArray) (hs0 : s.size ≤ 140737488351232) :
    Calls Try.prog 4 #[.agg #[.slice L.p0 d.ws.length L.c0, .slice L.p1 d.ms.length L.c1, .slice L.p2 d.ls.length L.c2, .slice L.p3 d.ns.length L.c3, .slice L.p4 d.ss.length L.c4], .string s] w fun e w' => e = .returned (.bool true) ∧ Ext (fun _ => False) w w' := by
  have hb : (w.alloc (.cells (dataCells L d) 26)).heap[w.heap.size]? = _ := heap_alloc_new w _
  have X0 := Lib.hid ((Ext.refl (fun _ => False) w).alloc (.cells (dataCells L d) 26))
  have C := Lib.hid (of5_any _ L d (h.on X0.out))
  have R := Lib.hid h
  clear hb h
  go_enter Try.func4, Try.ntmps4
  go_wp2_with fail
  refine C.out.mono ?_
  rintro e W ⟨hx, h⟩
  have X := Lib.hid (X0.out.trans hx (fun _ _ h => h))
  clear hx C
  rcases h with ⟨hg, rfl⟩ | ⟨hg, a, rfl, hm, hwa⟩
  · have K := Lib.hid (known10_any W)
    clear hg
    go_wp2_with fail
    refine K.out.mono ?_
    rintro e W2 ⟨rfl, hx2⟩
    have X2 := Lib.hid (X.out.trans hx2 (fun _ _ h => h))
    clear hx2
    go_wp2_with fail
    go_ret
    exact ⟨rfl, X2.out⟩
  · have D := Lib.hid (RightD.of_good hg)
    have M := Lib.hid hm
    clear hg hm
    go_wp2_with fail
    refine (few_any W s 3000 (by decide)).mono ?_
    rintro e W' ⟨rfl, rfl⟩
    have MF := Lib.hid (merge_few M.out D.out s 3000 (by decide))
    have FZ := Lib.hid (fewB_size s 3000)
    obtain ⟨t, ht⟩ : ∃ t, fewB s 3000 = t := ⟨_, rfl⟩
    rw [ht] at MF FZ ⊢
    clear ht hs0
    have CT := Lib.hid (show cat d (joinT d.ms (bytesL t)).1 = t.data.toList from by rw [join_cat D.out, cat_bytes])
    have OK := Lib.hid (join_ok D.out (bytesL t) (bytes_ok d))
    have NX := Lib.hid (join_end d.ms (bytesL t))
    have LE := Lib.hid (show (joinT d.ms (bytesL t)).1.length ≤ 3000 from by have := join_le d.ms (bytesL t); rw [bytesL_length] at this; have := FZ.out; omega)
    obtain ⟨l, hl⟩ : ∃ l, (joinT d.ms (bytesL t)).1 = l := ⟨_, rfl⟩
    rw [hl] at MF CT OK NX LE
    clear hl
    go_wp2_with fail
    refine MF.out.mono ?_
    rintro e W1 ⟨p, c, rfl, hA, hx1, _⟩
    have X1 := Lib.hid (X.out.trans hx1 (fun _ _ h => h))
    have M1 := Lib.hid (M.out.on hx1)
    have Q := Lib.hid (ints_rd hA)
    clear hA hx1 MF M
    go_wp2_with fail
    go_loopw [10, 11] (fun v i wr => ∃ (k : Nat) (acc : ByteArray), i = .int .i64 k ∧ v = .string acc ∧ CatSt d l k acc ∧ Ext (fun _ => False) W1 wr) (fun _ i _ => l.length - (intOf i).toNat)
    case atStart => exact ⟨0, ⟨#[]⟩, rfl, rfl, ⟨Nat.zero_le _, rfl⟩, Ext.refl _ _⟩
    case round =>
      obtain ⟨k, acc, rfl, rfl, hst, hx⟩ := hrel
      have ST := Lib.hid hst
      have EX := Lib.hid hx
      have hk := hst.kl
      have hsz := hst.size
      have hle := LE.out
      have hsz2 : acc.size ≤ 3000 := by have := FZ.out; rw [CT.out, ba_size] at hsz; omega
      clear hst hx hsz
      by_cases hlt : k < l.length
      · have i1 : (k : Int) < (l.length : Int) := by omega
        obtain ⟨x, hx⟩ : ∃ x, l[k]? = some x := ⟨_, List.getElem?_eq_getElem hlt⟩
        obtain ⟨b, o, hp, hb, cx⟩ := (Q.out.on EX.out).cellI hx
        have HX := Lib.hid hx
        have OX := Lib.hid (OK.out x (List.mem_of_getElem? hx))
        have WI := Lib.hid (show Calls Try.prog 20 #[.pointer (some ⟨a, 0, none⟩), .int .i64 x] wr fun e w' => e = .returned (.tuple #[.string (wordOf d.ws x).1, .bool true]) ∧ Ext (fun _ => False) wr w' from by
          have := wordI_any (M1.out.on EX.out) D.out x
          rwa [OX.out] at this)
        have S1 := Lib.hid (ST.out.step hx)
        have hwl : (wordOf d.ws x).1.size ≤ 256 := by have := wb_le D.out x; unfold wb at this; rwa [ba_size] at this
        obtain ⟨wd, hwd⟩ : ∃ wd, (wordOf d.ws x).1 = wd := ⟨_, rfl⟩
        rw [hwd] at WI S1 hwl
        clear hx hwd
        rw [hp]
        go_wp2_with fail
        refine WI.out.mono ?_
        rintro e W2 ⟨rfl, hx2⟩
        have E2 := Lib.hid (EX.out.trans hx2 (fun _ _ h => h))
        have cx2 := (hx2.cell (p := ⟨b, o + k, none⟩) hb (fun h => h)).trans cx
        have hb2 : b < W2.heap.size := Nat.lt_of_lt_of_le hb hx2.size
        clear hx2 cx hb
        cases k with
        | zero =>
          have d0 : decide ((((0 : Nat) : Int)) > 0) = false := by decide
          simp only [Nat.add_zero] at cx2
          go_wp2_with fail
          go_roundw
          case rel => exact ⟨1, acc ++ wd, rfl, rfl, S1.out, E2.out⟩
          case measure => simp [intOf]; omega
        | succ j =>
          obtain ⟨y, hy⟩ : ∃ y, l[j]? = some y := ⟨_, List.getElem?_eq_getElem (by omega)⟩
          obtain ⟨b', o', hp', hb', cy⟩ := (Q.out.on E2.out).cellI hy
          rw [hp] at hp'
          injection hp' with hp'
          injection hp' with hp3 hp4
          subst hp3 hp4
          have MN := Lib.hid (show mergeV d.ms y x = .tuple #[.int .i64 0, .int .i64 0, .bool false] from by
            unfold mergeV
            cases e : mergeOf d.ms y x with
            | none => rfl
            | some t => exact absurd ⟨y, x, hy, HX.out, e⟩ (nextT_none NX.out j t.1 t.2))
          have d0 : decide (((j : Int) + 1) > 0) = true := decide_eq_true (by omega)
          have d0' : decide (0 < j + 1) = true := decide_eq_true (by omega)
          have hw : IntKind.i64.wrap ((j : Int) + 1 - 1) = (j : Int) := by rw [show (j : Int) + 1 - 1 = (j : Int) by omega]; exact IntWalk.i64_in _ (by omega)
          have hw2 : IntKind.i64.wrap (j : Int) = (j : Int) := IntWalk.i64_in _ (by omega)
          have m1 : (j : Int) < (l.length : Int) := by omega
          have m0 : (0 : Int) ≤ (j : Int) := by omega
          have m2 : (0 : Int) ≤ (j : Int) + 1 := by omega
          have i2 : (j : Int) + 1 < (l.length : Int) := by omega
          have CE := Lib.hid (show ∀ w', Ext (fun _ => False) W2 w' → (w'.cell? ⟨b, o + j, none⟩ = some (.int .i64 y) ∧ w'.cell? ⟨b, o + (j + 1), none⟩ = some (.int .i64 x)) ∧ Ext (fun _ => False) W2 w' from fun w' e =>
            ⟨⟨(e.cell (p := ⟨b, o + j, none⟩) hb2 (fun h => h)).trans cy, (e.cell (p := ⟨b, o + (j + 1), none⟩) hb2 (fun h => h)).trans cx2⟩, e⟩)
          have D0 := Lib.hid (show Ext (fun _ => False) W2 W2.drew from Ext.drew (Ext.refl _ _))
          have ME := Lib.hid (merge_any (M1.out.on (E2.out.trans D0.out (fun _ _ h => h))) D.out.pn y x)
          clear hy cy cx2
          go_wp2_with fail
          go_region_held3 (fun w' => (w'.cell? ⟨b, o + j, none⟩ = some (.int .i64 y) ∧ w'.cell? ⟨b, o + (j + 1), none⟩ = some (.int .i64 x)) ∧ Ext (fun _ => False) W2 w')
            (first | exact CE.out _ (by assumption) | exact CE.out _ D0.out)
            ((go_at_call 21; (with_reducible refine ME.out.mono ?_); rw [MN.out]; rintro e w1 ⟨rfl, x1⟩; have E1 := D0.out.trans x1 (fun _ _ h => h)))
          have E3 := Lib.hid (E2.out.trans E1 (fun _ _ h => h))
          go_wp2_with fail
          go_roundw
          case rel => exact ⟨j + 1 + 1, acc ++ wd, by go_num, rfl, S1.out, E3.out⟩
          case measure => simp [intOf]; omega
      · have i1 : ¬ ((k : Int) < (l.length : Int)) := by omega
        obtain rfl : k = l.length := by omega
        have hacc : acc = t := ST.out.whole CT.out
        subst hacc
        have JO := Lib.hid (show Calls Try.prog 13 #[.pointer (some ⟨a, 0, none⟩), .slice p l.length c] wr fun e w' => JoinedEnd wr l 0 e w' from by
          have := joined_any (M1.out.on EX.out) D.out (Q.out.on EX.out) (c := c)
          have e : joinedT d l = (l, 0) := by
            unfold joinedT
            rw [if_neg (by omega), if_pos (List.all_eq_true.2 OK.out), joinT_none NX.out]
          rwa [e] at this)
        clear hlt
        go_wp2_with fail
        refine JO.out.mono ?_
        rintro e W3 ⟨p3, c3, rfl, hA3, hx3, _⟩
        have E3 := Lib.hid (EX.out.trans hx3 (fun _ _ h => h))
        have Q3 := Lib.hid (ints_rd hA3)
        clear hA3 hx3 JO
        go_wp2_with fail
        refine (sameI_any W3 p3 p c3 c l l Q3.out (Q.out.on E3.out) (by omega)).mono ?_
        rintro e W4 ⟨rfl, hx4⟩
        have E4 := Lib.hid (E3.out.trans hx4 (fun _ _ h => h))
        rw [decide_eq_true (rfl : l = l)]
        clear hx4
        go_wp2_with fail
        refine (known10_any W4).mono ?_
        rintro e W7 ⟨rfl, hx8⟩
        have E9 := Lib.hid (X1.out.trans (E4.out.trans hx8 (fun _ _ h => h)) (fun _ _ h => h))
        clear hx8
        go_wp2_with fail
        go_ret
        exact ⟨rfl, E9.out⟩
end Go.Proofs.Ytiminpcpnblppaa.Bpe
