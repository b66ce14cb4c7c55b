/- The document's ids of a text, walked: tesseraref10.Merge, tesseraref14.Encode. -/
import Derived.Test.YtigpaaelggnffaaGreatDoorRef12O
import Derived.Test.YtigpaaelggnffaaGreatDoorRef10J
import Derived.Test.YtigpaaelggnffaaGreatDoorEncP
namespace Go.Proofs.YtigpaaelggnffaaGreatDoor.R2
open Go.RowKit Go.Proofs.YtigpaaelggnffaaGreatDoor.Lib Go.Proofs.YtigpaaelggnffaaGreatDoor.Sl Go.Proofs.YtigpaaelggnffaaGreatDoor.Bpe Go.Proofs.YtigpaaelggnffaaGreatDoor.Cut Go.Proofs.YtigpaaelggnffaaGreatDoorW.PrintLast
set_option linter.unusedVariables false
set_option linter.unusedSimpArgs false

def MergeREnd (w : World) (l : List Int) (e : Ending) (w' : World) : Prop :=
  ∃ p c, e = .returned (.slice p l.length c) ∧ Arr w' 3 1 p l.length c (Chain.ints l) ∧ Ext (fun _ => False) w w' ∧ ∀ k, blkOf p = some k → w.heap.size ≤ k
set_option maxRecDepth 100000 in
set_option maxHeartbeats 4000000 in
theorem merge10_any (w : World) (L : Pl) (d : Dat) (h : DR w L d) (hm : d.ms.length ≤ 1099511627776) (s : ByteArray) (hs : s.size ≤ 1048576) : Calls Tryz.prog 67 #[.agg #[.slice L.p0 d.ws.length L.c0, .slice L.p1 d.ms.length L.c1, .slice L.p2 d.ls.length L.c2, .slice L.p3 d.ns.length L.c3, .slice L.p4 d.ss.length L.c4], .string s] w fun e w' => MergeREnd w (joinT d.ms (bytesL s)).1 e w' := by
  have hb := heap_alloc_new w (.cells #[.slice L.p0 d.ws.length L.c0, .slice L.p1 d.ms.length L.c1, .slice L.p2 d.ls.length L.c2, .slice L.p3 d.ns.length L.c3, .slice L.p4 d.ss.length L.c4] 26)
  have X0 := (Ext.refl (fun _ => False) w).alloc (.cells #[.slice L.p0 d.ws.length L.c0, .slice L.p1 d.ms.length L.c1, .slice L.p2 d.ls.length L.c2, .slice L.p3 d.ns.length L.c3, .slice L.p4 d.ss.length L.c4] 26)
  have hbl := bytesL_length s
  have JC := Lib.hid (show ∀ (W : World), Ext (fun _ => False) w W → ∀ (p : Option Addr) (c : Nat), Rd eI W p (bytesL s) → Calls Tryz.prog 94 #[.agg #[.slice L.p0 d.ws.length L.c0, .slice L.p1 d.ms.length L.c1, .slice L.p2 d.ls.length L.c2, .slice L.p3 d.ns.length L.c3, .slice L.p4 d.ss.length L.c4], .slice p s.size c] W fun e w' => RJoinEnd W d (bytesL s) e w' from fun W hx p c hr => by
    have := ref10joined_any W L d p c (bytesL s) (h.on hx) hm hr (by omega)
    rwa [hbl] at this)
  have BC := Lib.hid (fun W => ref10bytes_any W s hs)
  obtain ⟨W0, hW0⟩ : ∃ W0, w.alloc (.cells #[.slice L.p0 d.ws.length L.c0, .slice L.p1 d.ms.length L.c1, .slice L.p2 d.ls.length L.c2, .slice L.p3 d.ns.length L.c3, .slice L.p4 d.ss.length L.c4] 26) = W0 := ⟨_, rfl⟩
  rw [hW0] at X0 hb
  have CD := Lib.hid (show ∀ w', Ext (fun _ => False) W0 w' → (w'.cell? ⟨w.heap.size, 0, none⟩ = some (.slice L.p0 d.ws.length L.c0) ∧ w'.cell? ⟨w.heap.size, 1, none⟩ = some (.slice L.p1 d.ms.length L.c1) ∧ w'.cell? ⟨w.heap.size, 2, none⟩ = some (.slice L.p2 d.ls.length L.c2) ∧ w'.cell? ⟨w.heap.size, 3, none⟩ = some (.slice L.p3 d.ns.length L.c3) ∧ w'.cell? ⟨w.heap.size, 4, none⟩ = some (.slice L.p4 d.ss.length L.c4)) ∧ Ext (fun _ => False) W0 w' from fun w' hx => by
    have bb := hx.obj hb (fun h => h)
    exact ⟨⟨blk_cell bb 0, blk_cell bb 1, blk_cell bb 2, blk_cell bb 3, blk_cell bb 4⟩, hx⟩)
  have XX := Lib.hid X0
  have D0 := Lib.hid (show Ext (fun _ => False) W0 W0.drew from (Ext.refl _ _).drew)
  clear h hb X0 hm hbl
  go_enter Tryz.func67, Tryz.ntmps67
  go_wp2_with fail
  try rw [hW0]
  clear hW0
  go_region_held3 (fun w' => (w'.cell? ⟨w.heap.size, 0, none⟩ = some (.slice L.p0 d.ws.length L.c0) ∧ w'.cell? ⟨w.heap.size, 1, none⟩ = some (.slice L.p1 d.ms.length L.c1) ∧ w'.cell? ⟨w.heap.size, 2, none⟩ = some (.slice L.p2 d.ls.length L.c2) ∧ w'.cell? ⟨w.heap.size, 3, none⟩ = some (.slice L.p3 d.ns.length L.c3) ∧ w'.cell? ⟨w.heap.size, 4, none⟩ = some (.slice L.p4 d.ss.length L.c4)) ∧ Ext (fun _ => False) W0 w')
    (first | exact CD.out _ D0.out | exact CD.out _ G2.out | exact CD.out _ G1.out)
    (first
      | (go_at_call 95; (with_reducible refine (BC.out _).mono ?_); rintro e V1 ⟨q1, c1, rfl, hA1, hx1, hf1⟩; have G1 := Lib.hid (D0.out.trans hx1 (fun _ _ h => h)); have R1 := Lib.hid (ints_rd hA1); clear hx1 hA1 hf1)
      | (go_at_call 94; (with_reducible refine (JC.out _ ?_ q1 c1 ?_).mono ?_); (exact XX.out.trans G1.out (fun _ _ h => h)); (exact R1.out); rintro e V2 ⟨q2, c2, sp, sc, rfl, hA2, _, hx2, hf2, _⟩; have A2 := Lib.hid hA2; have F2 := Lib.hid hf2; have G2 := Lib.hid (G1.out.trans hx2 (fun _ _ h => h)); clear hA2 hx2 hf2))
  have F1 := Lib.hid (show w.heap.size ≤ V1.heap.size from by have := XX.out.size; have := G1.out.size; omega)
  have X2 := Lib.hid (XX.out.trans G2.out (fun _ _ h => h))
  go_wp2_with fail
  go_ret
  exact ⟨q2, c2, rfl, by have := A2.out; rwa [ints_flat] at this, X2.out, fun j hj => Nat.le_trans F1.out (F2.out j hj)⟩
theorem toksGo_mem {d : Dat} {s : ByteArray} : ∀ {f k : Nat}, ∀ x ∈ toksGo d s f k, x.a < x.b ∧ x.b ≤ s.size
  | 0, _, x, h => by cases h
  | f + 1, k, x, h => by
    unfold toksGo at h
    by_cases hk : k < s.size
    · rw [if_pos hk] at h
      rcases List.mem_cons.1 h with rfl | h
      · exact tokAt_bd hk
      · exact toksGo_mem x h
    · rw [if_neg hk] at h
      cases h
theorem toksGo_len {d : Dat} {s : ByteArray} : ∀ {f k : Nat}, (toksGo d s f k).length ≤ s.size - k
  | 0, _ => Nat.zero_le _
  | f + 1, k => by
    unfold toksGo
    by_cases hk : k < s.size
    · have hb := tokAt_bd (d := d) hk
      have := toksGo_len (d := d) (s := s) (f := f) (k := (tokAt d s k).b)
      rw [if_pos hk, List.length_cons]
      omega
    · rw [if_neg hk]
      exact Nat.zero_le _
theorem ids_bound (d : Dat) (s : ByteArray) : ∀ l : List Tok, (∀ x ∈ l, x.a < x.b) → (idsOf d s l).length ≤ l.length * s.size
  | [], _ => Nat.zero_le _
  | x :: l, h => by
    have e : idsOf d s (x :: l) = pieceT d s x ++ idsOf d s l := rfl
    have h1 := pieceT_le d s x (h x (.head _))
    have h2 := ids_bound d s l (fun y hy => h y (.tail _ hy))
    rw [e, List.length_append, List.length_cons, Nat.succ_mul]
    omega
theorem ids_snoc {d : Dat} {s : ByteArray} {l : List Tok} {i : Nat} {x : Tok} (h : l[i]? = some x) : idsOf d s (l.take (i + 1)) = idsOf d s (l.take i) ++ pieceT d s x := by
  unfold idsOf
  rw [List.take_add_one, h, List.flatMap_append]
  simp
theorem cellTk {w : World} {p : Option Addr} {l : List Tok} (h : Rd eTk w p l) {i : Nat} {x : Tok} (hi : l[i]? = some x) : ∃ b o, p = some ⟨b, o, none⟩ ∧ b < w.heap.size ∧
    w.cell? ⟨b, o + i * 3, none⟩ = some (.int .i64 x.a) ∧ w.cell? ⟨b, o + i * 3 + 1, none⟩ = some (.int .i64 x.b) ∧ w.cell? ⟨b, o + i * 3 + 2, none⟩ = some (.int .i64 x.so) := by
  obtain ⟨b, o, hp, hb, hc⟩ := h i x hi
  exact ⟨b, o, hp, hb, by simpa [eTk] using hc 0 (by decide), by simpa [eTk] using hc 1 (by decide), by simpa [eTk] using hc 2 (by decide)⟩
/-- The ids of the first i pre-tokens, none of which is too long. -/
structure E14 (W0 wr : World) (d : Dat) (most : Int) (s : ByteArray) (i : Nat) (p : Option Addr) (c : Nat) : Prop where
  il : i ≤ (toks d s).length
  arr : Arr wr 3 1 p (idsOf d s ((toks d s).take i)).length c (Chain.ints (idsOf d s ((toks d s).take i)))
  ext : Ext (fun _ => False) W0 wr
  fr : ∀ k, blkOf p = some k → W0.heap.size ≤ k
  fit : ∀ x ∈ (toks d s).take i, fits most x = true
theorem E14.next {W0 wr V w3 : World} {d : Dat} {most : Int} {s : ByteArray} {i : Nat} {p p3 : Option Addr} {c c3 : Nat} {x : Tok} (h : E14 W0 wr d most s i p c) (hx : (toks d s)[i]? = some x) (hf : fits most x = true) (h1 : Ext (fun _ => False) wr V) (hA : Arr w3 3 1 p3 ((idsOf d s ((toks d s).take i)).length + (pieceT d s x).length) c3 (Chain.ints (idsOf d s ((toks d s).take i)) ++ Chain.ints (pieceT d s x))) (h2 : Ext (fun b => blkOf p = some b) V w3) (hm : Moved V p p3) : E14 W0 w3 d most s (i + 1) p3 c3 ∧ (idsOf d s ((toks d s).take (i + 1))).length = (idsOf d s ((toks d s).take i)).length + (pieceT d s x).length := by
  have e := ids_snoc (d := d) (s := s) hx
  have hi := (List.getElem?_eq_some_iff.1 hx).1
  refine ⟨⟨hi, ?_, (h.ext.trans h1 (fun _ _ h => h)).trans h2 (fun i hi e => by have := h.fr i e; omega), fun j hj => ?_, fun y hy => ?_⟩, by rw [e, List.length_append]⟩
  · rw [e, List.length_append]
    unfold Chain.ints at *
    rw [List.map_append]
    exact hA
  · rcases hm j hj with q | q
    · exact h.fr j q
    · have := h.ext.size; have := h1.size; omega
  · rw [List.take_add_one, hx] at hy
    rcases List.mem_append.1 hy with hy | hy
    · exact h.fit y hy
    · have : y = x := by simpa using hy
      rw [this]; exact hf
def Enc14End (w : World) (l : List Int) (e : Ending) (w' : World) : Prop :=
  ∃ (p : Option Addr) (c : Nat) (a b so : Int) (q : Bool), e = .returned (.tuple #[.slice p l.length c, .agg #[.int .i64 a, .int .i64 b, .int .i64 so], .bool q]) ∧ Arr w' 3 1 p l.length c (Chain.ints l) ∧ Ext (fun _ => False) w w' ∧ ∀ k, blkOf p = some k → w.heap.size ≤ k
set_option maxRecDepth 100000 in
set_option maxHeartbeats 16000000 in
theorem encode14_any (w : World) (L : Pl) (d : Dat) (h : DR w L d) (hf : FewC d) (hm : d.ms.length ≤ 1099511627776) (hsp : kindOf d.ls d.ns d.ss 32 = 3) (most : Int) (s : ByteArray) (hs : s.size ≤ 1048576) : Calls Tryz.prog 45 #[.agg #[.slice L.p0 d.ws.length L.c0, .slice L.p1 d.ms.length L.c1, .slice L.p2 d.ls.length L.c2, .slice L.p3 d.ns.length L.c3, .slice L.p4 d.ss.length L.c4], .int .i64 most, .string s] w fun e w' => Enc14End w (encT d most s).1 e w' := by
  have hb := heap_alloc_new w (.cells #[.slice L.p0 d.ws.length L.c0, .slice L.p1 d.ms.length L.c1, .slice L.p2 d.ls.length L.c2, .slice L.p3 d.ns.length L.c3, .slice L.p4 d.ss.length L.c4] 26)
  have X0 := ((Ext.refl (fun _ => False) w).alloc (.cells #[.slice L.p0 d.ws.length L.c0, .slice L.p1 d.ms.length L.c1, .slice L.p2 d.ls.length L.c2, .slice L.p3 d.ns.length L.c3, .slice L.p4 d.ss.length L.c4] 26)).alloc (.cells #[.int .i64 0, .int .i64 0, .int .i64 0] 96)
  have hb2 := heap_alloc_new (w.alloc (.cells #[.slice L.p0 d.ws.length L.c0, .slice L.p1 d.ms.length L.c1, .slice L.p2 d.ls.length L.c2, .slice L.p3 d.ns.length L.c3, .slice L.p4 d.ss.length L.c4] 26)) (.cells #[.int .i64 0, .int .i64 0, .int .i64 0] 96)
  rw [World.size_alloc] at hb2
  have hb1 := blk_alloc hb (.cells #[.int .i64 0, .int .i64 0, .int .i64 0] 96)
  have TC := Lib.hid (fun (W : World) (hx : Ext (fun _ => False) w W) => tokens_any W L d (h.on hx) hf hsp s hs)
  have MC0 := Lib.hid (fun (W : World) (hx : Ext (fun _ => False) w W) (t : ByteArray) (ht : t.size ≤ 1048576) => merge10_any W L d (h.on hx) hm t ht)
  obtain ⟨W0, hW0⟩ : ∃ W0, (w.alloc (.cells #[.slice L.p0 d.ws.length L.c0, .slice L.p1 d.ms.length L.c1, .slice L.p2 d.ls.length L.c2, .slice L.p3 d.ns.length L.c3, .slice L.p4 d.ss.length L.c4] 26)).alloc (.cells #[.int .i64 0, .int .i64 0, .int .i64 0] 96) = W0 := ⟨_, rfl⟩
  have HW0s := Lib.hid (show W0.heap.size = w.heap.size + 2 from by rw [← hW0, World.size_alloc, World.size_alloc])
  rw [hW0] at X0 hb1 hb2
  have CD := Lib.hid (show ∀ w', Ext (fun _ => False) W0 w' → w'.cell? ⟨w.heap.size, 0, none⟩ = some (.slice L.p0 d.ws.length L.c0) ∧ w'.cell? ⟨w.heap.size, 1, none⟩ = some (.slice L.p1 d.ms.length L.c1) ∧ w'.cell? ⟨w.heap.size, 2, none⟩ = some (.slice L.p2 d.ls.length L.c2) ∧ w'.cell? ⟨w.heap.size, 3, none⟩ = some (.slice L.p3 d.ns.length L.c3) ∧ w'.cell? ⟨w.heap.size, 4, none⟩ = some (.slice L.p4 d.ss.length L.c4) from fun w' hx => by
    have bb := hx.obj hb1 (fun h => h)
    exact ⟨blk_cell bb 0, blk_cell bb 1, blk_cell bb 2, blk_cell bb 3, blk_cell bb 4⟩)
  have BT := Lib.hid (show ∀ w', Ext (fun _ => False) W0 w' → w'.heap[w.heap.size + 1]? = some (.cells #[.int .i64 0, .int .i64 0, .int .i64 0] 96 (0, 0)) from fun w' hx => hx.obj hb2 (fun h => h))
  have XX := Lib.hid X0
  have htl := toksGo_len (d := d) (s := s) (f := s.size) (k := 0)
  have TM := Lib.hid (show ∀ x ∈ toks d s, x.a < x.b ∧ x.b ≤ s.size from fun x hx => toksGo_mem x hx)
  obtain ⟨d0, d1, d2, d3, d4⟩ := CD.out _ (Ext.refl _ W0)
  clear h hb hb1 hb2 X0 hsp hf hm
  go_enter Tryz.func45, Tryz.ntmps45
  go_wp2_with fail
  refine (TC.out _ XX.out).mono ?_
  rintro e W1 ⟨q, cq, rfl, hA1, hx1, hf1⟩
  have E1 := Lib.hid hx1
  have RT := Lib.hid (Rd.of_arr hA1)
  have TLn := Lib.hid (show (toks d s).length ≤ 1048576 from by unfold toks; omega)
  have IB := Lib.hid (fun i => ids_bound d s ((toks d s).take i) (fun x hx => (TM.out x (List.mem_of_mem_take hx)).1))
  obtain ⟨l, hl⟩ : ∃ l, toks d s = l := ⟨_, rfl⟩
  have HL := Lib.hid hl
  rw [hl] at RT TLn TM
  simp only [hl] at IB
  rw [hl]
  have hll := TLn.out
  try clear hW0
  clear hA1 hx1 hf1 hl htl d0 d1 d2 d3 d4
  go_wp2_with fail
  go_loopw [9, 11] (fun vl vi wr => ∃ (i : Nat) (p : Option Addr) (c : Nat), vl = .slice p (idsOf d s (l.take i)).length c ∧ vi = .int .i64 i ∧ E14 W1 wr d most s i p c) (fun _ vi _ => l.length - (intOf vi).toNat)
  case atStart => exact ⟨0, none, 0, rfl, rfl, Nat.zero_le _, arr_nil _ _ _, Ext.refl _ _, (fun j hj => by cases hj), (fun x hx => by simp at hx)⟩
  case round =>
    obtain ⟨i, p, c, rfl, rfl, hst⟩ := hrel
    have ST := Lib.hid hst
    have X1 := Lib.hid hst.ext
    have X01 := Lib.hid (show Ext (fun _ => False) W0 wr from E1.out.trans hst.ext (fun _ _ h => h))
    have XW := Lib.hid (show Ext (fun _ => False) w wr from XX.out.trans X01.out (fun _ _ h => h))
    have HS1 := Lib.hid (show W0.heap.size ≤ W1.heap.size from E1.out.size)
    have hil := hst.il
    rw [HL.out] at hil
    have hib := IB.out i
    rw [List.length_take, Nat.min_eq_left hil] at hib
    have hib2 : (idsOf d s (l.take i)).length ≤ 1099511627776 := Nat.le_trans hib (Nat.le_trans (Nat.mul_le_mul (Nat.le_trans hil hll) hs) (by decide))
    have hA := hst.arr
    rw [HL.out] at hA
    obtain ⟨N, hN⟩ : ∃ N, idsOf d s (l.take i) = N := ⟨_, rfl⟩
    rw [hN] at hib2 hA
    rw [hN]
    have HN := Lib.hid hN
    obtain ⟨ni, hni⟩ : ∃ ni, N.length = ni := ⟨_, rfl⟩
    rw [hni] at hib2 hA
    rw [hni]
    have NI := Lib.hid hni
    have A0 := Lib.hid hA
    clear hst hib hA hN hni
    by_cases hlt : i < l.length
    · have i1 : (i : Int) < (l.length : Int) := by omega
      obtain ⟨x, hx⟩ : ∃ x, l[i]? = some x := ⟨_, List.getElem?_eq_getElem hlt⟩
      have hxm := TM.out x (List.mem_of_getElem? hx)
      obtain ⟨b, o, hp, hpb, x0, x1, x2⟩ := cellTk (RT.out.on X1.out) hx
      subst hp
      have HX := Lib.hid (show (toks d s)[i]? = some x from by rw [HL.out]; exact hx)
      have hpl := pieceT_le d s x hxm.1
      obtain ⟨xa, xb, xs⟩ := x
      simp only at x0 x1 x2 hxm
      obtain ⟨hab, hbs⟩ := hxm
      have FT := Lib.hid (show fits most (⟨xa, xb, xs⟩ : Tok) = decide ((xb : Int) - xa ≤ most) from rfl)
      have CT := Lib.hid (show ∀ w', Ext (fun _ => False) wr w' → w'.cell? ⟨b, o + i * 3, none⟩ = some (.int .i64 xa) ∧ w'.cell? ⟨b, o + i * 3 + 1, none⟩ = some (.int .i64 xb) ∧ w'.cell? ⟨b, o + i * 3 + 2, none⟩ = some (.int .i64 xs) from fun w' hx => ⟨(hx.cell (p := ⟨b, _, none⟩) hpb (fun h => h)).trans x0, (hx.cell (p := ⟨b, _, none⟩) hpb (fun h => h)).trans x1, (hx.cell (p := ⟨b, _, none⟩) hpb (fun h => h)).trans x2⟩)
      have SS := Lib.hid (show ∀ w', Ext (fun _ => False) wr w' → (w'.cell? ⟨w.heap.size, 0, none⟩ = some (.slice L.p0 d.ws.length L.c0) ∧ w'.cell? ⟨w.heap.size, 1, none⟩ = some (.slice L.p1 d.ms.length L.c1) ∧ w'.cell? ⟨w.heap.size, 2, none⟩ = some (.slice L.p2 d.ls.length L.c2) ∧ w'.cell? ⟨w.heap.size, 3, none⟩ = some (.slice L.p3 d.ns.length L.c3) ∧ w'.cell? ⟨w.heap.size, 4, none⟩ = some (.slice L.p4 d.ss.length L.c4)) ∧ w'.cell? ⟨b, o + i * 3, none⟩ = some (.int .i64 xa) ∧ w'.cell? ⟨b, o + i * 3 + 1, none⟩ = some (.int .i64 xb) ∧ w'.cell? ⟨b, o + i * 3 + 2, none⟩ = some (.int .i64 xs) from fun w' hx => ⟨CD.out _ (X01.out.trans hx (fun _ _ h => h)), CT.out _ hx⟩)
      obtain ⟨df, hdf⟩ : ∃ df, xb - xa = df := ⟨_, rfl⟩
      have j1 : (xb : Int) - (xa : Int) = (df : Int) := by omega
      have hw1 : IntKind.i64.wrap (df : Int) = (df : Int) := IntWalk.i64_in _ (by omega)
      clear hx hdf
      by_cases hgt : (df : Int) > most
      · have dg : decide ((df : Int) > most) = true := decide_eq_true hgt
        have FX := Lib.hid (show fits most (⟨xa, xb, xs⟩ : Tok) = false from by rw [FT.out]; exact decide_eq_false (by omega))
        go_wp2_with fail
        go_quiet (fail)
        have EQ := Lib.hid ((Ext.refl (fun _ => False) wr).drewN nq)
        obtain ⟨W3, hW3⟩ : ∃ W3, wr.drewN nq = W3 := ⟨_, rfl⟩
        rw [hW3] at EQ
        rw [hW3]
        obtain ⟨x0', x1', x2'⟩ := CT.out _ EQ.out
        have ob := BT.out _ (X01.out.trans EQ.out (fun _ _ h => h))
        have hob := blk_lt ob
        have f0 := blk_frozen ob 0
        have f1 := blk_frozen ob 1
        have f2 := blk_frozen ob 2
        have g0 := blk_cell ob 0
        have g1 := blk_cell ob 1
        have g2 := blk_cell ob 2
        simp at g0 g1 g2
        have hne : b ≠ w.heap.size + 1 := fun e => by
          have := CT.out _ (Ext.refl _ wr)
          have ob2 := BT.out _ X01.out
          subst e
          have := X1.out.size
          have h3 := blk_cell ob2 (o + i * 3 + 1)
          rw [x1] at h3
          have : o + i * 3 + 1 < 3 := by
            by_cases hc : o + i * 3 + 1 < 3
            · exact hc
            · rw [Array.getElem?_eq_none (by simp; omega)] at h3
              cases h3
          have h4 : (#[Value.int .i64 0, .int .i64 0, .int .i64 0] : Array Value)[o + i * 3 + 1]? = some (.int .i64 0) := by
            have : o + i * 3 + 1 = 1 ∨ o + i * 3 + 1 = 2 := by omega
            rcases this with e | e <;> rw [e] <;> rfl
          rw [h4] at h3
          injection h3 with h3
          injection h3 with _ h3
          omega
        have CT3 := Lib.hid (show ∀ w', Ext (fun _ => False) W3 w' → w'.cell? ⟨b, o + i * 3, none⟩ = some (.int .i64 xa) ∧ w'.cell? ⟨b, o + i * 3 + 1, none⟩ = some (.int .i64 xb) ∧ w'.cell? ⟨b, o + i * 3 + 2, none⟩ = some (.int .i64 xs) from fun w' hx => CT.out _ (EQ.out.trans hx (fun _ _ h => h)))
        have A3 := Lib.hid (arr_ext A0.out EQ.out (fun _ _ h => h))
        have FIN := Lib.hid (show ∀ W9, Ext (fun j => j = w.heap.size + 1) W3 W9 → ∀ (a b so : Int), Enc14End w (encT d most s).1 (.returned (.tuple #[.slice p ni c, .agg #[.int .i64 a, .int .i64 b, .int .i64 so], .bool true])) W9 from fun W9 h9 a b' so => by
          have he : toks d s = l.take i ++ ⟨xa, xb, xs⟩ :: l.drop (i + 1) := by
            have := HX.out
            rw [HL.out] at this ⊢
            rw [← Sl.drop_cons this, List.take_append_drop]
          have e := encT_stop he (fun y hy => ST.out.fit y (by rw [HL.out]; exact hy)) FX.out
          rw [e]
          have hsz := XX.out.size
          have hw0 : W0.heap.size = w.heap.size + 2 := HW0s.out
          have hw1 := HS1.out
          refine ⟨p, c, a, b', so, true, by rw [HN.out, NI.out], ?_, (XW.out.trans EQ.out (fun _ _ h => h)).trans h9 (fun j hj hs => by omega), fun j hj => ?_⟩
          · rw [HN.out, NI.out]
            exact arr_ext A3.out h9 (fun j hj e => by have := ST.out.fr j hj; omega)
          · have := ST.out.fr j hj
            omega)
        clear hW3 hgt dg x0 x1 x2 x0' x1' x2' SS
        go_upto_region 7 with (fail)
        refine start_ (n := 8) (S := fun w' => w'.cell? ⟨b, o + i * 3, none⟩ = some (.int .i64 xa) ∧ w'.cell? ⟨b, o + i * 3 + 1, none⟩ = some (.int .i64 xb) ∧ w'.cell? ⟨b, o + i * 3 + 2, none⟩ = some (.int .i64 xs)) (ds := [6]) (ls 8 0) (by kernel_rfl) rfl rfl (CT3.out _ (Ext.refl _ _).drew) (fun hHeld => ?_)
        refine pure_ (i := 0) (N := some 34) (v := ?_) (a' := ?_) (ls 8 1) rfl rfl (by kernel_rfl) (fun _ _ _ h => h) (Or.inl ⟨by rfl, ?_⟩) ?_ ?_
        rotate_left
        · intro w'; go_simp; with_reducible rfl
        rotate_left
        · simp only [Act.put, List.setIfInBounds_toArray, List.set_cons_zero, List.set_cons_succ, i64_w, i32_w]; rfl
        refine pure_ (i := 1) (N := some 35) (v := ?_) (a' := ?_) (ls 8 3) rfl rfl (by kernel_rfl) (fun _ _ _ h => h) (Or.inl ⟨by rfl, ?_⟩) ?_ ?_
        rotate_left
        · intro w'; go_simp; with_reducible rfl
        rotate_left
        · simp only [Act.put, List.setIfInBounds_toArray, List.set_cons_zero, List.set_cons_succ, i64_w, i32_w]; rfl
        refine pure_ (i := 2) (N := some 36) (v := ?_) (a' := ?_) (ls 8 7) rfl rfl (by kernel_rfl) (fun _ _ _ h => h) (Or.inl ⟨by rfl, ?_⟩) ?_ ?_
        rotate_left
        · intro w'; go_simp; with_reducible rfl
        rotate_left
        · simp only [Act.put, List.setIfInBounds_toArray, List.set_cons_zero, List.set_cons_succ, i64_w, i32_w]; rfl
        refine pure_ (i := 3) (N := some 37) (v := ?_) (a' := ?_) (ls 8 15) rfl rfl (by kernel_rfl) (fun _ _ _ h => h) (Or.inl ⟨by rfl, ?_⟩) ?_ ?_
        rotate_left
        · intro w'; go_simp; with_reducible rfl
        rotate_left
        · simp only [Act.put, List.setIfInBounds_toArray, List.set_cons_zero, List.set_cons_succ, i64_w, i32_w]; rfl
        refine pure_ (i := 5) (N := some 6) (v := ?_) (a' := ?_) (ls 8 47) rfl rfl (by kernel_rfl) (fun _ _ _ h => h) (Or.inl ⟨by rfl, ?_⟩) ?_ ?_
        rotate_left
        · intro w'; go_simp; with_reducible rfl
        rotate_left
        · simp only [Act.put, List.setIfInBounds_toArray, List.set_cons_zero, List.set_cons_succ, i64_w, i32_w]; rfl
        refine take_ (i := 4) (N := some 38) (v := ?_) (a' := ?_) (ls 8 63) rfl rfl (by kernel_rfl) (fun _ _ _ h => h) (Or.inl ⟨by rfl, ?_⟩) hHeld ?_ ?_
        rotate_left
        · rintro w' ⟨s0, s1, s2⟩; go_simp; with_reducible rfl
        rotate_left
        · simp only [Act.put, List.setIfInBounds_toArray, List.set_cons_zero, List.set_cons_succ, i64_w, i32_w]; rfl
        refine last_ (i := 6) (N := none) (ls 8 127) rfl rfl (by kernel_rfl) (by decide) (fun K hK => ?_)
        refine skip_ (w1 := ?_) (by rfl) rfl ?_ ?_
        rotate_left 1
        · go_simp; rfl
        refine hK.out _ _ ?_
        clear hK K
        refine pure_ (i := 7) (N := some 8) (v := ?_) (a' := ?_) (ls 8 255) rfl rfl (by kernel_rfl) (fun _ _ _ h => h) (Or.inl ⟨by rfl, ?_⟩) ?_ ?_
        rotate_left
        · intro w'; go_simp; with_reducible rfl
        rotate_left
        · simp only [Act.put, List.setIfInBounds_toArray, List.set_cons_zero, List.set_cons_succ, i64_w, i32_w]; rfl
        refine done_ (by kernel_rfl) ?_
        go_wp2_with fail
        refine bodyPost_ret (v := .tuple #[.slice p ni c, .agg #[.int .i64 xa, .int .i64 xb, .int .i64 xs], .bool true]) (by simp [results, Tryz.f45, go_sem, g0, g1, g2, hob]) rfl ?_
        exact FIN.out _ ((((Ext.refl (fun j => j = w.heap.size + 1) W3).drew.setCell (fun _ => rfl) _).setCell (fun _ => rfl) _).setCell (fun _ => rfl) _) _ _ _
      · have dg : decide ((df : Int) > most) = false := decide_eq_false hgt
        have FX := Lib.hid (show fits most (⟨xa, xb, xs⟩ : Tok) = true from by rw [FT.out]; exact decide_eq_true (by omega))
        obtain ⟨ys, hys⟩ : ∃ ys, pieceT d s ⟨xa, xb, xs⟩ = ys := ⟨_, rfl⟩
        have hzs : (s.extract xa xb).size ≤ 1048576 := by rw [ByteArray.size_extract]; omega
        have MC1 := fun (W : World) (hx : Ext (fun _ => False) wr W) => MC0.out W (XW.out.trans hx (fun _ _ h => h)) (s.extract xa xb) hzs
        have hpt : (joinT d.ms (bytesL (s.extract xa xb))).1 = ys := hys
        rw [hpt] at MC1
        rw [hys] at hpl
        have FIN0 := fun (V : World) (p3 : Option Addr) (c3 : Nat) (w3 : World) (h1 : Ext (fun _ => False) wr V) => ST.out.next (V := V) (p3 := p3) (c3 := c3) (w3 := w3) HX.out FX.out h1
        rw [HL.out, HN.out, hys, NI.out] at FIN0
        have FIN := Lib.hid FIN0
        have i3 : (xa : Int) ≤ (xb : Int) := by omega
        have i4 : (xb : Int) ≤ (s.size : Int) := by omega
        clear hys hpt FIN0 hgt x0 x1 x2
        obtain ⟨x0, x1, x2⟩ := CT.out _ (Ext.refl _ wr)
        go_wp2_with fail
        go_quiet (fail)
        have EQ := Lib.hid ((Ext.refl (fun _ => False) wr).drewN nq)
        obtain ⟨W3, hW3⟩ : ∃ W3, wr.drewN nq = W3 := ⟨_, rfl⟩
        rw [hW3] at EQ
        rw [hW3]
        have SS3 := Lib.hid (show ∀ w', Ext (fun _ => False) W3 w' → (w'.cell? ⟨w.heap.size, 0, none⟩ = some (.slice L.p0 d.ws.length L.c0) ∧ w'.cell? ⟨w.heap.size, 1, none⟩ = some (.slice L.p1 d.ms.length L.c1) ∧ w'.cell? ⟨w.heap.size, 2, none⟩ = some (.slice L.p2 d.ls.length L.c2) ∧ w'.cell? ⟨w.heap.size, 3, none⟩ = some (.slice L.p3 d.ns.length L.c3) ∧ w'.cell? ⟨w.heap.size, 4, none⟩ = some (.slice L.p4 d.ss.length L.c4)) ∧ w'.cell? ⟨b, o + i * 3, none⟩ = some (.int .i64 xa) ∧ w'.cell? ⟨b, o + i * 3 + 1, none⟩ = some (.int .i64 xb) ∧ w'.cell? ⟨b, o + i * 3 + 2, none⟩ = some (.int .i64 xs) from fun w' hx => SS.out _ (EQ.out.trans hx (fun _ _ h => h)))
        have MC := Lib.hid (fun (W : World) (hx : Ext (fun _ => False) W3 W) => MC1 W (EQ.out.trans hx (fun _ _ h => h)))
        have A3 := Lib.hid (arr_ext A0.out EQ.out (fun _ _ h => h))
        clear hW3 x0 x1 x2 SS MC1 dg
        go_upto_region 8 with (fail)
        refine start_ (n := 17) (S := fun w' => (w'.cell? ⟨w.heap.size, 0, none⟩ = some (.slice L.p0 d.ws.length L.c0) ∧ w'.cell? ⟨w.heap.size, 1, none⟩ = some (.slice L.p1 d.ms.length L.c1) ∧ w'.cell? ⟨w.heap.size, 2, none⟩ = some (.slice L.p2 d.ls.length L.c2) ∧ w'.cell? ⟨w.heap.size, 3, none⟩ = some (.slice L.p3 d.ns.length L.c3) ∧ w'.cell? ⟨w.heap.size, 4, none⟩ = some (.slice L.p4 d.ss.length L.c4)) ∧ w'.cell? ⟨b, o + i * 3, none⟩ = some (.int .i64 xa) ∧ w'.cell? ⟨b, o + i * 3 + 1, none⟩ = some (.int .i64 xb) ∧ w'.cell? ⟨b, o + i * 3 + 2, none⟩ = some (.int .i64 xs)) (ds := [15]) (ls 17 0) (by kernel_rfl) rfl rfl (SS3.out _ (Ext.refl _ _).drew) (fun hHeld => ?_)
        refine pure_ (i := 0) (N := some 39) (v := ?_) (a' := ?_) (ls 17 1) rfl rfl (by kernel_rfl) (fun _ _ _ h => h) (Or.inl ⟨by rfl, ?_⟩) ?_ ?_
        rotate_left
        · intro w'; go_simp; with_reducible rfl
        rotate_left
        · simp only [Act.put, List.setIfInBounds_toArray, List.set_cons_zero, List.set_cons_succ, i64_w, i32_w]; rfl
        refine pure_ (i := 2) (N := some 41) (v := ?_) (a' := ?_) (ls 17 5) rfl rfl (by kernel_rfl) (fun _ _ _ h => h) (Or.inl ⟨by rfl, ?_⟩) ?_ ?_
        rotate_left
        · intro w'; go_simp; with_reducible rfl
        rotate_left
        · simp only [Act.put, List.setIfInBounds_toArray, List.set_cons_zero, List.set_cons_succ, i64_w, i32_w]; rfl
        refine pure_ (i := 3) (N := some 42) (v := ?_) (a' := ?_) (ls 17 13) rfl rfl (by kernel_rfl) (fun _ _ _ h => h) (Or.inl ⟨by rfl, ?_⟩) ?_ ?_
        rotate_left
        · intro w'; go_simp; with_reducible rfl
        rotate_left
        · simp only [Act.put, List.setIfInBounds_toArray, List.set_cons_zero, List.set_cons_succ, i64_w, i32_w]; rfl
        refine pure_ (i := 4) (N := some 43) (v := ?_) (a' := ?_) (ls 17 29) rfl rfl (by kernel_rfl) (fun _ _ _ h => h) (Or.inl ⟨by rfl, ?_⟩) ?_ ?_
        rotate_left
        · intro w'; go_simp; with_reducible rfl
        rotate_left
        · simp only [Act.put, List.setIfInBounds_toArray, List.set_cons_zero, List.set_cons_succ, i64_w, i32_w]; rfl
        refine pure_ (i := 5) (N := some 44) (v := ?_) (a' := ?_) (ls 17 61) rfl rfl (by kernel_rfl) (fun _ _ _ h => h) (Or.inl ⟨by rfl, ?_⟩) ?_ ?_
        rotate_left
        · intro w'; go_simp; with_reducible rfl
        rotate_left
        · simp only [Act.put, List.setIfInBounds_toArray, List.set_cons_zero, List.set_cons_succ, i64_w, i32_w]; rfl
        refine pure_ (i := 6) (N := some 45) (v := ?_) (a' := ?_) (ls 17 125) rfl rfl (by kernel_rfl) (fun _ _ _ h => h) (Or.inl ⟨by rfl, ?_⟩) ?_ ?_
        rotate_left
        · intro w'; go_simp; with_reducible rfl
        rotate_left
        · simp only [Act.put, List.setIfInBounds_toArray, List.set_cons_zero, List.set_cons_succ, i64_w, i32_w]; rfl
        refine pure_ (i := 8) (N := some 47) (v := ?_) (a' := ?_) (ls 17 381) rfl rfl (by kernel_rfl) (fun _ _ _ h => h) (Or.inl ⟨by rfl, ?_⟩) ?_ ?_
        rotate_left
        · intro w'; go_simp; with_reducible rfl
        rotate_left
        · simp only [Act.put, List.setIfInBounds_toArray, List.set_cons_zero, List.set_cons_succ, i64_w, i32_w]; rfl
        refine pure_ (i := 9) (N := some 48) (v := ?_) (a' := ?_) (ls 17 893) rfl rfl (by kernel_rfl) (fun _ _ _ h => h) (Or.inl ⟨by rfl, ?_⟩) ?_ ?_
        rotate_left
        · intro w'; go_simp; with_reducible rfl
        rotate_left
        · simp only [Act.put, List.setIfInBounds_toArray, List.set_cons_zero, List.set_cons_succ, i64_w, i32_w]; rfl
        refine pure_ (i := 10) (N := some 49) (v := ?_) (a' := ?_) (ls 17 1917) rfl rfl (by kernel_rfl) (fun _ _ _ h => h) (Or.inl ⟨by rfl, ?_⟩) ?_ ?_
        rotate_left
        · intro w'; go_simp; with_reducible rfl
        rotate_left
        · simp only [Act.put, List.setIfInBounds_toArray, List.set_cons_zero, List.set_cons_succ, i64_w, i32_w]; rfl
        refine pure_ (i := 11) (N := some 50) (v := ?_) (a' := ?_) (ls 17 3965) rfl rfl (by kernel_rfl) (fun _ _ _ h => h) (Or.inl ⟨by rfl, ?_⟩) ?_ ?_
        rotate_left
        · intro w'; go_simp; with_reducible rfl
        rotate_left
        · simp only [Act.put, List.setIfInBounds_toArray, List.set_cons_zero, List.set_cons_succ, i64_w, i32_w]; rfl
        refine take_ (i := 1) (N := some 40) (v := ?_) (a' := ?_) (ls 17 3967) rfl rfl (by kernel_rfl) (fun _ _ _ h => h) (Or.inl ⟨by rfl, ?_⟩) hHeld ?_ ?_
        rotate_left
        · rintro w' ⟨⟨s0, s1, s2, s3, s4⟩, s5, s6, s7⟩; go_simp; with_reducible rfl
        rotate_left
        · simp only [Act.put, List.setIfInBounds_toArray, List.set_cons_zero, List.set_cons_succ, i64_w, i32_w]; rfl
        refine take_ (i := 7) (N := some 46) (v := ?_) (a' := ?_) (ls 17 4095) rfl rfl (by kernel_rfl) (fun _ _ _ h => h) (Or.inl ⟨by rfl, ?_⟩) hHeld ?_ ?_
        rotate_left
        · rintro w' ⟨⟨s0, s1, s2, s3, s4⟩, s5, s6, s7⟩; go_simp; with_reducible rfl
        rotate_left
        · simp only [Act.put, List.setIfInBounds_toArray, List.set_cons_zero, List.set_cons_succ, i64_w, i32_w]; rfl
        refine take_ (i := 12) (N := some 51) (v := ?_) (a' := ?_) (ls 17 8191) rfl rfl (by kernel_rfl) (fun _ _ _ h => h) (Or.inl ⟨by rfl, ?_⟩) hHeld ?_ ?_
        rotate_left
        · rintro w' ⟨⟨s0, s1, s2, s3, s4⟩, s5, s6, s7⟩; go_simp; with_reducible rfl
        rotate_left
        · simp only [Act.put, List.setIfInBounds_toArray, List.set_cons_zero, List.set_cons_succ, i64_w, i32_w]; rfl
        refine pure_ (i := 13) (N := some 52) (v := ?_) (a' := ?_) (ls 17 16383) rfl rfl (by kernel_rfl) (fun _ _ _ h => h) (Or.inl ⟨by rfl, ?_⟩) ?_ ?_
        rotate_left
        · intro w'; go_simp; with_reducible rfl
        rotate_left
        · simp only [Act.put, List.setIfInBounds_toArray, List.set_cons_zero, List.set_cons_succ, i64_w, i32_w]; rfl
        refine one_ (i := 14) (N := some 53) (ls 17 32767) rfl rfl (by kernel_rfl) (by decide) (fun K hK => ?_)
        refine goes_ Tryz.func67 (by kernel_rfl) rfl #[.agg #[.slice L.p0 d.ws.length L.c0, .slice L.p1 d.ms.length L.c1, .slice L.p2 d.ls.length L.c2, .slice L.p3 d.ns.length L.c3, .slice L.p4 d.ss.length L.c4], .string (s.extract xa xb)] (by rfl) rfl rfl (by (try simp only [List.map_toArray, List.map_cons, List.map_nil]); first | done | rfl) ?_
        refine (MC.out _ (Ext.refl _ _).drew).mono ?_
        rintro e V1 ⟨p2, c2, rfl, hA2, hx2, hf2⟩
        have G1 := Lib.hid (show Ext (fun _ => False) W3 V1 from ((Ext.refl _ W3).drew).trans hx2 (fun _ _ h => h))
        have A2 := Lib.hid hA2
        have F2 := Lib.hid hf2
        clear hA2 hx2 hf2
        refine ⟨_, rfl, ?_⟩
        refine hK.out _ _ (SS3.out _ G1.out) (fun hHeld => ?_)
        clear hK K
        refine norm_ (a' := ?_) ?_ ?_
        rotate_left
        · simp only [Act.put, List.setIfInBounds_toArray, List.set_cons_zero, List.set_cons_succ, i64_w, i32_w]; rfl
        refine last_ (i := 15) (N := some 54) (ls 17 65535) rfl rfl (by kernel_rfl) (by decide) (fun K hK => ?_)
        refine arr_append_stepN (N := some 54) rfl (by rfl) (.tmp 39) (.tmp 53) 62 3 1 8 (.int .i64 0) rfl Tryz.underlying62 infoI rfl (by decide) (by decide) p ni c (Chain.ints N) rfl p2 ys.length c2 rfl (Chain.ints ys) (by simp [Chain.ints]) (fun ad h j u hu => (ints_rd A2.out).src ad h j u (by rw [ints_flat]; exact hu)) (fun h => by have := A2.out; rw [h] at this; exact (arr_none this).1) (fun u hu => by simp only [Chain.ints, List.mem_map] at hu; obtain ⟨z, _, rfl⟩ := hu; rfl) (arr_ext A3.out G1.out (fun _ _ h => h)) (by omega) ?_
        intro p3 c3 w3 hA3 hx3 hm3
        have NX := Lib.hid (FIN.out V1 p3 c3 w3 (EQ.out.trans G1.out (fun _ _ h => h)) hA3 hx3 hm3)
        clear hA3 hx3 hm3
        refine hK.out _ _ ?_
        clear hK K
        refine norm_ (a' := ?_) ?_ ?_
        rotate_left
        · simp only [Act.put, List.setIfInBounds_toArray, List.set_cons_zero, List.set_cons_succ, i64_w, i32_w]; rfl
        refine pure_ (i := 16) (N := some 9) (v := ?_) (a' := ?_) (ls 17 131071) rfl rfl (by kernel_rfl) (fun _ _ _ h => h) (Or.inl ⟨by rfl, ?_⟩) ?_ ?_
        rotate_left
        · intro w'; go_simp; with_reducible rfl
        rotate_left
        · simp only [Act.put, List.setIfInBounds_toArray, List.set_cons_zero, List.set_cons_succ, i64_w, i32_w]; rfl
        refine done_ (by kernel_rfl) ?_
        go_wp2_with fail
        go_roundw
        case rel => exact ⟨i + 1, p3, c3, by rw [NX.out.2], by go_num, NX.out.1⟩
        case measure => simp [intOf]; omega
    · have i1 : ¬ (i : Int) < (l.length : Int) := by omega
      have ob := BT.out _ X01.out
      have hob := blk_lt ob
      have f0 := blk_frozen ob 0
      have f1 := blk_frozen ob 1
      have f2 := blk_frozen ob 2
      have g0 := blk_cell ob 0
      have g1 := blk_cell ob 1
      have g2 := blk_cell ob 2
      simp at g0 g1 g2
      have FIN := Lib.hid (show ∀ W9, Ext (fun j => j = w.heap.size + 1) wr W9 → ∀ (a b so : Int), Enc14End w (encT d most s).1 (.returned (.tuple #[.slice p ni c, .agg #[.int .i64 a, .int .i64 b, .int .i64 so], .bool false])) W9 from fun W9 h9 a b' so => by
        have hi : i = l.length := by omega
        have hN := HN.out
        rw [hi, List.take_length] at hN
        have e := encT_all (d := d) (most := most) (s := s) (fun y hy => ST.out.fit y (by rw [HL.out, hi, List.take_length, ← HL.out]; exact hy))
        rw [e, HL.out]
        have hw0 : W0.heap.size = w.heap.size + 2 := HW0s.out
        have hw1 := HS1.out
        refine ⟨p, c, a, b', so, false, by rw [hN, NI.out], ?_, XW.out.trans h9 (fun j hj hs => by omega), fun j hj => ?_⟩
        · simp only [hN, NI.out]
          exact arr_ext A0.out h9 (fun j hj e => by have := ST.out.fr j hj; omega)
        · have := ST.out.fr j hj
          omega)
      clear ob
      go_wp2_with fail
      refine bodyPost_ret (v := .tuple #[.slice p ni c, .agg #[.int .i64 0, .int .i64 0, .int .i64 0], .bool false]) (by simp [results, Tryz.f45, go_sem, g0, g1, g2, hob]) rfl ?_
      exact FIN.out _ ((((Ext.refl (fun j => j = w.heap.size + 1) wr).setCell (fun _ => rfl) _).setCell (fun _ => rfl) _).setCell (fun _ => rfl) _) _ _ _
end Go.Proofs.YtigpaaelggnffaaGreatDoor.R2
