/- law10.BpeKept. -/
import Derived.Test.YtiminpcpnblppaaBookApartI
import Derived.Test.YtiminpcpnblppaaBpeEnds
namespace Go.Proofs.Ytiminpcpnblppaa.Bk
open Go.RowKit Go.Proofs.Ytiminpcpnblppaa.Lib Go.Proofs.Ytiminpcpnblppaa.Sl Go.Proofs.Ytiminpcpnblppaa.Bpe
set_option linter.unusedVariables false
set_option linter.unusedSimpArgs false

/-- A book of lists of numbers that was begun behind w. -/
def KpSt (w wr : World) (b n : Nat) : Prop := ∃ S : Nat → Prop, IsBook eI 3 54 S w.heap.size wr.heap.size wr b n ∧ (∀ x, S x → w.heap.size ≤ x) ∧ Ext (fun _ => False) w wr
theorem KpSt.new {w : World} : KpSt w (w.alloc (.cells #[.slice none 0 0, .slice none 0 0, .int .i64 0, .bool false] 54)) w.heap.size 0 :=
  ⟨fun k => k = w.heap.size, IsBook.new (heap_alloc_new w _), fun x hx => by omega, (Ext.refl _ _).alloc _⟩
theorem IsBook.up {α : Type} {E : En α} {et bt : Nat} {S : Nat → Prop} {B T T' : Nat} {w : World} {b n : Nat} (h : IsBook E et bt S B T w b n) (hT : T ≤ T') : IsBook E et bt S B T' w b n := by
  obtain ⟨es, pl, cl, pw, cw, H, h1, h2⟩ := h
  exact ⟨es, pl, cl, pw, cw, H, h1, h2.bx, ⟨fun e he => { h2.es.one e he with np := fun k hk => ⟨((h2.es.one e he).np k hk).1, ((h2.es.one e he).np k hk).2.1, Nat.lt_of_lt_of_le ((h2.es.one e he).np k hk).2.2 hT⟩ }, h2.es.ap⟩⟩
theorem IsBook.slt {α : Type} {E : En α} {et bt : Nat} {S : Nat → Prop} {B T : Nat} {w : World} {b n : Nat} (h : IsBook E et bt S B T w b n) : ∀ x, S x → x < w.heap.size := by
  obtain ⟨es, pl, cl, pw, cw, H, h1, h2⟩ := h
  exact h2.bx.lt
/-- One list more. -/
theorem keepK_any {w wr : World} {S : Nat → Prop} {T T' b n : Nat} (h : IsBook eI 3 54 S w.heap.size T wr b n) (hS : ∀ x, S x → w.heap.size ≤ x) (hT : w.heap.size ≤ T) (hTT : T ≤ T') (hx : Ext (fun _ => False) w wr) (hn : n < 1000) {p : Option Addr} {c : Nat} {xs : List Int} (hA : Arr wr 3 1 p xs.length c (Chain.ints xs)) (hp : ∀ k, blkOf p = some k → ¬ S k ∧ T ≤ k ∧ k < T') (hl : xs.length ≤ 1048576) :
    Calls Try.prog 23 #[.pointer (some ⟨b, 0, none⟩), .slice p xs.length c] wr fun e w' => e = .returned (.tuple #[]) ∧ ∃ S' : Nat → Prop, IsBook eI 3 54 S' w.heap.size T' w' b (n + 1) ∧ (∀ k, S' k → S k ∨ wr.heap.size ≤ k) ∧ (∀ x, S' x → w.heap.size ≤ x) ∧ Ext S wr w' ∧ Ext (fun _ => False) w w' := by
  have hA' : Arr wr 3 eI.sz p xs.length c (flat eI xs) := by rw [ints_flat]; exact hA
  refine (keepI_any h hn hA' hp hT hTT (by omega) (by omega)).mono ?_
  rintro e w' ⟨rfl, S', hI, hs, hx2⟩
  have hz := hx.size
  exact ⟨rfl, S', hI, hs, fun x hx => (hs x hx).elim (hS x) (fun h => by omega), hx2, hx.trans hx2 (fun i hi h => by have := hS i h; omega)⟩
/-- Apart, of what was kept. -/
theorem apartK_any {w wr : World} {b n : Nat} (h : KpSt w wr b n) (hn : n ≤ 1000) :
    Calls Try.prog 24 #[.pointer (some ⟨b, 0, none⟩), .func (.func 25) #[] #[]] wr fun e w' => e = .returned (.bool true) ∧ Ext (fun _ => False) w w' := by
  obtain ⟨S, ⟨es, pl, cl, pw, cw, H, hes, hB⟩, hS, hx⟩ := h
  refine (apartI_any hB (by omega)).mono ?_
  rintro e w' ⟨rfl, hx2⟩
  refine ⟨rfl, hx.trans hx2 (fun i hi h => ?_)⟩
  rcases h with h | ⟨e, he, hk⟩
  · have := hS i h; omega
  · have := ((hB.es.one e he).np i hk).2.1; omega
set_option maxRecDepth 100000 in
set_option maxHeartbeats 16000000 in
theorem bpekept_any (w : World) (L : Pl) (d : Dat) (h : DR w L d) (s : ByteArray) (hs0 : s.size ≤ 140737488351232) :
    Calls Try.prog 6 #[.agg #[.slice L.p0 d.ws.length L.c0, .slice L.p1 d.ms.length L.c1, .slice L.p2 d.ls.length L.c2, .slice L.p3 d.ns.length L.c3, .slice L.p4 d.ss.length L.c4], .string s] w fun e w' => e = .returned (.bool true) ∧ Ext (fun _ => False) w w' := by
  have hb : (w.alloc (.cells (dataCells L d) 26)).heap[w.heap.size]? = _ := heap_alloc_new w _
  have X0 := Lib.hid ((Ext.refl (fun _ => False) w).alloc (.cells (dataCells L d) 26))
  have C := Lib.hid (of5_any _ L d (h.on X0.out))
  have R := Lib.hid h
  clear hb h
  go_enter Try.func6, Try.ntmps6
  go_wp2_with fail
  refine C.out.mono ?_
  rintro e W ⟨hx, h⟩
  have X := Lib.hid (X0.out.trans hx (fun _ _ h => h))
  clear hx C
  rcases h with ⟨hg, rfl⟩ | ⟨hg, a, rfl, hm, hwa⟩
  · have K := Lib.hid (known10_any W)
    clear hg
    go_wp2_with fail
    refine K.out.mono ?_
    rintro e W2 ⟨rfl, hx2⟩
    have X2 := Lib.hid (X.out.trans hx2 (fun _ _ h => h))
    clear hx2
    go_wp2_with fail
    go_ret
    exact ⟨rfl, X2.out⟩
  · have D := Lib.hid (RightD.of_good hg)
    have M := Lib.hid hm
    clear hg hm
    go_wp2_with fail
    refine (few_any W s 300 (by decide)).mono ?_
    rintro e W' ⟨rfl, rfl⟩
    have MF := Lib.hid (fun wr (hx : Ext (fun _ => False) W wr) => merge_few (M.out.on hx) D.out s 300 (by decide))
    have FZ0 := fewB_size s 300
    obtain ⟨t, ht⟩ : ∃ t, fewB s 300 = t := ⟨_, rfl⟩
    rw [ht] at MF FZ0 ⊢
    clear ht hs0
    have LE0 : (joinT d.ms (bytesL t)).1.length ≤ 300 := by have := join_le d.ms (bytesL t); rw [bytesL_length] at this; omega
    obtain ⟨l, hl⟩ : ∃ l, (joinT d.ms (bytesL t)).1 = l := ⟨_, rfl⟩
    rw [hl] at MF LE0
    clear hl
    have JL : (joinedT d l).1.length ≤ 300 := by
      unfold joinedT
      split
      · simp
      · split
        · have := join_le d.ms l; simp only; omega
        · simp
    have JO := Lib.hid (fun wr (hx : Ext (fun _ => False) W wr) (p : Option Addr) (c : Nat) (hr : Rd eI wr p l) => joined_any (c := c) (M.out.on hx) D.out hr)
    obtain ⟨jl, hjl⟩ : ∃ jl, (joinedT d l).1 = jl := ⟨_, rfl⟩
    obtain ⟨je, hje⟩ : ∃ je, (joinedT d l).2 = je := ⟨_, rfl⟩
    rw [hjl, hje] at JO
    rw [hjl] at JL
    clear hjl hje
    have K0 := Lib.hid (KpSt.new (w := W))
    have X1 := Lib.hid (show Ext (fun _ => False) W (W.alloc (.cells #[.slice none 0 0, .slice none 0 0, .int .i64 0, .bool false] 54)) from (Ext.refl _ _).alloc _)
    go_wp2_with fail
    go_loopw [9] (fun i wr => ∃ k : Nat, i = .int .i64 k ∧ k ≤ 2 ∧ KpSt W wr W.heap.size (2 * k)) (fun i _ => 2 - (intOf i).toNat)
    case atStart => exact ⟨0, rfl, by omega, K0.out⟩
    case round =>
      obtain ⟨k, rfl, hk, hst⟩ := hrel
      have ST := Lib.hid hst
      obtain ⟨S, hI, hS, hx⟩ := hst
      have IB := Lib.hid hI
      have SS := Lib.hid hS
      have XW := Lib.hid hx
      have SL := Lib.hid (show ∀ x, S x → x < wr.heap.size from by
        obtain ⟨es, pl, cl, pw, cw, H, hes, hB⟩ := hI
        exact hB.bx.lt)
      clear hI hS hx K0
      by_cases hlt : k < 2
      · have i1 : (k : Int) < 2 := by omega
        go_wp2_with fail
        refine (MF.out _ XW.out).mono ?_
        rintro e W2 ⟨p, c, rfl, hA, hx2, hf⟩
        have A2 := Lib.hid hA
        have X2 := Lib.hid hx2
        have F2 := Lib.hid hf
        clear hA hx2 hf
        go_wp2_with fail
        refine (JO.out _ (XW.out.trans X2.out (fun _ _ h => h)) p c (ints_rd A2.out)).mono ?_
        rintro e W3 ⟨p2, c2, rfl, hA3, hx3, hf3⟩
        have A3 := Lib.hid hA3
        have X3 := Lib.hid hx3
        have F3 := Lib.hid hf3
        have A2' := Lib.hid (arr_ext A2.out X3.out (fun _ _ h => h))
        clear hA3 hx3 hf3
        have IB3 := Lib.hid ((IB.out.on X2.out).on X3.out)
        have XW3 := Lib.hid ((XW.out.trans X2.out (fun _ _ h => h)).trans X3.out (fun _ _ h => h))
        have KA := Lib.hid (keepK_any IB3.out SS.out XW.out.size X2.out.size XW3.out (by omega) A2'.out (fun k hk => ⟨fun s => by have := SL.out k s; have := F2.out k hk; omega, F2.out k hk, arr_lt A2.out hk⟩) (by omega))
        go_wp2_with fail
        refine KA.out.mono ?_
        rintro e W4 ⟨rfl, S4, hI4, hs4, hS4, hx4, hx5⟩
        have XW4 := Lib.hid hx5
        have A4 := Lib.hid (arr_ext A3.out hx4 (fun k hk s => by
          have h1 := F3.out k hk
          have h3 := X2.out.size
          have := SL.out k s; omega))
        have KB := Lib.hid (keepK_any hI4 hS4 (Nat.le_trans XW.out.size X2.out.size) (Nat.le_trans X3.out.size hx4.size) XW4.out (by omega) A4.out (fun k hk => ⟨fun s => by
          have h1 := F3.out k hk
          have h2 := arr_lt A3.out hk
          have h3 := X2.out.size
          rcases hs4 k s with h | h
          · have := SL.out k h; omega
          · omega, F3.out k hk, arr_lt A4.out hk⟩) (by omega))
        clear hI4 hs4 hS4 hx4 hx5 KA
        go_wp2_with fail
        refine KB.out.mono ?_
        rintro e W5 ⟨rfl, S5, hI5, _, hS5, hx5, hx6⟩
        have N5 := Lib.hid (show KpSt W W5 W.heap.size (2 * (k + 1)) from ⟨S5, hI5.up hx5.size, hS5, hx6⟩)
        clear hI5 hS5 hx5 hx6 KB
        go_wp2_with fail
        go_roundw
        case rel => exact ⟨k + 1, by go_num, by omega, N5.out⟩
        case measure => simp [intOf]; omega
      · have i1 : ¬ (k : Int) < 2 := by omega
        have AP := Lib.hid (apartK_any ST.out (by omega))
        go_wp2_with fail
        refine AP.out.mono ?_
        rintro e W5 ⟨rfl, hx5⟩
        have X5 := Lib.hid (X.out.trans hx5 (fun _ _ h => h))
        clear hx5 AP
        go_wp2_with fail
        refine (known10_any W5).mono ?_
        rintro e W6 ⟨rfl, hx6⟩
        have X6 := Lib.hid (X5.out.trans hx6 (fun _ _ h => h))
        clear hx6
        go_wp2_with fail
        go_ret
        exact ⟨rfl, X6.out⟩
end Go.Proofs.Ytiminpcpnblppaa.Bk
