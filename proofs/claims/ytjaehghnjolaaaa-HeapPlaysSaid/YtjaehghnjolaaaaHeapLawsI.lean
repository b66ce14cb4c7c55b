/- The walks of chapter 8's statements over ints: known, HeapNumbers. -/
import Derived.Test.YtjaehghnjolaaaaHeapId
namespace Go.Proofs.Ytjaehghnjolaaaa.HeapI
open Go.RowKit Go.Proofs.Ytjaehghnjolaaaa.Lib Go.Proofs.Ytjaehghnjolaaaa.HeapPure Go.Proofs.Ytjaehghnjolaaaa.ElInt
set_option linter.unusedVariables false
set_option linter.unusedSimpArgs false

theorem pop_val (W : World) (g : Nat) (p : Option Addr) (c : Nat) (xs : List El) (hM : Mem W g p c xs) (hl : 0 < xs.length) (hn : xs.length < 1000000000) (r : Int) (hr : (at_ xs 0).f0 = r) :
    Calls Try.prog 22 #[.pointer (some ⟨g, 0, none⟩)] W fun e w' => e = .returned (.tuple #[.int .i64 r, .bool true]) ∧ Mem w' g p c (popRest less xs) ∧ Ext (fun k => k = g ∨ blkOf p = some k) W w' := by
  refine (pop_some W g p c xs hM (List.length_pos_iff.1 hl) _ rfl hn).mono ?_
  rintro e w' ⟨rfl, h1, h2⟩
  exact ⟨by rw [hr], h1, h2⟩

def three : List El := (List.range 3).map fun i => if i = 0 then ⟨3⟩ else if i = 1 then ⟨1⟩ else ⟨2⟩

/-- known. -/
theorem known_any (W : World) : Calls Try.prog 24 #[] W fun e w' => e = .returned (.bool true) ∧ Ext (fun _ => False) W w' := by
  have hR : Reads (W.alloc (.cells #[.int .i64 3, .int .i64 1, .int .i64 2] 3)) 1 (some ⟨W.heap.size, 0, none⟩) 3 (fun i => ((fun i => if i = 0 then (⟨3⟩ : El) else if i = 1 then ⟨1⟩ else ⟨2⟩) i).cells) := by
    intro i hi
    refine ⟨W.heap.size, 0, rfl, by simp, fun j hj => ?_⟩
    obtain rfl : j = 0 := by omega
    match i, hi with
    | 0, _ => simp [El.cells]
    | 1, _ => simp [El.cells]
    | 2, _ => simp [El.cells]
  have HR := Lib.hid hR
  clear hR
  go_enter Try.func24, Try.ntmps24
  go_wp2_with fail
  refine (of_any _ (some ⟨W.heap.size, 0, none⟩) 3 3 _ (by omega) HR.out).mono ?_
  rintro e w1 ⟨rfl, p1, c1, hM, hx, hb⟩
  replace hM : Mem w1 (W.alloc (.cells #[.int .i64 3, .int .i64 1, .int .i64 2] 3)).heap.size p1 c1 (pushAll less three) := hM
  rw [World.size_alloc] at hM
  have hl : (pushAll less three).length = 3 := by rw [pushAll_length]; rfl
  have X1 := Lib.hid (((Ext.refl (fun _ => False) W).alloc _).trans hx (fun _ _ h => h))
  have HM := Lib.hid hM
  have HB := Lib.hid hb
  have s1 := blk_lt hM.blk
  have L1 := len_any hM
  rw [hl] at L1
  have L1 := Lib.hid L1
  clear hM hx hb hl
  go_wp2_with fail
  refine L1.out.mono ?_
  rintro e w' ⟨rfl, rfl⟩
  go_wp2_with fail
  refine (pop_val w1 _ _ _ _ HM.out (by decide +kernel) (by decide +kernel) 1 (by decide +kernel)).mono ?_
  rintro e w2 ⟨rfl, hM, hx⟩
  have M2 := Lib.hid hM
  have X2 := Lib.hid (X1.out.trans hx (fun i hi h => h.elim (fun h => by omega) (fun h => by have := HB.out i h; simp at this; omega)))
  clear hM hx
  go_wp2_with fail
  refine (pop_val w2 _ _ _ _ M2.out (by decide +kernel) (by decide +kernel) 2 (by decide +kernel)).mono ?_
  rintro e w3 ⟨rfl, hM, hx⟩
  have M3 := Lib.hid hM
  have X3 := Lib.hid (X2.out.trans hx (fun i hi h => h.elim (fun h => by omega) (fun h => by have := HB.out i h; simp at this; omega)))
  clear hM hx
  go_wp2_with fail
  refine (pop_val w3 _ _ _ _ M3.out (by decide +kernel) (by decide +kernel) 3 (by decide +kernel)).mono ?_
  rintro e w4 ⟨rfl, hM, hx⟩
  have e0 : popRest less (popRest less (popRest less (pushAll less three))) = [] := List.eq_nil_of_length_eq_zero (by decide +kernel)
  rw [e0] at hM
  have M4 := Lib.hid hM
  have X4 := Lib.hid (X3.out.trans hx (fun i hi h => h.elim (fun h => by omega) (fun h => by have := HB.out i h; simp at this; omega)))
  clear hM hx e0
  go_wp2_with fail
  refine (pop_none M4.out).mono ?_
  rintro e w5 ⟨rfl, hx⟩
  have X5 := Lib.hid (X4.out.trans hx (fun _ _ h => h))
  clear hx
  go_wp2_with fail
  go_ret
  exact ⟨rfl, X5.out⟩

/-- HeapNumbers. -/
theorem numbers_any (W : World) : Calls Try.prog 6 #[] W fun e w' => e = .returned (.bool true) ∧ Ext (fun _ => False) W w' := by
  go_enter Try.func6, Try.ntmps6
  go_wp2_with fail
  refine (new_any W).mono ?_
  rintro e w1 ⟨rfl, hM, hx⟩
  have M1 := Lib.hid hM
  have X1 := Lib.hid hx
  clear hM hx
  go_wp2_with fail
  refine (least_none M1.out).mono ?_
  rintro e w2 ⟨rfl, hx⟩
  have M2 := Lib.hid (M1.out.ext hx (fun h => h) (fun _ _ h => h))
  have X2 := Lib.hid (X1.out.trans hx (fun _ _ h => h))
  clear hx
  go_wp2_with fail
  refine (push_any w2 _ none 0 [] ⟨7⟩ M2.out (by simp)).mono ?_
  rintro e w3 ⟨v, p1, c1, rfl, hM, hx, hm⟩
  have M3 := Lib.hid hM
  have HB := Lib.hid (fun b (h : blkOf p1 = some b) => (hm b h).elim (fun h => by cases h) (fun h => Nat.le_trans X2.out.size h) : ∀ b, blkOf p1 = some b → W.heap.size ≤ b)
  have X3 := Lib.hid (X2.out.trans hx (fun i hi h => h.elim (fun h => by omega) (fun h => by cases h)))
  have hne : push less ([] : List El) ⟨7⟩ ≠ [] := List.length_pos_iff.1 (by rw [push_length]; omega)
  have h7 : at_ (push less ([] : List El) ⟨7⟩) 0 = ⟨7⟩ := by
    unfold push
    rw [List.nil_append, List.length_nil, up_zero]; rfl
  have L3 := Lib.hid (least_some hM hne _ h7)
  have hln : (push less ([] : List El) ⟨7⟩).length = 1 := by rw [push_length]; rfl
  have hlp := popRest_length less (push less ([] : List El) ⟨7⟩) hne
  have HN := Lib.hid (And.intro hne (And.intro h7 (And.intro hln (show (popRest less (push less ([] : List El) ⟨7⟩)).length = 0 by omega))))
  clear hM hx hm hne h7 hln hlp
  go_wp2_with fail
  refine L3.out.mono ?_
  rintro e w4 ⟨rfl, hx⟩
  have M4 := Lib.hid (M3.out.ext hx (fun h => h) (fun _ _ h => h))
  have X4 := Lib.hid (X3.out.trans hx (fun _ _ h => h))
  clear hx
  go_wp2_with fail
  refine (pop_some w4 _ _ _ _ M4.out HN.out.1 _ HN.out.2.1 (by rw [HN.out.2.2.1]; omega)).mono ?_
  rintro e w5 ⟨rfl, hM, hx⟩
  have X5 := Lib.hid (X4.out.trans hx (fun i hi h => h.elim (fun h => by omega) (fun h => by have := HB.out i h; omega)))
  have L5 := len_any hM
  rw [HN.out.2.2.2] at L5
  have L5 := Lib.hid L5
  clear hM hx
  go_wp2_with fail
  refine L5.out.mono ?_
  rintro e w' ⟨rfl, rfl⟩
  go_wp2_with fail
  refine (known_any _).mono ?_
  rintro e w6 ⟨rfl, hx⟩
  have X6 := Lib.hid (X5.out.trans hx (fun _ _ h => h))
  clear hx
  go_wp2_with fail
  go_ret
  exact ⟨rfl, X6.out⟩
end Go.Proofs.Ytjaehghnjolaaaa.HeapI
