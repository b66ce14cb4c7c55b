/- tally.Order: the rows in their order, in new memory. -/
import Derived.Test.YtigpaaelggnffaaGreatDoorTallyP
import Derived.Test.YtigpaaelggnffaaGreatDoorSortS
import Derived.Deep.RegionHeld3
import Derived.Deep.LoopGhost
import Derived.BigQuiet
import Derived.Deep.QuietTactic
import Derived.StillTailTactics
import Derived.LoopN
import Derived.Lib.ReflectliteSlice
import Derived.Laws.Externs
import Derived.Shelf.Abstract
namespace Go.Proofs.YtigpaaelggnffaaGreatDoor.Ty
open Go.Sort Go.RowKit Go.Shelf Go.Proofs.YtigpaaelggnffaaGreatDoor.Lib Go.Proofs.YtigpaaelggnffaaGreatDoor.Sl Go.Proofs.YtigpaaelggnffaaGreatDoor.St
set_option linter.unusedVariables false
set_option linter.unusedSimpArgs false

theorem infoR : (Tryz.prog.info? 45).map (fun i => (i.zero, i.size, i.bytes)) = some (some (.agg #[.int .i64 0, .int .i64 0]), 2, 16) := by kernel_rfl

set_option maxHeartbeats 400000 in
theorem cloneR (w : World) (p : Option Addr) (c : Nat) (l : List TRow) (h : Rd eTR w p l) (hb : l.length * 16 ≤ 140737488351232) :
    Calls Tryz.prog 46 #[.slice p l.length c] w fun e w' => Cloned eTR 45 w p l e w' := by
  have hnil := fun W : World => Lib.run_eql_slice_nil (P := Tryz.prog) W 33 45 p l.length c 0 0 Tryz.underlying33
  have H := Lib.hid h
  cases p with
  | none =>
    have hl : l = [] := H.out.none_
    clear h H hb
    subst hl
    simp only [List.length_nil] at hnil ⊢
    go_enter Tryz.func46, Tryz.ntmps46
    go_wp2_with fail
    go_ret
    exact Cloned.nil_
  | some ad =>
    clear h
    go_enter Tryz.func46, Tryz.ntmps46
    go_wp2_with ((refine arr_append rfl (.tmp 5) (.tmp 6) 33 45 2 16 (.agg #[.int .i64 0, .int .i64 0]) rfl Tryz.underlying33 infoR rfl (by decide) (by decide) (some ⟨w.heap.size, 0, none⟩) 0 0 [] rfl (some ad) l.length c rfl (flat eTR l) (flat_length eTR l) (H.out.on ((Ext.refl _ w).alloc _)).src (fun h => by cases h) (flat_cells eTR l) (arr_empty w 45 2) (by omega) ?_); intro p1 c1 w1 hA hx hm)
    exact bodyPost_ret (v := .slice p1 l.length c1) (by simp [results, Tryz.f46, go_sem]) rfl (Cloned.some_ hA hx hm)

/-- cmp.Compare at ints. -/
def cmpI (x y : Int) : Int := if x < y then -1 else if y < x then 1 else 0
theorem isNaN_any (w : World) (x : Int) : Calls Tryz.prog 107 #[.int .i64 x] w fun e w' => e = .returned (.bool false) ∧ w = w' := by
  have q : (x != x) = false := by simp
  go_enter Tryz.func107, Tryz.ntmps107
  go_wp2_with fail
  go_ret
  exact ⟨rfl, rfl⟩
set_option maxHeartbeats 1000000 in
theorem compare_ints (w : World) (x y : Int) : Calls Tryz.prog 73 #[.int .i64 x, .int .i64 y] w fun e w' => e = .returned (.int .i64 (cmpI x y)) ∧ w = w' := by
  have C := Lib.hid (fun x => isNaN_any w x)
  rcases Int.lt_trichotomy x y with h | h | h
  · have E := Lib.hid (show cmpI x y = -1 from by unfold cmpI; rw [if_pos h])
    go_enter Tryz.func73, Tryz.ntmps73
    go_wp2_with fail
    refine (C.out x).mono ?_
    rintro e w1 ⟨rfl, rfl⟩
    go_wp2_with fail
    refine (C.out y).mono ?_
    rintro e w2 ⟨rfl, rfl⟩
    go_wp2_with fail
    go_ret
    exact ⟨by rw [E.out]; rfl, rfl⟩
  · subst h
    have E := Lib.hid (show cmpI x x = 0 from by unfold cmpI; rw [if_neg (by omega), if_neg (by omega)])
    have i1 : ¬ x < x := by omega
    have i2 : ¬ x > x := by omega
    go_enter Tryz.func73, Tryz.ntmps73
    go_wp2_with fail
    refine (C.out x).mono ?_
    rintro e w1 ⟨rfl, rfl⟩
    go_wp2_with fail
    refine (C.out x).mono ?_
    rintro e w2 ⟨rfl, rfl⟩
    go_wp2_with fail
    go_ret
    exact ⟨by rw [E.out]; rfl, rfl⟩
  · have E := Lib.hid (show cmpI x y = 1 from by unfold cmpI; rw [if_neg (by omega), if_pos h])
    have i1 : ¬ x < y := by omega
    have i2 : x > y := h
    go_enter Tryz.func73, Tryz.ntmps73
    go_wp2_with fail
    refine (C.out x).mono ?_
    rintro e w1 ⟨rfl, rfl⟩
    go_wp2_with fail
    refine (C.out y).mono ?_
    rintro e w2 ⟨rfl, rfl⟩
    go_wp2_with fail
    go_ret
    exact ⟨by rw [E.out]; rfl, rfl⟩
/-- cmp.Or of two. -/
def orI (a b : Int) : Int := if a = 0 then b else a
set_option maxHeartbeats 1000000 in
theorem or_any (w : World) (q c : Nat) (a b : Int) (h0 : w.cell? ⟨q, 0, none⟩ = some (.int .i64 a)) (h1 : w.cell? ⟨q, 1, none⟩ = some (.int .i64 b)) :
    Calls Tryz.prog 72 #[.slice (some ⟨q, 0, none⟩) 2 c] w fun e w' => e = .returned (.int .i64 (orI a b)) ∧ w = w' := by
  by_cases ha : a = 0
  · subst ha
    have q0 : ((0 : Int) != 0) = false := rfl
    by_cases hb : b = 0
    · subst hb
      go_enter Tryz.func72, Tryz.ntmps72
      go_wp2_with fail
      refine wp_loop_rounds 3 ?_
      rw [rounds_succ]
      go_wp2_with fail
      rw [rounds_succ]
      go_wp2_with fail
      rw [rounds_succ]
      go_wp2_with fail
      go_ret
      exact ⟨rfl, rfl⟩
    · have q1 : (b != 0) = true := bne_iff_ne.2 hb
      have E := Lib.hid (show orI 0 b = b from rfl)
      go_enter Tryz.func72, Tryz.ntmps72
      go_wp2_with fail
      refine wp_loop_rounds 3 ?_
      rw [rounds_succ]
      go_wp2_with fail
      rw [rounds_succ]
      go_wp2_with fail
      go_ret
      exact ⟨by rw [E.out]; rfl, rfl⟩
  · have q1 : (a != 0) = true := bne_iff_ne.2 ha
    have E := Lib.hid (show orI a b = a from if_neg ha)
    go_enter Tryz.func72, Tryz.ntmps72
    go_wp2_with fail
    refine wp_loop_rounds 3 ?_
    rw [rounds_succ]
    go_wp2_with fail
    go_ret
    exact ⟨by rw [E.out]; rfl, rfl⟩
/-- tally.compare. -/
def cmpR (a b : TRow) : Int := orI (cmpI b.n a.n) (cmpI a.id b.id)
theorem cmpR_lt (a b : TRow) : decide (cmpR a b < 0) = ltR a b := by
  have h : cmpR a b < 0 ↔ ltR a b = true := by
    rw [ltR_iff]
    unfold cmpR orI cmpI
    (repeat' split) <;> omega
  by_cases hc : cmpR a b < 0
  · rw [decide_eq_true hc, h.1 hc]
  · rw [decide_eq_false hc]
    cases hl : ltR a b with
    | false => rfl
    | true => exact absurd (h.2 hl) hc
set_option maxRecDepth 100000 in
set_option maxHeartbeats 2000000 in
theorem compare_any (w : World) (a b : TRow) : Calls Tryz.prog 49 #[.agg #[.int .i64 a.id, .int .i64 a.n], .agg #[.int .i64 b.id, .int .i64 b.n]] w fun e w' => e = .returned (.int .i64 (cmpR a b)) ∧ Ext (fun _ => False) w w' := by
  obtain ⟨ai, an⟩ := a
  obtain ⟨bi, bn⟩ := b
  have E := Lib.hid (show cmpR ⟨ai, an⟩ ⟨bi, bn⟩ = orI (cmpI bn an) (cmpI ai bi) from rfl)
  have X0 := Lib.hid (((Ext.refl (fun _ => False) w).alloc (.cells #[.int .i64 ai, .int .i64 an] 45)).alloc (.cells #[.int .i64 bi, .int .i64 bn] 45))
  have hb0 : ((w.alloc (.cells #[.int .i64 ai, .int .i64 an] 45)).alloc (.cells #[.int .i64 bi, .int .i64 bn] 45)).heap[w.heap.size]? = some (.cells #[.int .i64 ai, .int .i64 an] 45) := by
    rw [heap_alloc_old _ _ (by simp)]; exact heap_alloc_new w _
  have hb1 : ((w.alloc (.cells #[.int .i64 ai, .int .i64 an] 45)).alloc (.cells #[.int .i64 bi, .int .i64 bn] 45)).heap[w.heap.size + 1]? = some (.cells #[.int .i64 bi, .int .i64 bn] 45) := by
    have := heap_alloc_new (w.alloc (.cells #[.int .i64 ai, .int .i64 an] 45)) (.cells #[.int .i64 bi, .int .i64 bn] 45)
    rw [World.size_alloc] at this
    exact this
  go_enter Tryz.func49, Tryz.ntmps49
  go_wp2_with fail
  obtain ⟨W1, hW1⟩ : ∃ W1, (w.alloc (.cells #[.int .i64 ai, .int .i64 an] 45)).alloc (.cells #[.int .i64 bi, .int .i64 bn] 45) = W1 := ⟨_, rfl⟩
  rw [hW1] at X0 hb0 hb1
  try rw [hW1]
  obtain ⟨o, ho⟩ : ∃ o, w.heap.size = o := ⟨_, rfl⟩
  rw [ho] at hb0 hb1
  try rw [ho]
  have HB0 := Lib.hid hb0
  have HB1 := Lib.hid hb1
  clear hW1 ho hb0 hb1
  have MS := Lib.hid (show ∀ w', Ext (fun _ => False) W1 w' → ((w'.cell? ⟨o, 0, none⟩ = some (.int .i64 ai) ∧ w'.cell? ⟨o, 1, none⟩ = some (.int .i64 an) ∧ w'.cell? ⟨o + 1, 0, none⟩ = some (.int .i64 bi) ∧ w'.cell? ⟨o + 1, 1, none⟩ = some (.int .i64 bn)) ∧ Ext (fun _ => False) W1 w') from fun w' hx =>
    have x0 := hx.obj HB0.out (fun h => h)
    have x1 := hx.obj HB1.out (fun h => h)
    ⟨⟨blk_cell x0 0, blk_cell x0 1, blk_cell x1 0, blk_cell x1 1⟩, hx⟩)
  have D0 := Lib.hid (show Ext (fun _ => False) W1 W1.drew from Ext.drew (Ext.refl _ _))
  obtain ⟨c1, hc1⟩ : ∃ c, cmpI bn an = c := ⟨_, rfl⟩
  obtain ⟨c2, hc2⟩ : ∃ c, cmpI ai bi = c := ⟨_, rfl⟩
  have HC1 := Lib.hid hc1
  have HC2 := Lib.hid hc2
  clear hc1 hc2
  have OR := Lib.hid (or_any (W1.alloc (.cells #[.int .i64 c1, .int .i64 c2] 3)).drew W1.heap.size 2 c1 c2 (by simp) (by simp))
  go_region_held3 (fun w' => (w'.cell? ⟨o, 0, none⟩ = some (.int .i64 ai) ∧ w'.cell? ⟨o, 1, none⟩ = some (.int .i64 an) ∧ w'.cell? ⟨o + 1, 0, none⟩ = some (.int .i64 bi) ∧ w'.cell? ⟨o + 1, 1, none⟩ = some (.int .i64 bn)) ∧ Ext (fun _ => False) W1 w')
    (first | exact MS.out _ (by assumption) | exact MS.out _ D0.out | exact MS.out _ (D0.out.alloc _) | exact MS.out _ (Ext.drew (Ext.alloc (Ext.refl _ _) _)))
    (first
      | (go_at_call_of 73 (Value.int .i64 bn); (with_reducible refine (compare_ints _ bn an).mono ?_); rw [HC1.out]; rintro e w1 ⟨rfl, rfl⟩)
      | (go_at_call_of 73 (Value.int .i64 bi); (with_reducible refine (compare_ints _ ai bi).mono ?_); rw [HC2.out]; rintro e w1 ⟨rfl, rfl⟩)
      | (go_at_call 72; (with_reducible refine OR.out.mono ?_); rintro e w1 ⟨rfl, rfl⟩))
  go_wp2_with fail
  go_ret
  exact ⟨by rw [E.out, HC1.out, HC2.out]; rfl, (X0.out.trans ((Ext.refl (fun _ => False) _).alloc _) (fun _ _ h => h)).drew⟩
set_option maxRecDepth 100000 in
set_option maxHeartbeats 2000000 in
theorem less_any {w : World} {ob g c n : Nat} {d : Array TRow} (hob : w.cell? ⟨ob, 0, none⟩ = some (.slice (some ⟨g, 0, none⟩) n c)) (hl : Lies 45 eTR w g c d) (hn : d.size = n) (i j : Nat) (hi : i < n) (hj : j < n) :
    Calls Tryz.prog 48 #[.int .i64 i, .int .i64 j, .pointer (some ⟨ob, 0, none⟩)] w fun e w' => e = .returned (.bool (ltR d[i]! d[j]!)) ∧ Ext (fun _ => False) w w' := by
  have hlt := hl.lt
  have a0 := hl.cells (i := i) (by omega) 0 (by decide)
  have a1 := hl.cells (i := i) (by omega) 1 (by decide)
  have b0 := hl.cells (i := j) (by omega) 0 (by decide)
  have b1 := hl.cells (i := j) (by omega) 1 (by decide)
  simp only [eTR, List.getElem?_cons_zero, List.getElem?_cons_succ] at a0 a1 b0 b1
  obtain ⟨x, hx⟩ : ∃ x, d[i]! = x := ⟨_, rfl⟩
  obtain ⟨y, hy⟩ : ∃ y, d[j]! = y := ⟨_, rfl⟩
  rw [hx] at a0 a1 ⊢
  rw [hy] at b0 b1 ⊢
  have CM := Lib.hid (fun W => compare_any W x y)
  have R := Lib.hid (cmpR_lt x y)
  obtain ⟨xi, xn⟩ := x
  obtain ⟨yi, yn⟩ := y
  simp only at a0 a1 b0 b1
  rw [Nat.add_zero] at a0 b0
  have q1 : (i : Int) < (n : Int) := by omega
  have q2 : (j : Int) < (n : Int) := by omega
  have MS := Lib.hid (show ∀ w', Ext (fun _ => False) w w' → ((w'.cell? ⟨ob, 0, none⟩ = some (.slice (some ⟨g, 0, none⟩) n c) ∧ w'.cell? ⟨g, i * 2, none⟩ = some (.int .i64 xi) ∧ w'.cell? ⟨g, i * 2 + 1, none⟩ = some (.int .i64 xn) ∧ w'.cell? ⟨g, j * 2, none⟩ = some (.int .i64 yi) ∧ w'.cell? ⟨g, j * 2 + 1, none⟩ = some (.int .i64 yn)) ∧ Ext (fun _ => False) w w') from fun w' hx =>
    ⟨⟨(hx.cell (p := ⟨ob, 0, none⟩) (World.block_lt_of_cell? _ _ hob) (fun h => h)).trans hob, (hx.cell (p := ⟨g, i * 2, none⟩) hlt (fun h => h)).trans a0, (hx.cell (p := ⟨g, i * 2 + 1, none⟩) hlt (fun h => h)).trans a1, (hx.cell (p := ⟨g, j * 2, none⟩) hlt (fun h => h)).trans b0, (hx.cell (p := ⟨g, j * 2 + 1, none⟩) hlt (fun h => h)).trans b1⟩, hx⟩)
  have D0 := Lib.hid (show Ext (fun _ => False) w w.drew from Ext.drew (Ext.refl _ _))
  obtain ⟨cv, hcv⟩ : ∃ c, cmpR ⟨xi, xn⟩ ⟨yi, yn⟩ = c := ⟨_, rfl⟩
  rw [hcv] at CM R
  clear hcv hx hy a0 a1 b0 b1 hob hl hi hj hlt
  go_enter Tryz.func48, Tryz.ntmps48
  go_wp2_with fail
  go_region_held3 (fun w' => (w'.cell? ⟨ob, 0, none⟩ = some (.slice (some ⟨g, 0, none⟩) n c) ∧ w'.cell? ⟨g, i * 2, none⟩ = some (.int .i64 xi) ∧ w'.cell? ⟨g, i * 2 + 1, none⟩ = some (.int .i64 xn) ∧ w'.cell? ⟨g, j * 2, none⟩ = some (.int .i64 yi) ∧ w'.cell? ⟨g, j * 2 + 1, none⟩ = some (.int .i64 yn)) ∧ Ext (fun _ => False) w w')
    (first | exact MS.out _ (by assumption) | exact MS.out _ D0.out)
    ((go_at_call 49; (with_reducible refine (CM.out _).mono ?_); rintro e w1 ⟨rfl, x1⟩; have E1 := D0.out.trans x1 (fun _ _ h => h)))
  go_wp2_with fail
  go_ret
  exact ⟨by rw [← R.out]; rfl, E1⟩

/-! ### the library's entry -/
noncomputable def tiS : TypeInfo := (Tryz.prog.info? 33).get (by kernel_rfl)
noncomputable def tiR : TypeInfo := (Tryz.prog.info? 45).get (by kernel_rfl)
theorem tiS_is : Tryz.prog.info? 33 = some tiS := by kernel_rfl
theorem tiR_is : Tryz.prog.info? 45 = some tiR := by kernel_rfl
theorem tiS_desc : tiS.desc = .slice 45 := by kernel_rfl
theorem swK (n : Nat) (h2 : 2 ≤ n) : Go.Lib.swapperK n tiR 25 = 9 := by
  have a : tiR.hasPointers = false := by kernel_rfl
  have b : tiR.bytes = 16 := by kernel_rfl
  have c : (n == 0) = false := by simp; omega
  have d : (n == 1) = false := by simp; omega
  simp [Go.Lib.swapperK, a, b, c, d]
theorem swapOk (g c n : Nat) : SwapOk Tryz.prog 45 eTR 104 #[.slice (some ⟨g, 0, none⟩) n c, typeHandle Tryz.prog 45] g c n := by
  intro W d hl hn i j hi hj
  have hx := run_callFunc_extern (P := Tryz.prog) Tryz.func104 (by kernel_rfl) (by kernel_rfl) (by kernel_rfl) (e := Extern.ReflectliteSwapper.swap false) (by kernel_rfl) (#[.int .i64 i, .int .i64 j] ++ #[.slice (some ⟨g, 0, none⟩) n c, typeHandle Tryz.prog 45]) W
  have hr := run_swap (P := Tryz.prog) false tiR tiR_is (by kernel_rfl) (fun _ => by kernel_rfl) hl (i := i) (j := j) (by omega) (by omega)
  rw [hn] at hr
  refine ⟨_, ?_, swap_lies hl (by omega) (by omega), ext_setCells (S := fun k => k = g) rfl _ _ (ext_setCells (S := fun k => k = g) rfl _ _ (Ext.refl (fun k => k = g) _))⟩
  rw [hx]
  show ((Extern.ReflectliteSwapper.swap false #[.int .i64 i, .int .i64 j, .slice (some ⟨g, 0, none⟩) n c, typeHandle Tryz.prog 45]).run Tryz.prog W).andThen _ = _
  rw [hr]
  rfl
set_option maxHeartbeats 2000000 in
set_option maxRecDepth 100000 in
theorem sliceStable_any {w : World} {ob g c n : Nat} {d : Array TRow} (hl : Lies 45 eTR w g c d) (hn : d.size = n) (h2 : 2 ≤ n) (hb : n ≤ 1048576) (hob : w.cell? ⟨ob, 0, none⟩ = some (.slice (some ⟨g, 0, none⟩) n c)) (hog : ob ≠ g) :
    Calls Tryz.prog 47 #[.iface 33 (.slice (some ⟨g, 0, none⟩) n c), .func (.func 48) #[] #[.pointer (some ⟨ob, 0, none⟩)]] w fun e w' =>
      RowEnd 45 eTR g c w (fun d' => PermIn 0 n d d' ∧ Srt ltR 0 n d') e w' := by
  have hv := Go.Lib.run_valueOf_slice (P := Tryz.prog) 33 45 tiS tiS_is tiS_desc (some ⟨g, 0, none⟩) n c w
  have hs := fun w => Go.Lib.run_swapper_slice (P := Tryz.prog) 33 45 tiS tiR tiS_is tiS_desc tiR_is 25 (fun _ => by kernel_rfl) (some ⟨g, 0, none⟩) n c 104 (by rw [swK n h2]; kernel_rfl) w
  have hln := fun a w ha => Go.Lib.run_valueLen_slice (P := Tryz.prog) 33 45 tiS tiS_is tiS_desc (by kernel_rfl) a (some ⟨g, 0, none⟩) n c w ha
  rw [if_neg (by rw [swK n h2]; decide)] at hs
  have LE0 : LessOk Tryz.prog 45 eTR 48 #[.pointer (some ⟨ob, 0, none⟩)] ltR g c n w := fun W d' hl' hn' hx i j hi hj =>
    less_any ((hx.cell (p := ⟨ob, 0, none⟩) (World.block_lt_of_cell? _ _ hob) hog).trans hob) hl' hn' i j hi hj
  have ST := Lib.hid (fun (W : World) (d : Array TRow) (hw : Ext (fun k => k = g) w W) (hl : Lies 45 eTR W g c d) (hn : d.size = n) =>
    stable_any (enters_of Tryz.func48 (by kernel_rfl) rfl) swoR LE0 (swapOk g c n) hb hw hl hn)
  have HL := Lib.hid hl
  have HN := Lib.hid hn
  simp only [typeHandle] at hv hln hs
  simp only [typeHandle] at ST
  obtain ⟨G, hG⟩ : ∃ G, Tryz.prog.globals.size = G := ⟨_, rfl⟩
  rw [hG] at hv ST
  simp only [hG] at hs hln
  clear hG
  clear LE0 hl hn hob hog
  go_enter Tryz.func47, Tryz.ntmps47
  go_wp2_with fail
  rw [run_callFunc_extern Tryz.func68 (by kernel_rfl) (by kernel_rfl) (by kernel_rfl) (e := fun args => Extern.ReflectliteValue.unpack (args.getD 0 (.tuple #[]))) (by kernel_rfl),
    show Sem.run Tryz.prog ((fun args : Array Value => Extern.ReflectliteValue.unpack (args.getD 0 (.tuple #[]))) #[.iface 33 (.slice (some ⟨g, 0, none⟩) n c)]) w = _ from hv]
  simp only [Result.andThen]
  rw [Oper.upon_value]
  go_wp2_with fail
  rw [run_callFunc_extern Tryz.func69 (by kernel_rfl) (by kernel_rfl) (by kernel_rfl) (e := Extern.ReflectliteSwapper.swapper "internal/reflectlite" (Extern.ReflectliteValue.valueError "Swapper")) (by kernel_rfl), hs]
  simp only [Result.andThen]
  rw [Oper.upon_value]
  go_wp2_with fail
  rw [run_callFunc_extern Tryz.func71 (by kernel_rfl) (by kernel_rfl) (by kernel_rfl) (e := Extern.ReflectliteValue.method (Extern.ReflectliteValue.valueError "reflectlite.Value.Len" 0) Extern.ReflectliteValue.len) (by kernel_rfl),
    hln _ _ (by simp)]
  simp only [Result.andThen]
  rw [Oper.upon_value]
  go_wp2_with fail
  have X0 := ((Ext.refl (fun k => k = g) w).alloc (.cells #[.slice (some ⟨g, 0, none⟩) n c] 33)).alloc (.cells #[.pointer (some ⟨G, 33, none⟩), .pointer (some ⟨w.heap.size, 0, none⟩), .int .u64 151] 141)
  have L0 := HL.out.ext (((Ext.refl (fun _ => False) w).alloc (.cells #[.slice (some ⟨g, 0, none⟩) n c] 33)).alloc (.cells #[.pointer (some ⟨G, 33, none⟩), .pointer (some ⟨w.heap.size, 0, none⟩), .int .u64 151] 141)) (fun h => h)
  refine (ST.out _ d X0 L0 HN.out).mono ?_
  rintro e w1 ⟨rfl, d', hR, hl1, hx1⟩
  have R := Lib.hid (show RowEnd 45 eTR g c w (fun d' => PermIn 0 n d d' ∧ Srt ltR 0 n d') (.returned (.tuple #[])) w1 from ⟨rfl, d', hR, hl1, X0.trans hx1 (fun _ _ h => h)⟩)
  clear X0 L0 hR hl1 hx1
  go_wp2_with fail
  go_end0
  exact R.out
end Go.Proofs.YtigpaaelggnffaaGreatDoor.Ty
