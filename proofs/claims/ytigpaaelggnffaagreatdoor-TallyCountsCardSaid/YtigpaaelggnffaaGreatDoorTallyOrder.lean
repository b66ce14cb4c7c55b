/- tally.Order: the rows in their order, in new memory; whatever their number. -/
import Derived.Test.YtigpaaelggnffaaGreatDoorTallyOrd
namespace Go.Proofs.YtigpaaelggnffaaGreatDoor.Ty
open Go.Sort Go.RowKit Go.Shelf Go.Proofs.YtigpaaelggnffaaGreatDoor.Lib Go.Proofs.YtigpaaelggnffaaGreatDoor.Sl Go.Proofs.YtigpaaelggnffaaGreatDoor.St
set_option linter.unusedVariables false
set_option linter.unusedSimpArgs false

theorem insertion_tiny (lf : Fn) (la lb : Array Value) (f : Nat) (sb : Array Value) (n : Nat) (hn : n ≤ 1) (W : World) :
    Calls Tryz.prog 105 #[.agg #[.func lf la lb, .func (.func f) #[] sb], .int .i64 0, .int .i64 n] W fun e w' => e = .returned (.tuple #[]) ∧ Ext (fun _ => False) W w' := by
  have i1 : ¬ (1 : Int) < (n : Int) := by omega
  have X0 := Lib.hid ((Ext.refl (fun _ => False) W).alloc (.cells #[.func lf la lb, .func (.func f) #[] sb] 147))
  go_enter Tryz.func105, Tryz.ntmps105
  go_wp2_with fail
  refine wp_loop_rounds 1 ?_
  rw [rounds_succ]
  go_wp2_with fail
  go_end0
  exact ⟨rfl, X0.out⟩
theorem stable_tiny (lf : Fn) (la lb : Array Value) (f : Nat) (sb : Array Value) (n : Nat) (hn : n ≤ 1) (W : World) :
    Calls Tryz.prog 70 #[.agg #[.func lf la lb, .func (.func f) #[] sb], .int .i64 n] W fun e w' => e = .returned (.tuple #[]) ∧ Ext (fun _ => False) W w' := by
  have i1 : ¬ (20 : Int) ≤ (n : Int) := by omega
  have i2 : ¬ (20 : Int) < (n : Int) := by omega
  have X0 := Lib.hid ((Ext.refl (fun _ => False) W).alloc (.cells #[.func lf la lb, .func (.func f) #[] sb] 147))
  have C := Lib.hid (fun W => insertion_tiny lf la lb f sb n hn W)
  go_enter Tryz.func70, Tryz.ntmps70
  go_wp2_with fail
  refine wp_loop_rounds 1 ?_
  rw [rounds_succ]
  go_wp2_with fail
  refine (C.out _).mono ?_
  rintro e w1 ⟨rfl, hx⟩
  have X1 := Lib.hid (X0.out.trans hx (fun _ _ h => h))
  clear hx
  go_wp2_with fail
  refine wp_loop_rounds 1 ?_
  rw [rounds_succ]
  go_wp2_with fail
  go_end0
  exact ⟨rfl, X1.out⟩
set_option maxHeartbeats 2000000 in
set_option maxRecDepth 100000 in
theorem sliceStable_tiny (p : Option Addr) (n c : Nat) (hn : n ≤ 1) (lf : Fn) (la lb : Array Value) (w : World) :
    Calls Tryz.prog 47 #[.iface 33 (.slice p n c), .func lf la lb] w fun e w' => e = .returned (.tuple #[]) ∧ Ext (fun _ => False) w w' := by
  obtain ⟨f, hf⟩ : ∃ f, Tryz.prog.funcs.findIdx? (·.name == "internal/reflectlite" ++ ".Swapper$" ++ toString (Go.Lib.swapperK n tiR 25)) = some f := by
    rcases Nat.le_one_iff_eq_zero_or_eq_one.1 hn with rfl | rfl
    · exact ⟨96, by kernel_rfl⟩
    · exact ⟨97, by kernel_rfl⟩
  have hk : Go.Lib.swapperK n tiR 25 ≤ 2 := by
    rcases Nat.le_one_iff_eq_zero_or_eq_one.1 hn with rfl | rfl
    · exact Nat.le_succ 1
    · exact Nat.le_refl 2
  have hv := Go.Lib.run_valueOf_slice (P := Tryz.prog) 33 45 tiS tiS_is tiS_desc p n c w
  have hs := fun w => Go.Lib.run_swapper_slice (P := Tryz.prog) 33 45 tiS tiR tiS_is tiS_desc tiR_is 25 (fun _ => by kernel_rfl) p n c f hf w
  have hln := fun a w ha => Go.Lib.run_valueLen_slice (P := Tryz.prog) 33 45 tiS tiS_is tiS_desc (by kernel_rfl) a p n c w ha
  rw [if_pos hk] at hs
  have ST := Lib.hid (fun W => stable_tiny lf la lb f #[] n hn W)
  simp only [typeHandle] at hv hln
  obtain ⟨G, hG⟩ : ∃ G, Tryz.prog.globals.size = G := ⟨_, rfl⟩
  rw [hG] at hv
  simp only [hG] at hln
  clear hG hf hk
  go_enter Tryz.func47, Tryz.ntmps47
  go_wp2_with fail
  rw [run_callFunc_extern Tryz.func68 (by kernel_rfl) (by kernel_rfl) (by kernel_rfl) (e := fun args => Extern.ReflectliteValue.unpack (args.getD 0 (.tuple #[]))) (by kernel_rfl),
    show Sem.run Tryz.prog ((fun args : Array Value => Extern.ReflectliteValue.unpack (args.getD 0 (.tuple #[]))) #[.iface 33 (.slice p n c)]) w = _ from hv]
  simp only [Result.andThen]
  rw [Oper.upon_value]
  go_wp2_with fail
  rw [run_callFunc_extern Tryz.func69 (by kernel_rfl) (by kernel_rfl) (by kernel_rfl) (e := Extern.ReflectliteSwapper.swapper "internal/reflectlite" (Extern.ReflectliteValue.valueError "Swapper")) (by kernel_rfl), hs]
  simp only [Result.andThen]
  rw [Oper.upon_value]
  go_wp2_with fail
  rw [run_callFunc_extern Tryz.func71 (by kernel_rfl) (by kernel_rfl) (by kernel_rfl) (e := Extern.ReflectliteValue.method (Extern.ReflectliteValue.valueError "reflectlite.Value.Len" 0) Extern.ReflectliteValue.len) (by kernel_rfl),
    hln _ _ (by simp)]
  simp only [Result.andThen]
  rw [Oper.upon_value]
  go_wp2_with fail
  have X0 := ((Ext.refl (fun _ => False) w).alloc (.cells #[.slice p n c] 33)).alloc (.cells #[.pointer (some ⟨G, 33, none⟩), .pointer (some ⟨w.heap.size, 0, none⟩), .int .u64 151] 141)
  refine (ST.out _).mono ?_
  rintro e w1 ⟨rfl, hx1⟩
  have R := Lib.hid (X0.trans hx1 (fun _ _ h => h))
  clear X0 hx1
  go_wp2_with fail
  go_end0
  exact ⟨rfl, R.out⟩

/-- The rows in their order, in new memory. -/
def OrderEnd (w : World) (l : List TRow) (e : Ending) (w' : World) : Prop :=
  ∃ p c, e = .returned (.slice p l.length c) ∧ Arr w' 45 2 p l.length c (flat eTR (ordR l)) ∧ Ext (fun _ => False) w w' ∧ ∀ k, blkOf p = some k → w.heap.size ≤ k
theorem ordR_tiny {l : List TRow} (h : l.length ≤ 1) : ordR l = l := by
  match l, h with
  | [], _ => exact List.Perm.eq_nil (ordR_perm [])
  | [x], _ => exact List.perm_singleton.1 (ordR_perm [x])
set_option maxHeartbeats 2000000 in
set_option maxRecDepth 100000 in
theorem order_any (w : World) (p : Option Addr) (c : Nat) (l : List TRow) (hl : Rd eTR w p l) (hb : l.length ≤ 1048576) :
    Calls Tryz.prog 21 #[.slice p l.length c] w fun e w' => OrderEnd w l e w' := by
  have C := Lib.hid (cloneR w p c l hl (by omega))
  clear hl
  go_enter Tryz.func21, Tryz.ntmps21
  go_wp2_with fail
  refine C.out.mono ?_
  rintro e w1 ⟨p1, c1, rfl, hA, hx1, hf1⟩
  clear C
  by_cases h2 : 2 ≤ l.length
  · obtain ⟨g, rfl⟩ := arr_some hA (by omega)
    have hg1 : w.heap.size ≤ g := hf1 g rfl
    have hlt : g < w1.heap.size := arr_lt hA rfl
    have LI := Lib.hid (show Lies 45 eTR (w1.alloc (.cells #[.slice (some ⟨g, 0, none⟩) l.length c1] 33)) g c1 l.toArray from by
      have := arr_ext hA ((Ext.refl (fun _ => False) w1).alloc (.cells #[.slice (some ⟨g, 0, none⟩) l.length c1] 33)) (fun _ _ h => h)
      unfold Lies
      simpa using this)
    have X1 := Lib.hid (hx1.alloc (.cells #[.slice (some ⟨g, 0, none⟩) l.length c1] 33))
    have SS := Lib.hid (sliceStable_any LI.out (n := l.length) (by simp) h2 hb (ob := w1.heap.size) (by simp) (by omega))
    have HG := Lib.hid (And.intro hg1 hlt)
    clear hA hx1 hf1 hg1 hlt
    go_wp2_with fail
    refine SS.out.mono ?_
    rintro e w2 ⟨rfl, d', hR, hl2, hx2⟩
    have hs := sort_ord (d := l.toArray) (d' := d') (by simpa using hR)
    have hsz : d'.size = l.length := by simpa using hR.1.1
    have O2 := Lib.hid (show Arr w2 45 2 (some ⟨g, 0, none⟩) l.length c1 (flat eTR (ordR l)) from by
      unfold Lies at hl2
      rw [hs, hsz] at hl2
      exact hl2)
    have hob := hx2.obj (heap_alloc_new w1 (.cells #[.slice (some ⟨g, 0, none⟩) l.length c1] 33)) (by have := HG.out; omega)
    have b0 := blk_cell hob 0
    simp at b0
    have X2 := Lib.hid (X1.out.trans hx2 (fun k hk h => by have := HG.out; omega))
    clear hx2 hl2 hR hs hsz hob SS
    go_wp2_with fail
    go_ret
    exact ⟨some ⟨g, 0, none⟩, c1, rfl, O2.out, X2.out, fun k hk => by cases hk; exact HG.out.1⟩
  · have TI := Lib.hid (fun W => sliceStable_tiny p1 l.length c1 (by omega) (.func 48) #[] #[.pointer (some ⟨w1.heap.size, 0, none⟩)] W)
    have X1 := Lib.hid (hx1.alloc (.cells #[.slice p1 l.length c1] 33))
    have HA := Lib.hid (show Arr (w1.alloc (.cells #[.slice p1 l.length c1] 33)) 45 2 p1 l.length c1 (flat eTR (ordR l)) from by
      rw [ordR_tiny (by omega)]
      exact arr_ext hA ((Ext.refl (fun _ => False) w1).alloc _) (fun _ _ h => h))
    have HF := Lib.hid hf1
    clear hA hx1 hf1
    go_wp2_with fail
    refine (TI.out _).mono ?_
    rintro e w2 ⟨rfl, hx2⟩
    have hob := hx2.obj (heap_alloc_new w1 (.cells #[.slice p1 l.length c1] 33)) (fun h => h)
    have b0 := blk_cell hob 0
    simp at b0
    have X2 := Lib.hid (X1.out.trans hx2 (fun _ _ h => h))
    have H2 := Lib.hid (arr_ext HA.out hx2 (fun _ _ h => h))
    clear hx2 hob TI
    go_wp2_with fail
    go_ret
    exact ⟨p1, c1, rfl, H2.out, X2.out, HF.out⟩
end Go.Proofs.YtigpaaelggnffaaGreatDoor.Ty
