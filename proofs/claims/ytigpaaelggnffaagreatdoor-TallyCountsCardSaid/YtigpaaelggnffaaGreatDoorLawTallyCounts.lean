/- Row of TallyCounts: for every input the law returns true and its arguments read as before. -/
import Derived.Test.YtigpaaelggnffaaGreatDoorRows
import Derived.Test.YtigpaaelggnffaaGreatDoorCards
import Derived.Test.YtigpaaelggnffaaGreatDoorTie
import Derived.Test.YtigpaaelggnffaaGreatDoorRowTabs
import Derived.LaidMore
import Derived.Lay
import Derived.SevenTiedAt
import Derived.Stop.Joined
import Derived.Test.YtigpaaelggnffaaGreatDoorTallyCounts
import Derived.Test.YtigpaaelggnffaaGreatDoorRowDataA
import Derived.Test.YtigpaaelggnffaaGreatDoorRowTally
namespace Go.Proofs.YtigpaaelggnffaaGreatDoor.tallyCounts
open Go.ChangeShapes Go.WideShapes Go.ChangeAt Go.RowKit Go.Proofs.YtigpaaelggnffaaGreatDoor.Lib Go.Proofs.YtigpaaelggnffaaGreatDoor.RowK
open Go.ChangeMaps (open_string shut_string)
set_option linter.unusedVariables false
set_option maxRecDepth 100000 in
theorem lifted (os : Os) (started : os.Started) (H : Type) (enc : TypeId × Value → H) :
    ReturnsInHanded {} Tryz.checked os 3 .any (fun w args => (Rows.tallyCountsSpec.pre enc Tryz.prog Tryz.f3 Rows.tallyCountsRow.domain false w args ∧ laidMetH Tryz.prog Rows.tallyCountsRow.laid w) ∧ sizedMet enc Tryz.prog Tryz.f3 (OpenSpec.ofChange Rows.tallyCountsSpec) false w args) (Rows.tallyCountsSpec.post enc Tryz.prog Tryz.f3 false true false false) := by
  refine returnsInHanded_of_change_and (C := Tryz.checked) (X := fun w _ => laidMetH Tryz.prog Rows.tallyCountsRow.laid w) (fun _ _ _ hh h => h.of_heap hh) own started (by kernel_rfl) Tryz.func3
    (ChangeSpec.witness_shaped (enc := enc) (C := Tryz.checked) (os := os) (X := fun w _ => laidMetH Tryz.prog Rows.tallyCountsRow.laid w) false (World.laidAll Tryz.prog os Rows.tallyCountsRow.laid) #[.agg #[.slice none 0 0, .slice none 0 0, .slice none 0 0, .slice none 0 0, .slice none 0 0], .int .i64 0, .slice none 0 0] 8 (World.laidAll_os _ _ _)
      (World.shaped_of_ZipB (by kernel_rfl) (by kernel_rfl)) (by kernel_rfl) (by kernel_rfl) (by kernel_rfl)
      (by rw [MakeChecks.laidMetH_plain _ _ _ (by kernel_rfl)]; exact laidMet_laidAll _ (by kernel_rfl) (by kernel_rfl))) ?_
  intro W base args ds gs before hval0 hW hcnd hsz0 hL0 _
  have hL : laidMetH Tryz.prog Rows.tallyCountsRow.laid W := hL0
  clear hL0
  rw [MakeChecks.laidMetH_plain _ _ _ (by kernel_rfl)] at hL
  have hT := tabs_of_laid hL (by simp [Rows.tallyCountsRow]) (by simp [Rows.tallyCountsRow])
  clear hL
  have hsz : (DataW.weightsEach Tryz.prog (Tryz.f3.params.toList ++ Rows.tallyCountsSpec.plain.varTypes Tryz.prog) (ds ++ gs)).all (· ≤ reachBytes) = true := hsz0
  have hval : ∀ (j : Nat) t v, Tryz.f3.params[j]? = some t → args[j]? = some v → Value.okWide Tryz.prog W .any base t v := hval0
  have hW' := hW
  obtain ⟨p, q, hA0, hV, rfl, hfz, hnd⟩ := hW
  have hA : DataW.TrodAll enc Tryz.prog W 0 (fun _ => true) true Tryz.f3.params.toList args.toList ds p := hA0
  rw [Tryz.params3] at hA hval hsz
  obtain ⟨v0, vs0, d0, ds0, p0, q0, hargs, rfl, rfl, h0, r0⟩ := trodAll_cons hA
  obtain ⟨v1, vs1, d1, ds1, p1, q1, rfl, rfl, rfl, h1, r1⟩ := trodAll_cons r0
  obtain ⟨v2, vs2, d2, ds2, p2, q2, rfl, rfl, rfl, h2, r2⟩ := trodAll_cons r1
  obtain ⟨rfl, rfl, rfl⟩ := trodAll_nil r2
  obtain rfl : args = #[v0, v1, v2] := by cases args; simp_all
  obtain ⟨rfl, rfl⟩ := trodVars_none hV
  have k0 := h0
  have lt0 : ∀ x ∈ p0, x.block < W.heap.size := by obtain ⟨m, hm⟩ := k0; exact DataW.trod_lt m _ _ _ hm
  obtain ⟨L0, D0, rfl, R0⟩ := open_data hsz (j := 0) rfl rfl (hval 0 26 v0 rfl rfl) h0
  obtain ⟨a1, rfl, rfl, rfl, w1⟩ := open_int Tryz.underlying3 (hval 1 3 v1 rfl rfl) h1
  have k2 := h2
  have lt2 : ∀ x ∈ p2, x.block < W.heap.size := by obtain ⟨m, hm⟩ := k2; exact DataW.trod_lt m _ _ _ hm
  obtain ⟨p2, c2, l2, rfl, R2, y2, z2, u2⟩ := open_strs hsz (j := 2) rfl rfl (hval 2 22 v2 rfl rfl) h2
  clear hA0 hval0 hsz0 hsz
  refine (Ty.counts_any W hT L0 D0 R0 a1 w1 p2 c2 l2 R2 y2 z2 u2).mono fun e W' ⟨he, hext⟩ => ?_
  have bel := hext.below
  subst he
  exact ⟨_, rfl, _, _, _, [], _, [], hW', trodAll_mk1 (shut_bool Tryz.underlying4 _), (trodAll_cons_mk (Below.trod laidOut (by kernel_rfl) (of_decide_eq_true (by kernel_rfl)) k0 bel lt0) (trodAll_cons_mk (shut_int Tryz.underlying3 w1) (trodAll_cons_mk (Below.trod laidOut (by kernel_rfl) (of_decide_eq_true (by kernel_rfl)) k2 bel lt2) trodAll_mk0))), rfl, bel.frame _, fun h => by cases h⟩
theorem over : Rows.tallyCountsRow.holds Tryz.pinned (OpenSpec.ofChange Rows.tallyCountsSpec) :=
  OpenClaim.holds_of_wide 3 Tryz.f3 rfl rfl rfl rfl rfl rfl rfl ⟨rfl, rfl, rfl, rfl, rfl⟩ rfl rfl rfl rfl rfl (by kernel_rfl) Tryz.func3 (by kernel_rfl)
    (of_decide_eq_true (by kernel_rfl)) (by unfold Func.isWrapper; first | (rw [if_pos (by decide +kernel)]; kernel_rfl) | (rw [if_neg (by decide +kernel)]; exact ⟨rfl, rfl⟩))
    (fun os started H enc _ => lifted os started H enc)
theorem card : Rows.TallyCountsCardSaid :=
  Claim7.holds_tied_plain_at .later [] Rows.tallyCountsCard.laidKinds true Rows.tallyCountsCard.stood.harness Rows.tallyCountsCard.stood.looks over (fun _ h => by cases h) (by kernel_rfl) (fun _ h => by cases h) tallyCounts_row_tie rfl ⟨rfl, rfl⟩ (by kernel_rfl) rfl
    (fun f fn hf hfn => by
      obtain rfl : f = 3 := Option.some.inj ((show Tryz.prog.funcNamed "tessera/tesseralaw23.TallyCounts" = some 3 by kernel_rfl).symm.trans hf) |>.symm
      obtain rfl : fn = Tryz.f3 := (Option.some.inj (Tryz.func3.symm.trans hfn)).symm
      exact ⟨by kernel_rfl, fun j t ht => by
        rw [Tryz.params3] at ht
        have hm : t ∈ [26, 3, 22] := by simpa using Array.mem_of_getElem? ht
        have hall : ([26, 3, 22].all fun u => !Tryz.prog.wantsStandIn u) = true := by kernel_rfl
        exact (show Tryz.prog.wantsStandIn t = false by simpa using List.all_eq_true.1 hall t hm)⟩)
    (by kernel_rfl)
theorem proved : Rows.TallyCountsCardSaid := card
#print axioms proved
end Go.Proofs.YtigpaaelggnffaaGreatDoor.tallyCounts
namespace Go.Proofs.YtigpaaelggnffaaGreatDoor
/-- The row, under a short name, for the claim. -/
theorem tallyCounts_holds : Rows.TallyCountsCardSaid := tallyCounts.proved
end Go.Proofs.YtigpaaelggnffaaGreatDoor
