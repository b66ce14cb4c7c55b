/- Row of TallyNumbers: for every input the law returns true and its arguments read as before. -/
import Derived.Test.YtigpaaelggnffaaGreatDoorRows
import Derived.Test.YtigpaaelggnffaaGreatDoorCards
import Derived.Test.YtigpaaelggnffaaGreatDoorTie
import Derived.Test.YtigpaaelggnffaaGreatDoorRowTabs
import Derived.LaidMore
import Derived.Lay
import Derived.SevenTiedAt
import Derived.Stop.Joined
import Derived.Test.YtigpaaelggnffaaGreatDoorTallyNumbers
namespace Go.Proofs.YtigpaaelggnffaaGreatDoor.tallyNumbers
open Go.ChangeShapes Go.WideShapes Go.ChangeAt Go.RowKit Go.Proofs.YtigpaaelggnffaaGreatDoor.Lib Go.Proofs.YtigpaaelggnffaaGreatDoor.RowK
open Go.ChangeMaps (open_string shut_string)
set_option linter.unusedVariables false
set_option maxRecDepth 100000 in
theorem lifted (os : Os) (started : os.Started) (H : Type) (enc : TypeId × Value → H) :
    ReturnsInHanded {} Tryz.checked os 9 .any (fun w args => (Rows.tallyNumbersSpec.pre enc Tryz.prog Tryz.f9 Rows.tallyNumbersRow.domain false w args ∧ laidMetH Tryz.prog Rows.tallyNumbersRow.laid w) ∧ sizedMet enc Tryz.prog Tryz.f9 (OpenSpec.ofChange Rows.tallyNumbersSpec) false w args) (Rows.tallyNumbersSpec.post enc Tryz.prog Tryz.f9 false true false false) := by
  refine returnsInHanded_of_change_and (C := Tryz.checked) (X := fun w _ => laidMetH Tryz.prog Rows.tallyNumbersRow.laid w) (fun _ _ _ hh h => h.of_heap hh) own started (by kernel_rfl) Tryz.func9
    (ChangeSpec.witness_shaped (enc := enc) (C := Tryz.checked) (os := os) (X := fun w _ => laidMetH Tryz.prog Rows.tallyNumbersRow.laid w) false (World.laidAll Tryz.prog os Rows.tallyNumbersRow.laid) #[] 8 (World.laidAll_os _ _ _)
      (World.shaped_of_ZipB (by kernel_rfl) (by kernel_rfl)) (by kernel_rfl) (by kernel_rfl) (by kernel_rfl)
      (by rw [MakeChecks.laidMetH_plain _ _ _ (by kernel_rfl)]; exact laidMet_laidAll _ (by kernel_rfl) (by kernel_rfl))) ?_
  intro W base args ds gs before hval0 hW hcnd hsz0 hL0 _
  have hL : laidMetH Tryz.prog Rows.tallyNumbersRow.laid W := hL0
  clear hL0
  rw [MakeChecks.laidMetH_plain _ _ _ (by kernel_rfl)] at hL
  have hT := tabs_of_laid hL (by simp [Rows.tallyNumbersRow]) (by simp [Rows.tallyNumbersRow])
  clear hL
  have hsz : (DataW.weightsEach Tryz.prog (Tryz.f9.params.toList ++ Rows.tallyNumbersSpec.plain.varTypes Tryz.prog) (ds ++ gs)).all (· ≤ reachBytes) = true := hsz0
  have hval : ∀ (j : Nat) t v, Tryz.f9.params[j]? = some t → args[j]? = some v → Value.okWide Tryz.prog W .any base t v := hval0
  have hW' := hW
  obtain ⟨p, q, hA0, hV, rfl, hfz, hnd⟩ := hW
  have hA : DataW.TrodAll enc Tryz.prog W 0 (fun _ => true) true Tryz.f9.params.toList args.toList ds p := hA0
  rw [Tryz.params9] at hA hval hsz
  obtain ⟨rfl, rfl, rfl⟩ := trodAll_none hA
  obtain ⟨rfl, rfl⟩ := trodVars_none hV
  clear hA0 hval0 hsz0 hsz
  refine (Ty.numbers_any W hT ).mono fun e W' ⟨he, hext⟩ => ?_
  have bel := hext.below
  subst he
  exact ⟨_, rfl, _, _, _, [], _, [], hW', trodAll_mk1 (shut_bool Tryz.underlying4 _), trodAll_mk0, rfl, bel.frame _, fun h => by cases h⟩
theorem over : Rows.tallyNumbersRow.holds Tryz.pinned (OpenSpec.ofChange Rows.tallyNumbersSpec) :=
  OpenClaim.holds_of_wide 9 Tryz.f9 rfl rfl rfl rfl rfl rfl rfl ⟨rfl, rfl, rfl, rfl, rfl⟩ rfl rfl rfl rfl rfl (by kernel_rfl) Tryz.func9 (by kernel_rfl)
    (of_decide_eq_true (by kernel_rfl)) (by unfold Func.isWrapper; first | (rw [if_pos (by decide +kernel)]; kernel_rfl) | (rw [if_neg (by decide +kernel)]; exact ⟨rfl, rfl⟩))
    (fun os started H enc _ => lifted os started H enc)
theorem card : Rows.TallyNumbersCardSaid :=
  Claim7.holds_tied_plain_at .later [] Rows.tallyNumbersCard.laidKinds true Rows.tallyNumbersCard.stood.harness Rows.tallyNumbersCard.stood.looks over (fun _ h => by cases h) (by kernel_rfl) (fun _ h => by cases h) tallyNumbers_row_tie rfl ⟨rfl, rfl⟩ (by kernel_rfl) rfl
    (fun f fn hf hfn => by
      obtain rfl : f = 9 := Option.some.inj ((show Tryz.prog.funcNamed "tessera/tesseralaw23.TallyNumbers" = some 9 by kernel_rfl).symm.trans hf) |>.symm
      obtain rfl : fn = Tryz.f9 := (Option.some.inj (Tryz.func9.symm.trans hfn)).symm
      exact ⟨by kernel_rfl, fun j t ht => by
        rw [Tryz.params9] at ht
        have hm : t ∈ [] := by simpa using Array.mem_of_getElem? ht
        have hall : ([].all fun u => !Tryz.prog.wantsStandIn u) = true := by kernel_rfl
        exact (show Tryz.prog.wantsStandIn t = false by simpa using List.all_eq_true.1 hall t hm)⟩)
    (by kernel_rfl)
theorem proved : Rows.TallyNumbersCardSaid := card
#print axioms proved
end Go.Proofs.YtigpaaelggnffaaGreatDoor.tallyNumbers
namespace Go.Proofs.YtigpaaelggnffaaGreatDoor
/-- The row, under a short name, for the claim. -/
theorem tallyNumbers_holds : Rows.TallyNumbersCardSaid := tallyNumbers.proved
end Go.Proofs.YtigpaaelggnffaaGreatDoor
