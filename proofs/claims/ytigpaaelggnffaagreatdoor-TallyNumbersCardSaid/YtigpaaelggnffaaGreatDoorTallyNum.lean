/- For TallyNumbers: nil models, rows of zeros, what the house's rows save. -/
import Derived.Test.YtigpaaelggnffaaGreatDoorTallyOrders
import Derived.Test.YtigpaaelggnffaaGreatDoorTallyUn
import Derived.Test.YtigpaaelggnffaaGreatDoorTallySav
import Derived.Laws.BytesArg
namespace Go.Proofs.YtigpaaelggnffaaGreatDoor.Ty
open Go.RowKit Go.Proofs.YtigpaaelggnffaaGreatDoor.Lib Go.Proofs.YtigpaaelggnffaaGreatDoor.Sl Go.Proofs.YtigpaaelggnffaaGreatDoor.Bpe Go.Proofs.YtigpaaelggnffaaGreatDoor.Cut
set_option linter.unusedVariables false
set_option linter.unusedSimpArgs false

theorem infoY : (Tryz.prog.info? 5).map (fun i => (i.zero, i.size, i.bytes)) = some (some (.int .u8 0), 1, 1) := by kernel_rfl
set_option maxRecDepth 100000 in
theorem saved_nil (w : World) (p : Option Addr) (n c : Nat) : Calls Tryz.prog 33 #[.pointer none, .slice p n c] w fun e w' => e = .returned (.tuple #[.int .i64 0, .int .i64 1]) ∧ w = w' := by
  have hq : ∀ W, (binOp .eql 27 (.pointer none) (.pointer none)).run Tryz.prog W = .ok (.bool true) W := fun W => by kernel_rfl
  go_enter Tryz.func33, Tryz.ntmps33
  go_wp2_with fail
  go_ret2
  exact ⟨rfl, rfl⟩
set_option maxRecDepth 100000 in
theorem unused_nil (w : World) (p : Option Addr) (n c : Nat) : Calls Tryz.prog 28 #[.pointer none, .slice p n c] w fun e w' => e = .returned (.slice none 0 0) ∧ w = w' := by
  have hq : ∀ W, (binOp .eql 27 (.pointer none) (.pointer none)).run Tryz.prog W = .ok (.bool true) W := fun W => by kernel_rfl
  go_enter Tryz.func28, Tryz.ntmps28
  go_wp2_with fail
  go_ret
  exact ⟨rfl, rfl⟩
theorem zeros_sizeT (n : Nat) : (strOfNums (List.replicate n 0)).size = n := by rw [strOfNums_size, List.length_replicate]
theorem zeros_strT {w : World} {b n : Nat} (h : Arr w 5 1 (some ⟨b, 0, none⟩) n n (madeCells (Value.int .u8 0).cells (n * 1)).toList) :
    (convert 84 9 (.slice (some ⟨b, 0, none⟩) n n)).run Tryz.prog w = .ok (.string (strOfNums (List.replicate n 0))) w :=
  run_convert_bytes_arg (P := Tryz.prog) _ 84 5 Tryz.underlying84 Tryz.underlying5 b 0 n n (List.replicate n 0) (List.length_replicate ..) (fun i hi => by
    rw [Nat.zero_add, arr_cell h i (by omega), Nat.mul_one, made1 _ _ rfl, List.getElem?_replicate, if_pos hi]
    simp [List.getD, List.getElem?_replicate, hi]) 9 Tryz.underlying9
theorem made_rows : ∀ n, flat eTR (List.replicate n ⟨0, 0⟩) = List.replicate (n * 2) (Value.int .i64 0)
  | 0 => rfl
  | n + 1 => by
    rw [List.replicate_succ, flat_cons, made_rows n, show (n + 1) * 2 = n * 2 + 1 + 1 by omega, List.replicate_succ, List.replicate_succ]
    rfl
theorem saved_zeros {d : Dat} (n : Int) : ∀ k, savedGo d n (List.replicate k ⟨0, 0⟩) = (n, 0)
  | 0 => rfl
  | k + 1 => by
    rw [List.replicate_succ]
    unfold savedGo
    rw [if_neg (by simp [okId]; omega), if_neg (by simp), Int.zero_mul, Int.add_zero]
    exact saved_zeros n k
theorem saved_h : savedT houseDat [⟨256, 2⟩, ⟨32, 1⟩, ⟨97, 1⟩] = (2, 0) := by decide +kernel
theorem saved_j : savedT houseDat [⟨-1, 0⟩] = (0, 24) := by decide +kernel
theorem saved_k : savedT houseDat [⟨1, -1⟩] = (0, 1) := by decide +kernel
theorem saved_p : savedT houseDat [] = (0, 0) := by decide +kernel
theorem saved_r : savedT houseDat [⟨-1, -1⟩] = (0, 24) := by decide +kernel
theorem saved_o {n : Nat} (h : n = 65537) : savedT houseDat (List.replicate n ⟨0, 0⟩) = (0, 4) := by unfold savedT; rw [List.length_replicate, if_pos (by omega)]
theorem saved_s {n : Nat} (h : n = 65536) : savedT houseDat (List.replicate n ⟨0, 0⟩) = (0, 0) := by unfold savedT; rw [List.length_replicate, if_neg (by omega)]; exact saved_zeros 0 n
theorem unused_h : (unusedT [⟨256, 2⟩, ⟨32, 1⟩, ⟨97, 1⟩] (256 + houseDat.ms.length)).length = 259 := by decide +kernel
end Go.Proofs.YtigpaaelggnffaaGreatDoor.Ty
