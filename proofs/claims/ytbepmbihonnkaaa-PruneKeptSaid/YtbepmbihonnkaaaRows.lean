/-
  No cell of these rows narrows 'for every input' (looked for: loops, veiled, ifaces, maps, wideKeys, modest, calm, conditions, laid).
  DERIVED. THE GIVEN ROWS OF THIS SEAT. 8 by the template 'for every input the law returns true; each argument reads behind the call as it read before'; 0 by the template 'total and deterministic' (their statements: YtbepmbihonnkaaaTotals.lean).
  GIVEN WITH THE SEED: the statements are not yours to turn. If you find one false, say at which input.
  Laid BY PROGRAM, IN A SANDBOX (cutbox-rows.mjs): the forced cells as the released guide's own fill.sh prints them over the translation 5b0117358dbe698f… (all of the seat's roots in one cut). By AI agents, Wed Nov 11 2026. No macro, syntax, notation, axiom, sorry.
-/
import Derived.Test.YtbepmbihonnkaaaChecked
import GoSem.Claim
import GoSem.ClaimJoined
import GoSem.ClaimMapViews
import Derived.JoinedTies
import Derived.KernelRfl
namespace Go.Proofs.Ytbepmbihonnkaaa
/- THE CELL 'sum', in the pinned program and in every row, IS THE sha256 OF THE DUMP (.gsa) THAT YtbepmbihonnkaaaProg.lean LOADS. Nothing in Lean hashes anything: it is a label: what it is worth is what the hold of that sum in a sandbox is worth. -/
noncomputable def Try.pinned : Pinned := { name := "ytbepmbihonnkaaa", sum := "5b0117358dbe698f19175b7d619a34e46648a0703399300021e66036991d44fe", checked := Try.checked }
namespace Rows
def none {H : Type} : Left H := { results := [], args := [] }

/-- 'tesseralaw24.PruneDown': WHATEVER THE INPUT: true; the input reads as it did. -/
def pruneDownSpec : ChangeSpec := { name := "pruneDown", fn := fun _ => fun
  | [d1, d2, d3, d4] => { results := [.lit (.bool true)], args := [d1, d2, d3, d4] }
  | _ => none }
def pruneDownRow : OpenClaim := { program := "ytbepmbihonnkaaa", sum := "5b0117358dbe698f19175b7d619a34e46648a0703399300021e66036991d44fe", func := "tessera/tesseralaw24.PruneDown", spec := "pruneDown", unfollowed := true, recurses := true, plainKeys := false, apart := false }
def PruneDownSaid : Prop := pruneDownRow.holds Try.pinned (OpenSpec.ofChange pruneDownSpec)

/-- ITS FALSE NEIGHBOUR: 'it returns false'. Refute it at one input. -/
def pruneDownWrong : ChangeSpec := { name := "pruneDown", fn := fun _ => fun
  | [d1, d2, d3, d4] => { results := [.lit (.bool false)], args := [d1, d2, d3, d4] }
  | _ => none }
def PruneDownWrongFalsely : Prop := pruneDownRow.holds Try.pinned (OpenSpec.ofChange pruneDownWrong)

/-- 'tesseralaw24.PruneDeep': WHATEVER THE INPUT: true; the input reads as it did. -/
def pruneDeepSpec : ChangeSpec := { name := "pruneDeep", fn := fun _ => fun
  | [d] => { results := [.lit (.bool true)], args := [d] }
  | _ => none }
def pruneDeepRow : OpenClaim := { program := "ytbepmbihonnkaaa", sum := "5b0117358dbe698f19175b7d619a34e46648a0703399300021e66036991d44fe", func := "tessera/tesseralaw24.PruneDeep", spec := "pruneDeep", unfollowed := true, recurses := true, plainKeys := false, apart := false }
def PruneDeepSaid : Prop := pruneDeepRow.holds Try.pinned (OpenSpec.ofChange pruneDeepSpec)

/-- ITS FALSE NEIGHBOUR: 'it returns false'. Refute it at one input. -/
def pruneDeepWrong : ChangeSpec := { name := "pruneDeep", fn := fun _ => fun
  | [d] => { results := [.lit (.bool false)], args := [d] }
  | _ => none }
def PruneDeepWrongFalsely : Prop := pruneDeepRow.holds Try.pinned (OpenSpec.ofChange pruneDeepWrong)

/-- 'tesseralaw24.PruneNumbers': WHATEVER THE INPUT: true; the input reads as it did. -/
def pruneNumbersSpec : ChangeSpec := { name := "pruneNumbers", fn := fun _ => fun
  | [] => { results := [.lit (.bool true)], args := [] }
  | _ => none }
def pruneNumbersRow : OpenClaim := { program := "ytbepmbihonnkaaa", sum := "5b0117358dbe698f19175b7d619a34e46648a0703399300021e66036991d44fe", func := "tessera/tesseralaw24.PruneNumbers", spec := "pruneNumbers", unfollowed := true, recurses := true, plainKeys := false, apart := false }
def PruneNumbersSaid : Prop := pruneNumbersRow.holds Try.pinned (OpenSpec.ofChange pruneNumbersSpec)

/-- ITS FALSE NEIGHBOUR: 'it returns false'. Refute it at one input. -/
def pruneNumbersWrong : ChangeSpec := { name := "pruneNumbers", fn := fun _ => fun
  | [] => { results := [.lit (.bool false)], args := [] }
  | _ => none }
def PruneNumbersWrongFalsely : Prop := pruneNumbersRow.holds Try.pinned (OpenSpec.ofChange pruneNumbersWrong)

/-- 'tesseralaw24.PruneFirst': WHATEVER THE INPUT: true; the input reads as it did. -/
def pruneFirstSpec : ChangeSpec := { name := "pruneFirst", fn := fun _ => fun
  | [d1, d2] => { results := [.lit (.bool true)], args := [d1, d2] }
  | _ => none }
def pruneFirstRow : OpenClaim := { program := "ytbepmbihonnkaaa", sum := "5b0117358dbe698f19175b7d619a34e46648a0703399300021e66036991d44fe", func := "tessera/tesseralaw24.PruneFirst", spec := "pruneFirst", unfollowed := true, recurses := true, plainKeys := false, apart := false }
def PruneFirstSaid : Prop := pruneFirstRow.holds Try.pinned (OpenSpec.ofChange pruneFirstSpec)

/-- ITS FALSE NEIGHBOUR: 'it returns false'. Refute it at one input. -/
def pruneFirstWrong : ChangeSpec := { name := "pruneFirst", fn := fun _ => fun
  | [d1, d2] => { results := [.lit (.bool false)], args := [d1, d2] }
  | _ => none }
def PruneFirstWrongFalsely : Prop := pruneFirstRow.holds Try.pinned (OpenSpec.ofChange pruneFirstWrong)

/-- 'tesseralaw24.PruneTwice': WHATEVER THE INPUT: true; the input reads as it did. -/
def pruneTwiceSpec : ChangeSpec := { name := "pruneTwice", fn := fun _ => fun
  | [d1, d2, d3] => { results := [.lit (.bool true)], args := [d1, d2, d3] }
  | _ => none }
def pruneTwiceRow : OpenClaim := { program := "ytbepmbihonnkaaa", sum := "5b0117358dbe698f19175b7d619a34e46648a0703399300021e66036991d44fe", func := "tessera/tesseralaw24.PruneTwice", spec := "pruneTwice", unfollowed := true, recurses := true, plainKeys := false, apart := false }
def PruneTwiceSaid : Prop := pruneTwiceRow.holds Try.pinned (OpenSpec.ofChange pruneTwiceSpec)

/-- ITS FALSE NEIGHBOUR: 'it returns false'. Refute it at one input. -/
def pruneTwiceWrong : ChangeSpec := { name := "pruneTwice", fn := fun _ => fun
  | [d1, d2, d3] => { results := [.lit (.bool false)], args := [d1, d2, d3] }
  | _ => none }
def PruneTwiceWrongFalsely : Prop := pruneTwiceRow.holds Try.pinned (OpenSpec.ofChange pruneTwiceWrong)

/-- 'tesseralaw24.PruneFiner': WHATEVER THE INPUT: true; the input reads as it did. -/
def pruneFinerSpec : ChangeSpec := { name := "pruneFiner", fn := fun _ => fun
  | [d1, d2, d3] => { results := [.lit (.bool true)], args := [d1, d2, d3] }
  | _ => none }
def pruneFinerRow : OpenClaim := { program := "ytbepmbihonnkaaa", sum := "5b0117358dbe698f19175b7d619a34e46648a0703399300021e66036991d44fe", func := "tessera/tesseralaw24.PruneFiner", spec := "pruneFiner", unfollowed := true, recurses := true, plainKeys := false, apart := false }
def PruneFinerSaid : Prop := pruneFinerRow.holds Try.pinned (OpenSpec.ofChange pruneFinerSpec)

/-- ITS FALSE NEIGHBOUR: 'it returns false'. Refute it at one input. -/
def pruneFinerWrong : ChangeSpec := { name := "pruneFiner", fn := fun _ => fun
  | [d1, d2, d3] => { results := [.lit (.bool false)], args := [d1, d2, d3] }
  | _ => none }
def PruneFinerWrongFalsely : Prop := pruneFinerRow.holds Try.pinned (OpenSpec.ofChange pruneFinerWrong)

/-- 'tesseralaw24.PruneOn': WHATEVER THE INPUT: true; the input reads as it did. -/
def pruneOnSpec : ChangeSpec := { name := "pruneOn", fn := fun _ => fun
  | [d1, d2, d3] => { results := [.lit (.bool true)], args := [d1, d2, d3] }
  | _ => none }
def pruneOnRow : OpenClaim := { program := "ytbepmbihonnkaaa", sum := "5b0117358dbe698f19175b7d619a34e46648a0703399300021e66036991d44fe", func := "tessera/tesseralaw24.PruneOn", spec := "pruneOn", unfollowed := true, recurses := true, plainKeys := false, apart := false }
def PruneOnSaid : Prop := pruneOnRow.holds Try.pinned (OpenSpec.ofChange pruneOnSpec)

/-- ITS FALSE NEIGHBOUR: 'it returns false'. Refute it at one input. -/
def pruneOnWrong : ChangeSpec := { name := "pruneOn", fn := fun _ => fun
  | [d1, d2, d3] => { results := [.lit (.bool false)], args := [d1, d2, d3] }
  | _ => none }
def PruneOnWrongFalsely : Prop := pruneOnRow.holds Try.pinned (OpenSpec.ofChange pruneOnWrong)

/-- 'tesseralaw24.PruneKept': WHATEVER THE INPUT: true; the input reads as it did. -/
def pruneKeptSpec : ChangeSpec := { name := "pruneKept", fn := fun _ => fun
  | [d1, d2, d3] => { results := [.lit (.bool true)], args := [d1, d2, d3] }
  | _ => none }
def pruneKeptRow : OpenClaim := { program := "ytbepmbihonnkaaa", sum := "5b0117358dbe698f19175b7d619a34e46648a0703399300021e66036991d44fe", func := "tessera/tesseralaw24.PruneKept", spec := "pruneKept", unfollowed := true, recurses := true, plainKeys := false, apart := false }
def PruneKeptSaid : Prop := pruneKeptRow.holds Try.pinned (OpenSpec.ofChange pruneKeptSpec)

/-- ITS FALSE NEIGHBOUR: 'it returns false'. Refute it at one input. -/
def pruneKeptWrong : ChangeSpec := { name := "pruneKept", fn := fun _ => fun
  | [d1, d2, d3] => { results := [.lit (.bool false)], args := [d1, d2, d3] }
  | _ => none }
def PruneKeptWrongFalsely : Prop := pruneKeptRow.holds Try.pinned (OpenSpec.ofChange pruneKeptWrong)

/- THE SECOND FORM. 'bulk': how many values and letters a reading holds, each counted each time it is reached (what is shared counts as often as it is met; a slice's spare places count too). A statement '..UptoSaid' is the law's where the arguments, and the package variables that the reading takes, are together of bulk at most 1048576: NARROWER than '..Said'. Prove '..Said' where nothing that the law and all that it calls make is longer than what came in: it says more and counts as full. Else prove '..UptoSaid'. A law counts once. -/
mutual
def uptoBulk {H : Type} : DataW H → Nat
  | .lit (.string bytes) => bytes.length + 1
  | .lit _ => 1
  | .nil => 1
  | .ptr d => uptoBulk d + 1
  | .slice elems spare => uptoBulkAll elems + uptoBulkAll spare + 1
  | .agg parts => uptoBulkAll parts + 1
  | .iface _ d => uptoBulk d + 1
  | .map entries => uptoBulkEntries entries + 1
  | .held _ => 1
def uptoBulkAll {H : Type} : List (DataW H) → Nat
  | [] => 0
  | d :: r => uptoBulk d + uptoBulkAll r
def uptoBulkEntries {H : Type} : List (Lit × DataW H) → Nat
  | [] => 0
  | x :: r => uptoBulkEntry x + uptoBulkEntries r
def uptoBulkEntry {H : Type} : Lit × DataW H → Nat
  | (.string bytes, d) => bytes.length + uptoBulk d + 1
  | (_, d) => uptoBulk d + 1
 end
def uptoSmall : (H : Type) → List (DataW H) → Bool := fun _ ds => decide (uptoBulkAll ds ≤ 1048576)
def OpenSpec.upto (s : _root_.Go.ChangeSpec) : _root_.Go.OpenSpec := { _root_.Go.OpenSpec.ofChange s with cond := some uptoSmall }

/-- 'tesseralaw24.PruneDown', WHERE WHAT IT READS IS OF BULK AT MOST 1048576: true; the input reads as it did. -/
def pruneDownUptoRow : OpenClaim := { program := "ytbepmbihonnkaaa", sum := "5b0117358dbe698f19175b7d619a34e46648a0703399300021e66036991d44fe", func := "tessera/tesseralaw24.PruneDown", spec := "pruneDown", unfollowed := true, recurses := true, plainKeys := false, apart := false, narrowed := true }
def PruneDownUptoSaid : Prop := pruneDownUptoRow.holds Try.pinned (OpenSpec.upto pruneDownSpec)

/-- 'tesseralaw24.PruneDeep', WHERE WHAT IT READS IS OF BULK AT MOST 1048576: true; the input reads as it did. -/
def pruneDeepUptoRow : OpenClaim := { program := "ytbepmbihonnkaaa", sum := "5b0117358dbe698f19175b7d619a34e46648a0703399300021e66036991d44fe", func := "tessera/tesseralaw24.PruneDeep", spec := "pruneDeep", unfollowed := true, recurses := true, plainKeys := false, apart := false, narrowed := true }
def PruneDeepUptoSaid : Prop := pruneDeepUptoRow.holds Try.pinned (OpenSpec.upto pruneDeepSpec)

/-- 'tesseralaw24.PruneNumbers', WHERE WHAT IT READS IS OF BULK AT MOST 1048576: true; the input reads as it did. -/
def pruneNumbersUptoRow : OpenClaim := { program := "ytbepmbihonnkaaa", sum := "5b0117358dbe698f19175b7d619a34e46648a0703399300021e66036991d44fe", func := "tessera/tesseralaw24.PruneNumbers", spec := "pruneNumbers", unfollowed := true, recurses := true, plainKeys := false, apart := false, narrowed := true }
def PruneNumbersUptoSaid : Prop := pruneNumbersUptoRow.holds Try.pinned (OpenSpec.upto pruneNumbersSpec)

/-- 'tesseralaw24.PruneFirst', WHERE WHAT IT READS IS OF BULK AT MOST 1048576: true; the input reads as it did. -/
def pruneFirstUptoRow : OpenClaim := { program := "ytbepmbihonnkaaa", sum := "5b0117358dbe698f19175b7d619a34e46648a0703399300021e66036991d44fe", func := "tessera/tesseralaw24.PruneFirst", spec := "pruneFirst", unfollowed := true, recurses := true, plainKeys := false, apart := false, narrowed := true }
def PruneFirstUptoSaid : Prop := pruneFirstUptoRow.holds Try.pinned (OpenSpec.upto pruneFirstSpec)

/-- 'tesseralaw24.PruneTwice', WHERE WHAT IT READS IS OF BULK AT MOST 1048576: true; the input reads as it did. -/
def pruneTwiceUptoRow : OpenClaim := { program := "ytbepmbihonnkaaa", sum := "5b0117358dbe698f19175b7d619a34e46648a0703399300021e66036991d44fe", func := "tessera/tesseralaw24.PruneTwice", spec := "pruneTwice", unfollowed := true, recurses := true, plainKeys := false, apart := false, narrowed := true }
def PruneTwiceUptoSaid : Prop := pruneTwiceUptoRow.holds Try.pinned (OpenSpec.upto pruneTwiceSpec)

/-- 'tesseralaw24.PruneFiner', WHERE WHAT IT READS IS OF BULK AT MOST 1048576: true; the input reads as it did. -/
def pruneFinerUptoRow : OpenClaim := { program := "ytbepmbihonnkaaa", sum := "5b0117358dbe698f19175b7d619a34e46648a0703399300021e66036991d44fe", func := "tessera/tesseralaw24.PruneFiner", spec := "pruneFiner", unfollowed := true, recurses := true, plainKeys := false, apart := false, narrowed := true }
def PruneFinerUptoSaid : Prop := pruneFinerUptoRow.holds Try.pinned (OpenSpec.upto pruneFinerSpec)

/-- 'tesseralaw24.PruneOn', WHERE WHAT IT READS IS OF BULK AT MOST 1048576: true; the input reads as it did. -/
def pruneOnUptoRow : OpenClaim := { program := "ytbepmbihonnkaaa", sum := "5b0117358dbe698f19175b7d619a34e46648a0703399300021e66036991d44fe", func := "tessera/tesseralaw24.PruneOn", spec := "pruneOn", unfollowed := true, recurses := true, plainKeys := false, apart := false, narrowed := true }
def PruneOnUptoSaid : Prop := pruneOnUptoRow.holds Try.pinned (OpenSpec.upto pruneOnSpec)

/-- 'tesseralaw24.PruneKept', WHERE WHAT IT READS IS OF BULK AT MOST 1048576: true; the input reads as it did. -/
def pruneKeptUptoRow : OpenClaim := { program := "ytbepmbihonnkaaa", sum := "5b0117358dbe698f19175b7d619a34e46648a0703399300021e66036991d44fe", func := "tessera/tesseralaw24.PruneKept", spec := "pruneKept", unfollowed := true, recurses := true, plainKeys := false, apart := false, narrowed := true }
def PruneKeptUptoSaid : Prop := pruneKeptUptoRow.holds Try.pinned (OpenSpec.upto pruneKeptSpec)

end Rows
end Go.Proofs.Ytbepmbihonnkaaa
