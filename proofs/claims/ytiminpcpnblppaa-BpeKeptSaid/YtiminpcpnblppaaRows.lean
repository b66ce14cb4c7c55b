/-
  No cell of these rows narrows 'for every input' (looked for: loops, veiled, ifaces, maps, wideKeys, modest, calm, conditions, laid).
  DERIVED. THE GIVEN ROWS OF THIS SEAT. 7 by the template 'for every input the law returns true; each argument reads behind the call as it read before'; 0 by the template 'total and deterministic' (their statements: YtiminpcpnblppaaTotals.lean).
  GIVEN WITH THE SEED: the statements are not yours to turn. If you find one false, say at which input.
  Laid BY PROGRAM, IN A SANDBOX (cutbox-rows.mjs): the forced cells as the released guide's own fill.sh prints them over the translation 08f46a3cfa0eacb0… (all of the seat's roots in one cut). By AI agents, Wed Nov 11 2026. No macro, syntax, notation, axiom, sorry.
-/
import Derived.Test.YtiminpcpnblppaaChecked
import GoSem.Claim
import GoSem.ClaimJoined
import GoSem.ClaimMapViews
import Derived.JoinedTies
import Derived.KernelRfl
namespace Go.Proofs.Ytiminpcpnblppaa
/- THE CELL 'sum', in the pinned program and in every row, IS THE sha256 OF THE DUMP (.gsa) THAT YtiminpcpnblppaaProg.lean LOADS. Nothing in Lean hashes anything: it is a label: what it is worth is what the hold of that sum in a sandbox is worth. -/
noncomputable def Try.pinned : Pinned := { name := "ytiminpcpnblppaa", sum := "08f46a3cfa0eacb0d91ea23c19485f4337858d9ed6f81dd828058dadb4bd1b04", checked := Try.checked }
namespace Rows
def none {H : Type} : Left H := { results := [], args := [] }

/-- 'tesseralaw10.BpeJoins': WHATEVER THE INPUT: true; the input reads as it did. -/
def bpeJoinsSpec : ChangeSpec := { name := "bpeJoins", fn := fun _ => fun
  | [d1, d2] => { results := [.lit (.bool true)], args := [d1, d2] }
  | _ => none }
def bpeJoinsRow : OpenClaim := { program := "ytiminpcpnblppaa", sum := "08f46a3cfa0eacb0d91ea23c19485f4337858d9ed6f81dd828058dadb4bd1b04", func := "tessera/tesseralaw10.BpeJoins", spec := "bpeJoins", unfollowed := true, recurses := true, plainKeys := false, apart := false }
def BpeJoinsSaid : Prop := bpeJoinsRow.holds Try.pinned (OpenSpec.ofChange bpeJoinsSpec)

/-- ITS FALSE NEIGHBOUR: 'it returns false'. Refute it at one input. -/
def bpeJoinsWrong : ChangeSpec := { name := "bpeJoins", fn := fun _ => fun
  | [d1, d2] => { results := [.lit (.bool false)], args := [d1, d2] }
  | _ => none }
def BpeJoinsWrongFalsely : Prop := bpeJoinsRow.holds Try.pinned (OpenSpec.ofChange bpeJoinsWrong)

/-- 'tesseralaw10.BpeEnds': WHATEVER THE INPUT: true; the input reads as it did. -/
def bpeEndsSpec : ChangeSpec := { name := "bpeEnds", fn := fun _ => fun
  | [d1, d2] => { results := [.lit (.bool true)], args := [d1, d2] }
  | _ => none }
def bpeEndsRow : OpenClaim := { program := "ytiminpcpnblppaa", sum := "08f46a3cfa0eacb0d91ea23c19485f4337858d9ed6f81dd828058dadb4bd1b04", func := "tessera/tesseralaw10.BpeEnds", spec := "bpeEnds", unfollowed := true, recurses := true, plainKeys := false, apart := false }
def BpeEndsSaid : Prop := bpeEndsRow.holds Try.pinned (OpenSpec.ofChange bpeEndsSpec)

/-- ITS FALSE NEIGHBOUR: 'it returns false'. Refute it at one input. -/
def bpeEndsWrong : ChangeSpec := { name := "bpeEnds", fn := fun _ => fun
  | [d1, d2] => { results := [.lit (.bool false)], args := [d1, d2] }
  | _ => none }
def BpeEndsWrongFalsely : Prop := bpeEndsRow.holds Try.pinned (OpenSpec.ofChange bpeEndsWrong)

/-- 'tesseralaw10.BpeCuts': WHATEVER THE INPUT: true; the input reads as it did. -/
def bpeCutsSpec : ChangeSpec := { name := "bpeCuts", fn := fun _ => fun
  | [d1, d2, d3] => { results := [.lit (.bool true)], args := [d1, d2, d3] }
  | _ => none }
def bpeCutsRow : OpenClaim := { program := "ytiminpcpnblppaa", sum := "08f46a3cfa0eacb0d91ea23c19485f4337858d9ed6f81dd828058dadb4bd1b04", func := "tessera/tesseralaw10.BpeCuts", spec := "bpeCuts", unfollowed := true, recurses := true, plainKeys := false, apart := false }
def BpeCutsSaid : Prop := bpeCutsRow.holds Try.pinned (OpenSpec.ofChange bpeCutsSpec)

/-- ITS FALSE NEIGHBOUR: 'it returns false'. Refute it at one input. -/
def bpeCutsWrong : ChangeSpec := { name := "bpeCuts", fn := fun _ => fun
  | [d1, d2, d3] => { results := [.lit (.bool false)], args := [d1, d2, d3] }
  | _ => none }
def BpeCutsWrongFalsely : Prop := bpeCutsRow.holds Try.pinned (OpenSpec.ofChange bpeCutsWrong)

/-- 'tesseralaw10.BpeKept': WHATEVER THE INPUT: true; the input reads as it did. -/
def bpeKeptSpec : ChangeSpec := { name := "bpeKept", fn := fun _ => fun
  | [d1, d2] => { results := [.lit (.bool true)], args := [d1, d2] }
  | _ => none }
def bpeKeptRow : OpenClaim := { program := "ytiminpcpnblppaa", sum := "08f46a3cfa0eacb0d91ea23c19485f4337858d9ed6f81dd828058dadb4bd1b04", func := "tessera/tesseralaw10.BpeKept", spec := "bpeKept", unfollowed := true, recurses := true, plainKeys := false, apart := false }
def BpeKeptSaid : Prop := bpeKeptRow.holds Try.pinned (OpenSpec.ofChange bpeKeptSpec)

/-- ITS FALSE NEIGHBOUR: 'it returns false'. Refute it at one input. -/
def bpeKeptWrong : ChangeSpec := { name := "bpeKept", fn := fun _ => fun
  | [d1, d2] => { results := [.lit (.bool false)], args := [d1, d2] }
  | _ => none }
def BpeKeptWrongFalsely : Prop := bpeKeptRow.holds Try.pinned (OpenSpec.ofChange bpeKeptWrong)

/-- 'tesseralaw10.BpeNumbers': WHATEVER THE INPUT: true; the input reads as it did. -/
def bpeNumbersSpec : ChangeSpec := { name := "bpeNumbers", fn := fun _ => fun
  | [] => { results := [.lit (.bool true)], args := [] }
  | _ => none }
def bpeNumbersRow : OpenClaim := { program := "ytiminpcpnblppaa", sum := "08f46a3cfa0eacb0d91ea23c19485f4337858d9ed6f81dd828058dadb4bd1b04", func := "tessera/tesseralaw10.BpeNumbers", spec := "bpeNumbers", unfollowed := true, recurses := true, plainKeys := false, apart := false }
def BpeNumbersSaid : Prop := bpeNumbersRow.holds Try.pinned (OpenSpec.ofChange bpeNumbersSpec)

/-- ITS FALSE NEIGHBOUR: 'it returns false'. Refute it at one input. -/
def bpeNumbersWrong : ChangeSpec := { name := "bpeNumbers", fn := fun _ => fun
  | [] => { results := [.lit (.bool false)], args := [] }
  | _ => none }
def BpeNumbersWrongFalsely : Prop := bpeNumbersRow.holds Try.pinned (OpenSpec.ofChange bpeNumbersWrong)

/-- 'tesseralaw10.BpeMerges': WHATEVER THE INPUT: true; the input reads as it did. -/
def bpeMergesSpec : ChangeSpec := { name := "bpeMerges", fn := fun _ => fun
  | [d1, d2, d3] => { results := [.lit (.bool true)], args := [d1, d2, d3] }
  | _ => none }
def bpeMergesRow : OpenClaim := { program := "ytiminpcpnblppaa", sum := "08f46a3cfa0eacb0d91ea23c19485f4337858d9ed6f81dd828058dadb4bd1b04", func := "tessera/tesseralaw10.BpeMerges", spec := "bpeMerges", unfollowed := true, recurses := true, plainKeys := false, apart := false }
def BpeMergesSaid : Prop := bpeMergesRow.holds Try.pinned (OpenSpec.ofChange bpeMergesSpec)

/-- ITS FALSE NEIGHBOUR: 'it returns false'. Refute it at one input. -/
def bpeMergesWrong : ChangeSpec := { name := "bpeMerges", fn := fun _ => fun
  | [d1, d2, d3] => { results := [.lit (.bool false)], args := [d1, d2, d3] }
  | _ => none }
def BpeMergesWrongFalsely : Prop := bpeMergesRow.holds Try.pinned (OpenSpec.ofChange bpeMergesWrong)

/-- 'tesseralaw10.BpeSteps': WHATEVER THE INPUT: true; the input reads as it did. -/
def bpeStepsSpec : ChangeSpec := { name := "bpeSteps", fn := fun _ => fun
  | [d1, d2] => { results := [.lit (.bool true)], args := [d1, d2] }
  | _ => none }
def bpeStepsRow : OpenClaim := { program := "ytiminpcpnblppaa", sum := "08f46a3cfa0eacb0d91ea23c19485f4337858d9ed6f81dd828058dadb4bd1b04", func := "tessera/tesseralaw10.BpeSteps", spec := "bpeSteps", unfollowed := true, recurses := true, plainKeys := false, apart := false }
def BpeStepsSaid : Prop := bpeStepsRow.holds Try.pinned (OpenSpec.ofChange bpeStepsSpec)

/-- ITS FALSE NEIGHBOUR: 'it returns false'. Refute it at one input. -/
def bpeStepsWrong : ChangeSpec := { name := "bpeSteps", fn := fun _ => fun
  | [d1, d2] => { results := [.lit (.bool false)], args := [d1, d2] }
  | _ => none }
def BpeStepsWrongFalsely : Prop := bpeStepsRow.holds Try.pinned (OpenSpec.ofChange bpeStepsWrong)

/- THE SECOND FORM. 'bulk': how many values and letters a reading holds, each counted each time it is reached (what is shared counts as often as it is met; a slice's spare places count too). A statement '..UptoSaid' is the law's where the arguments, and the package variables that the reading takes, are together of bulk at most 1048576: NARROWER than '..Said'. Prove '..Said' where nothing that the law and all that it calls make is longer than what came in: it says more and counts as full. Else prove '..UptoSaid'. A law counts once. -/
mutual
def uptoBulk {H : Type} : DataW H → Nat
  | .lit (.string bytes) => bytes.length + 1
  | .lit _ => 1
  | .nil => 1
  | .ptr d => uptoBulk d + 1
  | .slice elems spare => uptoBulkAll elems + uptoBulkAll spare + 1
  | .agg parts => uptoBulkAll parts + 1
  | .iface _ d => uptoBulk d + 1
  | .map entries => uptoBulkEntries entries + 1
  | .held _ => 1
def uptoBulkAll {H : Type} : List (DataW H) → Nat
  | [] => 0
  | d :: r => uptoBulk d + uptoBulkAll r
def uptoBulkEntries {H : Type} : List (Lit × DataW H) → Nat
  | [] => 0
  | x :: r => uptoBulkEntry x + uptoBulkEntries r
def uptoBulkEntry {H : Type} : Lit × DataW H → Nat
  | (.string bytes, d) => bytes.length + uptoBulk d + 1
  | (_, d) => uptoBulk d + 1
 end
def uptoSmall : (H : Type) → List (DataW H) → Bool := fun _ ds => decide (uptoBulkAll ds ≤ 1048576)
def OpenSpec.upto (s : _root_.Go.ChangeSpec) : _root_.Go.OpenSpec := { _root_.Go.OpenSpec.ofChange s with cond := some uptoSmall }

/-- 'tesseralaw10.BpeJoins', WHERE WHAT IT READS IS OF BULK AT MOST 1048576: true; the input reads as it did. -/
def bpeJoinsUptoRow : OpenClaim := { program := "ytiminpcpnblppaa", sum := "08f46a3cfa0eacb0d91ea23c19485f4337858d9ed6f81dd828058dadb4bd1b04", func := "tessera/tesseralaw10.BpeJoins", spec := "bpeJoins", unfollowed := true, recurses := true, plainKeys := false, apart := false, narrowed := true }
def BpeJoinsUptoSaid : Prop := bpeJoinsUptoRow.holds Try.pinned (OpenSpec.upto bpeJoinsSpec)

/-- 'tesseralaw10.BpeEnds', WHERE WHAT IT READS IS OF BULK AT MOST 1048576: true; the input reads as it did. -/
def bpeEndsUptoRow : OpenClaim := { program := "ytiminpcpnblppaa", sum := "08f46a3cfa0eacb0d91ea23c19485f4337858d9ed6f81dd828058dadb4bd1b04", func := "tessera/tesseralaw10.BpeEnds", spec := "bpeEnds", unfollowed := true, recurses := true, plainKeys := false, apart := false, narrowed := true }
def BpeEndsUptoSaid : Prop := bpeEndsUptoRow.holds Try.pinned (OpenSpec.upto bpeEndsSpec)

/-- 'tesseralaw10.BpeCuts', WHERE WHAT IT READS IS OF BULK AT MOST 1048576: true; the input reads as it did. -/
def bpeCutsUptoRow : OpenClaim := { program := "ytiminpcpnblppaa", sum := "08f46a3cfa0eacb0d91ea23c19485f4337858d9ed6f81dd828058dadb4bd1b04", func := "tessera/tesseralaw10.BpeCuts", spec := "bpeCuts", unfollowed := true, recurses := true, plainKeys := false, apart := false, narrowed := true }
def BpeCutsUptoSaid : Prop := bpeCutsUptoRow.holds Try.pinned (OpenSpec.upto bpeCutsSpec)

/-- 'tesseralaw10.BpeKept', WHERE WHAT IT READS IS OF BULK AT MOST 1048576: true; the input reads as it did. -/
def bpeKeptUptoRow : OpenClaim := { program := "ytiminpcpnblppaa", sum := "08f46a3cfa0eacb0d91ea23c19485f4337858d9ed6f81dd828058dadb4bd1b04", func := "tessera/tesseralaw10.BpeKept", spec := "bpeKept", unfollowed := true, recurses := true, plainKeys := false, apart := false, narrowed := true }
def BpeKeptUptoSaid : Prop := bpeKeptUptoRow.holds Try.pinned (OpenSpec.upto bpeKeptSpec)

/-- 'tesseralaw10.BpeNumbers', WHERE WHAT IT READS IS OF BULK AT MOST 1048576: true; the input reads as it did. -/
def bpeNumbersUptoRow : OpenClaim := { program := "ytiminpcpnblppaa", sum := "08f46a3cfa0eacb0d91ea23c19485f4337858d9ed6f81dd828058dadb4bd1b04", func := "tessera/tesseralaw10.BpeNumbers", spec := "bpeNumbers", unfollowed := true, recurses := true, plainKeys := false, apart := false, narrowed := true }
def BpeNumbersUptoSaid : Prop := bpeNumbersUptoRow.holds Try.pinned (OpenSpec.upto bpeNumbersSpec)

/-- 'tesseralaw10.BpeMerges', WHERE WHAT IT READS IS OF BULK AT MOST 1048576: true; the input reads as it did. -/
def bpeMergesUptoRow : OpenClaim := { program := "ytiminpcpnblppaa", sum := "08f46a3cfa0eacb0d91ea23c19485f4337858d9ed6f81dd828058dadb4bd1b04", func := "tessera/tesseralaw10.BpeMerges", spec := "bpeMerges", unfollowed := true, recurses := true, plainKeys := false, apart := false, narrowed := true }
def BpeMergesUptoSaid : Prop := bpeMergesUptoRow.holds Try.pinned (OpenSpec.upto bpeMergesSpec)

/-- 'tesseralaw10.BpeSteps', WHERE WHAT IT READS IS OF BULK AT MOST 1048576: true; the input reads as it did. -/
def bpeStepsUptoRow : OpenClaim := { program := "ytiminpcpnblppaa", sum := "08f46a3cfa0eacb0d91ea23c19485f4337858d9ed6f81dd828058dadb4bd1b04", func := "tessera/tesseralaw10.BpeSteps", spec := "bpeSteps", unfollowed := true, recurses := true, plainKeys := false, apart := false, narrowed := true }
def BpeStepsUptoSaid : Prop := bpeStepsUptoRow.holds Try.pinned (OpenSpec.upto bpeStepsSpec)

end Rows
end Go.Proofs.Ytiminpcpnblppaa
