/-
  No cell of these rows narrows 'for every input' (looked for: loops, veiled, ifaces, maps, wideKeys, modest, calm, conditions, laid).
  DERIVED. THE GIVEN ROWS OF THIS SEAT. 7 by the template 'for every input the law returns true; each argument reads behind the call as it read before'; 0 by the template 'total and deterministic' (their statements: YtddehfhklalfgaaTotals.lean).
  GIVEN WITH THE SEED: the statements are not yours to turn. If you find one false, say at which input.
  Laid BY PROGRAM, IN A SANDBOX (cutbox-rows.mjs): the forced cells as the released guide's own fill.sh prints them over the translation 1531053fb1a9675c… (all of the seat's roots in one cut). By AI agents, Wed Nov 11 2026. No macro, syntax, notation, axiom, sorry.
-/
import Derived.Test.YtddehfhklalfgaaChecked
import GoSem.Claim
import GoSem.ClaimJoined
import GoSem.ClaimMapViews
import Derived.JoinedTies
import Derived.KernelRfl
namespace Go.Proofs.Ytddehfhklalfgaa
/- THE CELL 'sum', in the pinned program and in every row, IS THE sha256 OF THE DUMP (.gsa) THAT YtddehfhklalfgaaProg.lean LOADS. Nothing in Lean hashes anything: it is a label: what it is worth is what the hold of that sum in a sandbox is worth. -/
noncomputable def Try.pinned : Pinned := { name := "ytddehfhklalfgaa", sum := "1531053fb1a9675cb26949c376e1ddae0346fc6b090373c85c300343ab56e39e", checked := Try.checked }
namespace Rows
def none {H : Type} : Left H := { results := [], args := [] }

/-- 'strongroomlaw03.BlockMuls': WHATEVER THE INPUT: true; the input reads as it did. -/
def blockMulsSpec : ChangeSpec := { name := "blockMuls", fn := fun _ => fun
  | [d1, d2] => { results := [.lit (.bool true)], args := [d1, d2] }
  | _ => none }
def blockMulsRow : OpenClaim := { program := "ytddehfhklalfgaa", sum := "1531053fb1a9675cb26949c376e1ddae0346fc6b090373c85c300343ab56e39e", func := "strongroom/strongroomlaw03.BlockMuls", spec := "blockMuls", apart := false }
def BlockMulsSaid : Prop := blockMulsRow.holds Try.pinned (OpenSpec.ofChange blockMulsSpec)

/-- ITS FALSE NEIGHBOUR: 'it returns false'. Refute it at one input. -/
def blockMulsWrong : ChangeSpec := { name := "blockMuls", fn := fun _ => fun
  | [d1, d2] => { results := [.lit (.bool false)], args := [d1, d2] }
  | _ => none }
def BlockMulsWrongFalsely : Prop := blockMulsRow.holds Try.pinned (OpenSpec.ofChange blockMulsWrong)

/-- 'strongroomlaw03.BlockSpreads': WHATEVER THE INPUT: true; the input reads as it did. -/
def blockSpreadsSpec : ChangeSpec := { name := "blockSpreads", fn := fun _ => fun
  | [d1, d2, d3] => { results := [.lit (.bool true)], args := [d1, d2, d3] }
  | _ => none }
def blockSpreadsRow : OpenClaim := { program := "ytddehfhklalfgaa", sum := "1531053fb1a9675cb26949c376e1ddae0346fc6b090373c85c300343ab56e39e", func := "strongroom/strongroomlaw03.BlockSpreads", spec := "blockSpreads", apart := false }
def BlockSpreadsSaid : Prop := blockSpreadsRow.holds Try.pinned (OpenSpec.ofChange blockSpreadsSpec)

/-- ITS FALSE NEIGHBOUR: 'it returns false'. Refute it at one input. -/
def blockSpreadsWrong : ChangeSpec := { name := "blockSpreads", fn := fun _ => fun
  | [d1, d2, d3] => { results := [.lit (.bool false)], args := [d1, d2, d3] }
  | _ => none }
def BlockSpreadsWrongFalsely : Prop := blockSpreadsRow.holds Try.pinned (OpenSpec.ofChange blockSpreadsWrong)

/-- 'strongroomlaw03.BlockHashes': WHATEVER THE INPUT: true; the input reads as it did. -/
def blockHashesSpec : ChangeSpec := { name := "blockHashes", fn := fun _ => fun
  | [d1, d2] => { results := [.lit (.bool true)], args := [d1, d2] }
  | _ => none }
def blockHashesRow : OpenClaim := { program := "ytddehfhklalfgaa", sum := "1531053fb1a9675cb26949c376e1ddae0346fc6b090373c85c300343ab56e39e", func := "strongroom/strongroomlaw03.BlockHashes", spec := "blockHashes", apart := false }
def BlockHashesSaid : Prop := blockHashesRow.holds Try.pinned (OpenSpec.ofChange blockHashesSpec)

/-- ITS FALSE NEIGHBOUR: 'it returns false'. Refute it at one input. -/
def blockHashesWrong : ChangeSpec := { name := "blockHashes", fn := fun _ => fun
  | [d1, d2] => { results := [.lit (.bool false)], args := [d1, d2] }
  | _ => none }
def BlockHashesWrongFalsely : Prop := blockHashesRow.holds Try.pinned (OpenSpec.ofChange blockHashesWrong)

/-- 'strongroomlaw03.BlockSteps': WHATEVER THE INPUT: true; the input reads as it did. -/
def blockStepsSpec : ChangeSpec := { name := "blockSteps", fn := fun _ => fun
  | [d1, d2, d3] => { results := [.lit (.bool true)], args := [d1, d2, d3] }
  | _ => none }
def blockStepsRow : OpenClaim := { program := "ytddehfhklalfgaa", sum := "1531053fb1a9675cb26949c376e1ddae0346fc6b090373c85c300343ab56e39e", func := "strongroom/strongroomlaw03.BlockSteps", spec := "blockSteps", apart := false }
def BlockStepsSaid : Prop := blockStepsRow.holds Try.pinned (OpenSpec.ofChange blockStepsSpec)

/-- ITS FALSE NEIGHBOUR: 'it returns false'. Refute it at one input. -/
def blockStepsWrong : ChangeSpec := { name := "blockSteps", fn := fun _ => fun
  | [d1, d2, d3] => { results := [.lit (.bool false)], args := [d1, d2, d3] }
  | _ => none }
def BlockStepsWrongFalsely : Prop := blockStepsRow.holds Try.pinned (OpenSpec.ofChange blockStepsWrong)

/-- 'strongroomlaw03.BlockNexts': WHATEVER THE INPUT: true; the input reads as it did. -/
def blockNextsSpec : ChangeSpec := { name := "blockNexts", fn := fun _ => fun
  | [d] => { results := [.lit (.bool true)], args := [d] }
  | _ => none }
def blockNextsRow : OpenClaim := { program := "ytddehfhklalfgaa", sum := "1531053fb1a9675cb26949c376e1ddae0346fc6b090373c85c300343ab56e39e", func := "strongroom/strongroomlaw03.BlockNexts", spec := "blockNexts", apart := false }
def BlockNextsSaid : Prop := blockNextsRow.holds Try.pinned (OpenSpec.ofChange blockNextsSpec)

/-- ITS FALSE NEIGHBOUR: 'it returns false'. Refute it at one input. -/
def blockNextsWrong : ChangeSpec := { name := "blockNexts", fn := fun _ => fun
  | [d] => { results := [.lit (.bool false)], args := [d] }
  | _ => none }
def BlockNextsWrongFalsely : Prop := blockNextsRow.holds Try.pinned (OpenSpec.ofChange blockNextsWrong)

/-- 'strongroomlaw03.BlockSums': WHATEVER THE INPUT: true; the input reads as it did. -/
def blockSumsSpec : ChangeSpec := { name := "blockSums", fn := fun _ => fun
  | [d1, d2] => { results := [.lit (.bool true)], args := [d1, d2] }
  | _ => none }
def blockSumsRow : OpenClaim := { program := "ytddehfhklalfgaa", sum := "1531053fb1a9675cb26949c376e1ddae0346fc6b090373c85c300343ab56e39e", func := "strongroom/strongroomlaw03.BlockSums", spec := "blockSums", apart := false }
def BlockSumsSaid : Prop := blockSumsRow.holds Try.pinned (OpenSpec.ofChange blockSumsSpec)

/-- ITS FALSE NEIGHBOUR: 'it returns false'. Refute it at one input. -/
def blockSumsWrong : ChangeSpec := { name := "blockSums", fn := fun _ => fun
  | [d1, d2] => { results := [.lit (.bool false)], args := [d1, d2] }
  | _ => none }
def BlockSumsWrongFalsely : Prop := blockSumsRow.holds Try.pinned (OpenSpec.ofChange blockSumsWrong)

/-- 'strongroomlaw03.BlockLinear': WHATEVER THE INPUT: true; the input reads as it did. -/
def blockLinearSpec : ChangeSpec := { name := "blockLinear", fn := fun _ => fun
  | [d1, d2, d3] => { results := [.lit (.bool true)], args := [d1, d2, d3] }
  | _ => none }
def blockLinearRow : OpenClaim := { program := "ytddehfhklalfgaa", sum := "1531053fb1a9675cb26949c376e1ddae0346fc6b090373c85c300343ab56e39e", func := "strongroom/strongroomlaw03.BlockLinear", spec := "blockLinear", apart := false }
def BlockLinearSaid : Prop := blockLinearRow.holds Try.pinned (OpenSpec.ofChange blockLinearSpec)

/-- ITS FALSE NEIGHBOUR: 'it returns false'. Refute it at one input. -/
def blockLinearWrong : ChangeSpec := { name := "blockLinear", fn := fun _ => fun
  | [d1, d2, d3] => { results := [.lit (.bool false)], args := [d1, d2, d3] }
  | _ => none }
def BlockLinearWrongFalsely : Prop := blockLinearRow.holds Try.pinned (OpenSpec.ofChange blockLinearWrong)

/- THE SECOND FORM. 'bulk': how many values and letters a reading holds, each counted each time it is reached (what is shared counts as often as it is met; a slice's spare places count too). A statement '..UptoSaid' is the law's where the arguments, and the package variables that the reading takes, are together of bulk at most 1048576: NARROWER than '..Said'. Prove '..Said' where nothing that the law and all that it calls make is longer than what came in: it says more and counts as full. Else prove '..UptoSaid'. A law counts once. -/
mutual
def uptoBulk {H : Type} : DataW H → Nat
  | .lit (.string bytes) => bytes.length + 1
  | .lit _ => 1
  | .nil => 1
  | .ptr d => uptoBulk d + 1
  | .slice elems spare => uptoBulkAll elems + uptoBulkAll spare + 1
  | .agg parts => uptoBulkAll parts + 1
  | .iface _ d => uptoBulk d + 1
  | .map entries => uptoBulkEntries entries + 1
  | .held _ => 1
def uptoBulkAll {H : Type} : List (DataW H) → Nat
  | [] => 0
  | d :: r => uptoBulk d + uptoBulkAll r
def uptoBulkEntries {H : Type} : List (Lit × DataW H) → Nat
  | [] => 0
  | x :: r => uptoBulkEntry x + uptoBulkEntries r
def uptoBulkEntry {H : Type} : Lit × DataW H → Nat
  | (.string bytes, d) => bytes.length + uptoBulk d + 1
  | (_, d) => uptoBulk d + 1
 end
def uptoSmall : (H : Type) → List (DataW H) → Bool := fun _ ds => decide (uptoBulkAll ds ≤ 1048576)
def OpenSpec.upto (s : _root_.Go.ChangeSpec) : _root_.Go.OpenSpec := { _root_.Go.OpenSpec.ofChange s with cond := some uptoSmall }

/-- 'strongroomlaw03.BlockMuls', WHERE WHAT IT READS IS OF BULK AT MOST 1048576: true; the input reads as it did. -/
def blockMulsUptoRow : OpenClaim := { program := "ytddehfhklalfgaa", sum := "1531053fb1a9675cb26949c376e1ddae0346fc6b090373c85c300343ab56e39e", func := "strongroom/strongroomlaw03.BlockMuls", spec := "blockMuls", apart := false, narrowed := true }
def BlockMulsUptoSaid : Prop := blockMulsUptoRow.holds Try.pinned (OpenSpec.upto blockMulsSpec)

/-- 'strongroomlaw03.BlockSpreads', WHERE WHAT IT READS IS OF BULK AT MOST 1048576: true; the input reads as it did. -/
def blockSpreadsUptoRow : OpenClaim := { program := "ytddehfhklalfgaa", sum := "1531053fb1a9675cb26949c376e1ddae0346fc6b090373c85c300343ab56e39e", func := "strongroom/strongroomlaw03.BlockSpreads", spec := "blockSpreads", apart := false, narrowed := true }
def BlockSpreadsUptoSaid : Prop := blockSpreadsUptoRow.holds Try.pinned (OpenSpec.upto blockSpreadsSpec)

/-- 'strongroomlaw03.BlockHashes', WHERE WHAT IT READS IS OF BULK AT MOST 1048576: true; the input reads as it did. -/
def blockHashesUptoRow : OpenClaim := { program := "ytddehfhklalfgaa", sum := "1531053fb1a9675cb26949c376e1ddae0346fc6b090373c85c300343ab56e39e", func := "strongroom/strongroomlaw03.BlockHashes", spec := "blockHashes", apart := false, narrowed := true }
def BlockHashesUptoSaid : Prop := blockHashesUptoRow.holds Try.pinned (OpenSpec.upto blockHashesSpec)

/-- 'strongroomlaw03.BlockSteps', WHERE WHAT IT READS IS OF BULK AT MOST 1048576: true; the input reads as it did. -/
def blockStepsUptoRow : OpenClaim := { program := "ytddehfhklalfgaa", sum := "1531053fb1a9675cb26949c376e1ddae0346fc6b090373c85c300343ab56e39e", func := "strongroom/strongroomlaw03.BlockSteps", spec := "blockSteps", apart := false, narrowed := true }
def BlockStepsUptoSaid : Prop := blockStepsUptoRow.holds Try.pinned (OpenSpec.upto blockStepsSpec)

/-- 'strongroomlaw03.BlockNexts', WHERE WHAT IT READS IS OF BULK AT MOST 1048576: true; the input reads as it did. -/
def blockNextsUptoRow : OpenClaim := { program := "ytddehfhklalfgaa", sum := "1531053fb1a9675cb26949c376e1ddae0346fc6b090373c85c300343ab56e39e", func := "strongroom/strongroomlaw03.BlockNexts", spec := "blockNexts", apart := false, narrowed := true }
def BlockNextsUptoSaid : Prop := blockNextsUptoRow.holds Try.pinned (OpenSpec.upto blockNextsSpec)

/-- 'strongroomlaw03.BlockSums', WHERE WHAT IT READS IS OF BULK AT MOST 1048576: true; the input reads as it did. -/
def blockSumsUptoRow : OpenClaim := { program := "ytddehfhklalfgaa", sum := "1531053fb1a9675cb26949c376e1ddae0346fc6b090373c85c300343ab56e39e", func := "strongroom/strongroomlaw03.BlockSums", spec := "blockSums", apart := false, narrowed := true }
def BlockSumsUptoSaid : Prop := blockSumsUptoRow.holds Try.pinned (OpenSpec.upto blockSumsSpec)

/-- 'strongroomlaw03.BlockLinear', WHERE WHAT IT READS IS OF BULK AT MOST 1048576: true; the input reads as it did. -/
def blockLinearUptoRow : OpenClaim := { program := "ytddehfhklalfgaa", sum := "1531053fb1a9675cb26949c376e1ddae0346fc6b090373c85c300343ab56e39e", func := "strongroom/strongroomlaw03.BlockLinear", spec := "blockLinear", apart := false, narrowed := true }
def BlockLinearUptoSaid : Prop := blockLinearUptoRow.holds Try.pinned (OpenSpec.upto blockLinearSpec)

end Rows
end Go.Proofs.Ytddehfhklalfgaa
