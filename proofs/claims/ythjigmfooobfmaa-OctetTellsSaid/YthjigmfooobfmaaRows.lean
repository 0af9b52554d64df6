/-
  No cell of these rows narrows 'for every input' (looked for: loops, veiled, ifaces, maps, wideKeys, modest, calm, conditions, laid).
  DERIVED. THE GIVEN ROWS OF THIS SEAT. 12 by the template 'for every input the law returns true; each argument reads behind the call as it read before'; 0 by the template 'total and deterministic' (their statements: YthjigmfooobfmaaTotals.lean).
  GIVEN WITH THE SEED: the statements are not yours to turn. If you find one false, say at which input.
  Laid BY PROGRAM, IN A SANDBOX (cutbox-rows.mjs): the forced cells as the released guide's own fill.sh prints them over the translation a2500a92d364e8bf… (all of the seat's roots in one cut). By AI agents, Wed Nov 11 2026. No macro, syntax, notation, axiom, sorry.
-/
import Derived.Test.YthjigmfooobfmaaChecked
import GoSem.Claim
import GoSem.ClaimJoined
import GoSem.ClaimMapViews
import Derived.JoinedTies
import Derived.KernelRfl
namespace Go.Proofs.Ythjigmfooobfmaa
/- THE CELL 'sum', in the pinned program and in every row, IS THE sha256 OF THE DUMP (.gsa) THAT YthjigmfooobfmaaProg.lean LOADS. Nothing in Lean hashes anything: it is a label: what it is worth is what the hold of that sum in a sandbox is worth. -/
noncomputable def Try.pinned : Pinned := { name := "ythjigmfooobfmaa", sum := "a2500a92d364e8bf849b317c9e4422b530a0db33c10563b28c9fa0bb8221065e", checked := Try.checked }
namespace Rows
def none {H : Type} : Left H := { results := [], args := [] }

/-- 'strongroomlaw01.OctetMuls': WHATEVER THE INPUT: true; the input reads as it did. -/
def octetMulsSpec : ChangeSpec := { name := "octetMuls", fn := fun _ => fun
  | [d1, d2] => { results := [.lit (.bool true)], args := [d1, d2] }
  | _ => none }
def octetMulsRow : OpenClaim := { program := "ythjigmfooobfmaa", sum := "a2500a92d364e8bf849b317c9e4422b530a0db33c10563b28c9fa0bb8221065e", func := "strongroom/strongroomlaw01.OctetMuls", spec := "octetMuls", apart := false }
def OctetMulsSaid : Prop := octetMulsRow.holds Try.pinned (OpenSpec.ofChange octetMulsSpec)

/-- ITS FALSE NEIGHBOUR: 'it returns false'. Refute it at one input. -/
def octetMulsWrong : ChangeSpec := { name := "octetMuls", fn := fun _ => fun
  | [d1, d2] => { results := [.lit (.bool false)], args := [d1, d2] }
  | _ => none }
def OctetMulsWrongFalsely : Prop := octetMulsRow.holds Try.pinned (OpenSpec.ofChange octetMulsWrong)

/-- 'strongroomlaw01.OctetInverts': WHATEVER THE INPUT: true; the input reads as it did. -/
def octetInvertsSpec : ChangeSpec := { name := "octetInverts", fn := fun _ => fun
  | [d] => { results := [.lit (.bool true)], args := [d] }
  | _ => none }
def octetInvertsRow : OpenClaim := { program := "ythjigmfooobfmaa", sum := "a2500a92d364e8bf849b317c9e4422b530a0db33c10563b28c9fa0bb8221065e", func := "strongroom/strongroomlaw01.OctetInverts", spec := "octetInverts", apart := false }
def OctetInvertsSaid : Prop := octetInvertsRow.holds Try.pinned (OpenSpec.ofChange octetInvertsSpec)

/-- ITS FALSE NEIGHBOUR: 'it returns false'. Refute it at one input. -/
def octetInvertsWrong : ChangeSpec := { name := "octetInverts", fn := fun _ => fun
  | [d] => { results := [.lit (.bool false)], args := [d] }
  | _ => none }
def OctetInvertsWrongFalsely : Prop := octetInvertsRow.holds Try.pinned (OpenSpec.ofChange octetInvertsWrong)

/-- 'strongroomlaw01.OctetBoxes': WHATEVER THE INPUT: true; the input reads as it did. -/
def octetBoxesSpec : ChangeSpec := { name := "octetBoxes", fn := fun _ => fun
  | [d] => { results := [.lit (.bool true)], args := [d] }
  | _ => none }
def octetBoxesRow : OpenClaim := { program := "ythjigmfooobfmaa", sum := "a2500a92d364e8bf849b317c9e4422b530a0db33c10563b28c9fa0bb8221065e", func := "strongroom/strongroomlaw01.OctetBoxes", spec := "octetBoxes", apart := false }
def OctetBoxesSaid : Prop := octetBoxesRow.holds Try.pinned (OpenSpec.ofChange octetBoxesSpec)

/-- ITS FALSE NEIGHBOUR: 'it returns false'. Refute it at one input. -/
def octetBoxesWrong : ChangeSpec := { name := "octetBoxes", fn := fun _ => fun
  | [d] => { results := [.lit (.bool false)], args := [d] }
  | _ => none }
def OctetBoxesWrongFalsely : Prop := octetBoxesRow.holds Try.pinned (OpenSpec.ofChange octetBoxesWrong)

/-- 'strongroomlaw01.OctetSpreads': WHATEVER THE INPUT: true; the input reads as it did. -/
def octetSpreadsSpec : ChangeSpec := { name := "octetSpreads", fn := fun _ => fun
  | [d1, d2, d3] => { results := [.lit (.bool true)], args := [d1, d2, d3] }
  | _ => none }
def octetSpreadsRow : OpenClaim := { program := "ythjigmfooobfmaa", sum := "a2500a92d364e8bf849b317c9e4422b530a0db33c10563b28c9fa0bb8221065e", func := "strongroom/strongroomlaw01.OctetSpreads", spec := "octetSpreads", apart := false }
def OctetSpreadsSaid : Prop := octetSpreadsRow.holds Try.pinned (OpenSpec.ofChange octetSpreadsSpec)

/-- ITS FALSE NEIGHBOUR: 'it returns false'. Refute it at one input. -/
def octetSpreadsWrong : ChangeSpec := { name := "octetSpreads", fn := fun _ => fun
  | [d1, d2, d3] => { results := [.lit (.bool false)], args := [d1, d2, d3] }
  | _ => none }
def OctetSpreadsWrongFalsely : Prop := octetSpreadsRow.holds Try.pinned (OpenSpec.ofChange octetSpreadsWrong)

/-- 'strongroomlaw01.OctetTells': WHATEVER THE INPUT: true; the input reads as it did. -/
def octetTellsSpec : ChangeSpec := { name := "octetTells", fn := fun _ => fun
  | [d1, d2] => { results := [.lit (.bool true)], args := [d1, d2] }
  | _ => none }
def octetTellsRow : OpenClaim := { program := "ythjigmfooobfmaa", sum := "a2500a92d364e8bf849b317c9e4422b530a0db33c10563b28c9fa0bb8221065e", func := "strongroom/strongroomlaw01.OctetTells", spec := "octetTells", apart := false }
def OctetTellsSaid : Prop := octetTellsRow.holds Try.pinned (OpenSpec.ofChange octetTellsSpec)

/-- ITS FALSE NEIGHBOUR: 'it returns false'. Refute it at one input. -/
def octetTellsWrong : ChangeSpec := { name := "octetTells", fn := fun _ => fun
  | [d1, d2] => { results := [.lit (.bool false)], args := [d1, d2] }
  | _ => none }
def OctetTellsWrongFalsely : Prop := octetTellsRow.holds Try.pinned (OpenSpec.ofChange octetTellsWrong)

/-- 'strongroomlaw01.OctetPowers': WHATEVER THE INPUT: true; the input reads as it did. -/
def octetPowersSpec : ChangeSpec := { name := "octetPowers", fn := fun _ => fun
  | [d] => { results := [.lit (.bool true)], args := [d] }
  | _ => none }
def octetPowersRow : OpenClaim := { program := "ythjigmfooobfmaa", sum := "a2500a92d364e8bf849b317c9e4422b530a0db33c10563b28c9fa0bb8221065e", func := "strongroom/strongroomlaw01.OctetPowers", spec := "octetPowers", apart := false }
def OctetPowersSaid : Prop := octetPowersRow.holds Try.pinned (OpenSpec.ofChange octetPowersSpec)

/-- ITS FALSE NEIGHBOUR: 'it returns false'. Refute it at one input. -/
def octetPowersWrong : ChangeSpec := { name := "octetPowers", fn := fun _ => fun
  | [d] => { results := [.lit (.bool false)], args := [d] }
  | _ => none }
def OctetPowersWrongFalsely : Prop := octetPowersRow.holds Try.pinned (OpenSpec.ofChange octetPowersWrong)

/-- 'strongroomlaw01.OctetDoubles': WHATEVER THE INPUT: true; the input reads as it did. -/
def octetDoublesSpec : ChangeSpec := { name := "octetDoubles", fn := fun _ => fun
  | [d1, d2] => { results := [.lit (.bool true)], args := [d1, d2] }
  | _ => none }
def octetDoublesRow : OpenClaim := { program := "ythjigmfooobfmaa", sum := "a2500a92d364e8bf849b317c9e4422b530a0db33c10563b28c9fa0bb8221065e", func := "strongroom/strongroomlaw01.OctetDoubles", spec := "octetDoubles", apart := false }
def OctetDoublesSaid : Prop := octetDoublesRow.holds Try.pinned (OpenSpec.ofChange octetDoublesSpec)

/-- ITS FALSE NEIGHBOUR: 'it returns false'. Refute it at one input. -/
def octetDoublesWrong : ChangeSpec := { name := "octetDoubles", fn := fun _ => fun
  | [d1, d2] => { results := [.lit (.bool false)], args := [d1, d2] }
  | _ => none }
def OctetDoublesWrongFalsely : Prop := octetDoublesRow.holds Try.pinned (OpenSpec.ofChange octetDoublesWrong)

/-- 'strongroomlaw03.BlockMuls': WHATEVER THE INPUT: true; the input reads as it did. -/
def blockMulsSpec : ChangeSpec := { name := "blockMuls", fn := fun _ => fun
  | [d1, d2] => { results := [.lit (.bool true)], args := [d1, d2] }
  | _ => none }
def blockMulsRow : OpenClaim := { program := "ythjigmfooobfmaa", sum := "a2500a92d364e8bf849b317c9e4422b530a0db33c10563b28c9fa0bb8221065e", func := "strongroom/strongroomlaw03.BlockMuls", spec := "blockMuls", apart := false }
def BlockMulsSaid : Prop := blockMulsRow.holds Try.pinned (OpenSpec.ofChange blockMulsSpec)

/-- ITS FALSE NEIGHBOUR: 'it returns false'. Refute it at one input. -/
def blockMulsWrong : ChangeSpec := { name := "blockMuls", fn := fun _ => fun
  | [d1, d2] => { results := [.lit (.bool false)], args := [d1, d2] }
  | _ => none }
def BlockMulsWrongFalsely : Prop := blockMulsRow.holds Try.pinned (OpenSpec.ofChange blockMulsWrong)

/-- 'strongroomlaw03.BlockSpreads': WHATEVER THE INPUT: true; the input reads as it did. -/
def blockSpreadsSpec : ChangeSpec := { name := "blockSpreads", fn := fun _ => fun
  | [d1, d2, d3] => { results := [.lit (.bool true)], args := [d1, d2, d3] }
  | _ => none }
def blockSpreadsRow : OpenClaim := { program := "ythjigmfooobfmaa", sum := "a2500a92d364e8bf849b317c9e4422b530a0db33c10563b28c9fa0bb8221065e", func := "strongroom/strongroomlaw03.BlockSpreads", spec := "blockSpreads", apart := false }
def BlockSpreadsSaid : Prop := blockSpreadsRow.holds Try.pinned (OpenSpec.ofChange blockSpreadsSpec)

/-- ITS FALSE NEIGHBOUR: 'it returns false'. Refute it at one input. -/
def blockSpreadsWrong : ChangeSpec := { name := "blockSpreads", fn := fun _ => fun
  | [d1, d2, d3] => { results := [.lit (.bool false)], args := [d1, d2, d3] }
  | _ => none }
def BlockSpreadsWrongFalsely : Prop := blockSpreadsRow.holds Try.pinned (OpenSpec.ofChange blockSpreadsWrong)

/-- 'strongroomlaw03.BlockHashes': WHATEVER THE INPUT: true; the input reads as it did. -/
def blockHashesSpec : ChangeSpec := { name := "blockHashes", fn := fun _ => fun
  | [d1, d2] => { results := [.lit (.bool true)], args := [d1, d2] }
  | _ => none }
def blockHashesRow : OpenClaim := { program := "ythjigmfooobfmaa", sum := "a2500a92d364e8bf849b317c9e4422b530a0db33c10563b28c9fa0bb8221065e", func := "strongroom/strongroomlaw03.BlockHashes", spec := "blockHashes", apart := false }
def BlockHashesSaid : Prop := blockHashesRow.holds Try.pinned (OpenSpec.ofChange blockHashesSpec)

/-- ITS FALSE NEIGHBOUR: 'it returns false'. Refute it at one input. -/
def blockHashesWrong : ChangeSpec := { name := "blockHashes", fn := fun _ => fun
  | [d1, d2] => { results := [.lit (.bool false)], args := [d1, d2] }
  | _ => none }
def BlockHashesWrongFalsely : Prop := blockHashesRow.holds Try.pinned (OpenSpec.ofChange blockHashesWrong)

/-- 'strongroomlaw03.BlockSteps': WHATEVER THE INPUT: true; the input reads as it did. -/
def blockStepsSpec : ChangeSpec := { name := "blockSteps", fn := fun _ => fun
  | [d1, d2, d3] => { results := [.lit (.bool true)], args := [d1, d2, d3] }
  | _ => none }
def blockStepsRow : OpenClaim := { program := "ythjigmfooobfmaa", sum := "a2500a92d364e8bf849b317c9e4422b530a0db33c10563b28c9fa0bb8221065e", func := "strongroom/strongroomlaw03.BlockSteps", spec := "blockSteps", apart := false }
def BlockStepsSaid : Prop := blockStepsRow.holds Try.pinned (OpenSpec.ofChange blockStepsSpec)

/-- ITS FALSE NEIGHBOUR: 'it returns false'. Refute it at one input. -/
def blockStepsWrong : ChangeSpec := { name := "blockSteps", fn := fun _ => fun
  | [d1, d2, d3] => { results := [.lit (.bool false)], args := [d1, d2, d3] }
  | _ => none }
def BlockStepsWrongFalsely : Prop := blockStepsRow.holds Try.pinned (OpenSpec.ofChange blockStepsWrong)

/-- 'strongroomlaw03.BlockNexts': WHATEVER THE INPUT: true; the input reads as it did. -/
def blockNextsSpec : ChangeSpec := { name := "blockNexts", fn := fun _ => fun
  | [d] => { results := [.lit (.bool true)], args := [d] }
  | _ => none }
def blockNextsRow : OpenClaim := { program := "ythjigmfooobfmaa", sum := "a2500a92d364e8bf849b317c9e4422b530a0db33c10563b28c9fa0bb8221065e", func := "strongroom/strongroomlaw03.BlockNexts", spec := "blockNexts", apart := false }
def BlockNextsSaid : Prop := blockNextsRow.holds Try.pinned (OpenSpec.ofChange blockNextsSpec)

/-- ITS FALSE NEIGHBOUR: 'it returns false'. Refute it at one input. -/
def blockNextsWrong : ChangeSpec := { name := "blockNexts", fn := fun _ => fun
  | [d] => { results := [.lit (.bool false)], args := [d] }
  | _ => none }
def BlockNextsWrongFalsely : Prop := blockNextsRow.holds Try.pinned (OpenSpec.ofChange blockNextsWrong)

/- THE SECOND FORM. 'bulk': how many values and letters a reading holds, each counted each time it is reached (what is shared counts as often as it is met; a slice's spare places count too). A statement '..UptoSaid' is the law's where the arguments, and the package variables that the reading takes, are together of bulk at most 1048576: NARROWER than '..Said'. Prove '..Said' where nothing that the law and all that it calls make is longer than what came in: it says more and counts as full. Else prove '..UptoSaid'. A law counts once. -/
mutual
def uptoBulk {H : Type} : DataW H → Nat
  | .lit (.string bytes) => bytes.length + 1
  | .lit _ => 1
  | .nil => 1
  | .ptr d => uptoBulk d + 1
  | .slice elems spare => uptoBulkAll elems + uptoBulkAll spare + 1
  | .agg parts => uptoBulkAll parts + 1
  | .iface _ d => uptoBulk d + 1
  | .map entries => uptoBulkEntries entries + 1
  | .held _ => 1
def uptoBulkAll {H : Type} : List (DataW H) → Nat
  | [] => 0
  | d :: r => uptoBulk d + uptoBulkAll r
def uptoBulkEntries {H : Type} : List (Lit × DataW H) → Nat
  | [] => 0
  | x :: r => uptoBulkEntry x + uptoBulkEntries r
def uptoBulkEntry {H : Type} : Lit × DataW H → Nat
  | (.string bytes, d) => bytes.length + uptoBulk d + 1
  | (_, d) => uptoBulk d + 1
 end
def uptoSmall : (H : Type) → List (DataW H) → Bool := fun _ ds => decide (uptoBulkAll ds ≤ 1048576)
def OpenSpec.upto (s : _root_.Go.ChangeSpec) : _root_.Go.OpenSpec := { _root_.Go.OpenSpec.ofChange s with cond := some uptoSmall }

/-- 'strongroomlaw01.OctetMuls', WHERE WHAT IT READS IS OF BULK AT MOST 1048576: true; the input reads as it did. -/
def octetMulsUptoRow : OpenClaim := { program := "ythjigmfooobfmaa", sum := "a2500a92d364e8bf849b317c9e4422b530a0db33c10563b28c9fa0bb8221065e", func := "strongroom/strongroomlaw01.OctetMuls", spec := "octetMuls", apart := false, narrowed := true }
def OctetMulsUptoSaid : Prop := octetMulsUptoRow.holds Try.pinned (OpenSpec.upto octetMulsSpec)

/-- 'strongroomlaw01.OctetInverts', WHERE WHAT IT READS IS OF BULK AT MOST 1048576: true; the input reads as it did. -/
def octetInvertsUptoRow : OpenClaim := { program := "ythjigmfooobfmaa", sum := "a2500a92d364e8bf849b317c9e4422b530a0db33c10563b28c9fa0bb8221065e", func := "strongroom/strongroomlaw01.OctetInverts", spec := "octetInverts", apart := false, narrowed := true }
def OctetInvertsUptoSaid : Prop := octetInvertsUptoRow.holds Try.pinned (OpenSpec.upto octetInvertsSpec)

/-- 'strongroomlaw01.OctetBoxes', WHERE WHAT IT READS IS OF BULK AT MOST 1048576: true; the input reads as it did. -/
def octetBoxesUptoRow : OpenClaim := { program := "ythjigmfooobfmaa", sum := "a2500a92d364e8bf849b317c9e4422b530a0db33c10563b28c9fa0bb8221065e", func := "strongroom/strongroomlaw01.OctetBoxes", spec := "octetBoxes", apart := false, narrowed := true }
def OctetBoxesUptoSaid : Prop := octetBoxesUptoRow.holds Try.pinned (OpenSpec.upto octetBoxesSpec)

/-- 'strongroomlaw01.OctetSpreads', WHERE WHAT IT READS IS OF BULK AT MOST 1048576: true; the input reads as it did. -/
def octetSpreadsUptoRow : OpenClaim := { program := "ythjigmfooobfmaa", sum := "a2500a92d364e8bf849b317c9e4422b530a0db33c10563b28c9fa0bb8221065e", func := "strongroom/strongroomlaw01.OctetSpreads", spec := "octetSpreads", apart := false, narrowed := true }
def OctetSpreadsUptoSaid : Prop := octetSpreadsUptoRow.holds Try.pinned (OpenSpec.upto octetSpreadsSpec)

/-- 'strongroomlaw01.OctetTells', WHERE WHAT IT READS IS OF BULK AT MOST 1048576: true; the input reads as it did. -/
def octetTellsUptoRow : OpenClaim := { program := "ythjigmfooobfmaa", sum := "a2500a92d364e8bf849b317c9e4422b530a0db33c10563b28c9fa0bb8221065e", func := "strongroom/strongroomlaw01.OctetTells", spec := "octetTells", apart := false, narrowed := true }
def OctetTellsUptoSaid : Prop := octetTellsUptoRow.holds Try.pinned (OpenSpec.upto octetTellsSpec)

/-- 'strongroomlaw01.OctetPowers', WHERE WHAT IT READS IS OF BULK AT MOST 1048576: true; the input reads as it did. -/
def octetPowersUptoRow : OpenClaim := { program := "ythjigmfooobfmaa", sum := "a2500a92d364e8bf849b317c9e4422b530a0db33c10563b28c9fa0bb8221065e", func := "strongroom/strongroomlaw01.OctetPowers", spec := "octetPowers", apart := false, narrowed := true }
def OctetPowersUptoSaid : Prop := octetPowersUptoRow.holds Try.pinned (OpenSpec.upto octetPowersSpec)

/-- 'strongroomlaw01.OctetDoubles', WHERE WHAT IT READS IS OF BULK AT MOST 1048576: true; the input reads as it did. -/
def octetDoublesUptoRow : OpenClaim := { program := "ythjigmfooobfmaa", sum := "a2500a92d364e8bf849b317c9e4422b530a0db33c10563b28c9fa0bb8221065e", func := "strongroom/strongroomlaw01.OctetDoubles", spec := "octetDoubles", apart := false, narrowed := true }
def OctetDoublesUptoSaid : Prop := octetDoublesUptoRow.holds Try.pinned (OpenSpec.upto octetDoublesSpec)

/-- 'strongroomlaw03.BlockMuls', WHERE WHAT IT READS IS OF BULK AT MOST 1048576: true; the input reads as it did. -/
def blockMulsUptoRow : OpenClaim := { program := "ythjigmfooobfmaa", sum := "a2500a92d364e8bf849b317c9e4422b530a0db33c10563b28c9fa0bb8221065e", func := "strongroom/strongroomlaw03.BlockMuls", spec := "blockMuls", apart := false, narrowed := true }
def BlockMulsUptoSaid : Prop := blockMulsUptoRow.holds Try.pinned (OpenSpec.upto blockMulsSpec)

/-- 'strongroomlaw03.BlockSpreads', WHERE WHAT IT READS IS OF BULK AT MOST 1048576: true; the input reads as it did. -/
def blockSpreadsUptoRow : OpenClaim := { program := "ythjigmfooobfmaa", sum := "a2500a92d364e8bf849b317c9e4422b530a0db33c10563b28c9fa0bb8221065e", func := "strongroom/strongroomlaw03.BlockSpreads", spec := "blockSpreads", apart := false, narrowed := true }
def BlockSpreadsUptoSaid : Prop := blockSpreadsUptoRow.holds Try.pinned (OpenSpec.upto blockSpreadsSpec)

/-- 'strongroomlaw03.BlockHashes', WHERE WHAT IT READS IS OF BULK AT MOST 1048576: true; the input reads as it did. -/
def blockHashesUptoRow : OpenClaim := { program := "ythjigmfooobfmaa", sum := "a2500a92d364e8bf849b317c9e4422b530a0db33c10563b28c9fa0bb8221065e", func := "strongroom/strongroomlaw03.BlockHashes", spec := "blockHashes", apart := false, narrowed := true }
def BlockHashesUptoSaid : Prop := blockHashesUptoRow.holds Try.pinned (OpenSpec.upto blockHashesSpec)

/-- 'strongroomlaw03.BlockSteps', WHERE WHAT IT READS IS OF BULK AT MOST 1048576: true; the input reads as it did. -/
def blockStepsUptoRow : OpenClaim := { program := "ythjigmfooobfmaa", sum := "a2500a92d364e8bf849b317c9e4422b530a0db33c10563b28c9fa0bb8221065e", func := "strongroom/strongroomlaw03.BlockSteps", spec := "blockSteps", apart := false, narrowed := true }
def BlockStepsUptoSaid : Prop := blockStepsUptoRow.holds Try.pinned (OpenSpec.upto blockStepsSpec)

/-- 'strongroomlaw03.BlockNexts', WHERE WHAT IT READS IS OF BULK AT MOST 1048576: true; the input reads as it did. -/
def blockNextsUptoRow : OpenClaim := { program := "ythjigmfooobfmaa", sum := "a2500a92d364e8bf849b317c9e4422b530a0db33c10563b28c9fa0bb8221065e", func := "strongroom/strongroomlaw03.BlockNexts", spec := "blockNexts", apart := false, narrowed := true }
def BlockNextsUptoSaid : Prop := blockNextsUptoRow.holds Try.pinned (OpenSpec.upto blockNextsSpec)

end Rows
end Go.Proofs.Ythjigmfooobfmaa
