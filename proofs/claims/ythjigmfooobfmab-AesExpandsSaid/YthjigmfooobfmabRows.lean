/-
  No cell of these rows narrows 'for every input' (looked for: loops, veiled, ifaces, maps, wideKeys, modest, calm, conditions, laid).
  DERIVED. THE GIVEN ROWS OF THIS SEAT. 9 by the template 'for every input the law returns true; each argument reads behind the call as it read before'; 0 by the template 'total and deterministic' (their statements: YthjigmfooobfmabTotals.lean).
  GIVEN WITH THE SEED: the statements are not yours to turn. If you find one false, say at which input.
  Laid BY PROGRAM, IN A SANDBOX (cutbox-rows.mjs): the forced cells as the released guide's own fill.sh prints them over the translation 96c64aff4a0230a6… (all of the seat's roots in one cut). By AI agents, Wed Nov 11 2026. No macro, syntax, notation, axiom, sorry.
-/
import Derived.Test.YthjigmfooobfmabChecked
import GoSem.Claim
import GoSem.ClaimJoined
import GoSem.ClaimMapViews
import Derived.JoinedTies
import Derived.KernelRfl
namespace Go.Proofs.Ythjigmfooobfmab
/- THE CELL 'sum', in the pinned program and in every row, IS THE sha256 OF THE DUMP (.gsa) THAT YthjigmfooobfmabProg.lean LOADS. Nothing in Lean hashes anything: it is a label: what it is worth is what the hold of that sum in a sandbox is worth. -/
noncomputable def Try.pinned : Pinned := { name := "ythjigmfooobfmab", sum := "96c64aff4a0230a66acd305fd5e3d17f635151b7a8188595bbfa6d2a2110ccab", checked := Try.checked }
namespace Rows
def none {H : Type} : Left H := { results := [], args := [] }

/-- 'strongroomlaw03.BlockSums': WHATEVER THE INPUT: true; the input reads as it did. -/
def blockSumsSpec : ChangeSpec := { name := "blockSums", fn := fun _ => fun
  | [d1, d2] => { results := [.lit (.bool true)], args := [d1, d2] }
  | _ => none }
def blockSumsRow : OpenClaim := { program := "ythjigmfooobfmab", sum := "96c64aff4a0230a66acd305fd5e3d17f635151b7a8188595bbfa6d2a2110ccab", func := "strongroom/strongroomlaw03.BlockSums", spec := "blockSums", apart := false }
def BlockSumsSaid : Prop := blockSumsRow.holds Try.pinned (OpenSpec.ofChange blockSumsSpec)

/-- ITS FALSE NEIGHBOUR: 'it returns false'. Refute it at one input. -/
def blockSumsWrong : ChangeSpec := { name := "blockSums", fn := fun _ => fun
  | [d1, d2] => { results := [.lit (.bool false)], args := [d1, d2] }
  | _ => none }
def BlockSumsWrongFalsely : Prop := blockSumsRow.holds Try.pinned (OpenSpec.ofChange blockSumsWrong)

/-- 'strongroomlaw03.BlockLinear': WHATEVER THE INPUT: true; the input reads as it did. -/
def blockLinearSpec : ChangeSpec := { name := "blockLinear", fn := fun _ => fun
  | [d1, d2, d3] => { results := [.lit (.bool true)], args := [d1, d2, d3] }
  | _ => none }
def blockLinearRow : OpenClaim := { program := "ythjigmfooobfmab", sum := "96c64aff4a0230a66acd305fd5e3d17f635151b7a8188595bbfa6d2a2110ccab", func := "strongroom/strongroomlaw03.BlockLinear", spec := "blockLinear", apart := false }
def BlockLinearSaid : Prop := blockLinearRow.holds Try.pinned (OpenSpec.ofChange blockLinearSpec)

/-- ITS FALSE NEIGHBOUR: 'it returns false'. Refute it at one input. -/
def blockLinearWrong : ChangeSpec := { name := "blockLinear", fn := fun _ => fun
  | [d1, d2, d3] => { results := [.lit (.bool false)], args := [d1, d2, d3] }
  | _ => none }
def BlockLinearWrongFalsely : Prop := blockLinearRow.holds Try.pinned (OpenSpec.ofChange blockLinearWrong)

/-- 'strongroomlaw02.AesExpands': WHATEVER THE INPUT: true; the input reads as it did. -/
def aesExpandsSpec : ChangeSpec := { name := "aesExpands", fn := fun _ => fun
  | [d] => { results := [.lit (.bool true)], args := [d] }
  | _ => none }
def aesExpandsRow : OpenClaim := { program := "ythjigmfooobfmab", sum := "96c64aff4a0230a66acd305fd5e3d17f635151b7a8188595bbfa6d2a2110ccab", func := "strongroom/strongroomlaw02.AesExpands", spec := "aesExpands", apart := false }
def AesExpandsSaid : Prop := aesExpandsRow.holds Try.pinned (OpenSpec.ofChange aesExpandsSpec)

/-- ITS FALSE NEIGHBOUR: 'it returns false'. Refute it at one input. -/
def aesExpandsWrong : ChangeSpec := { name := "aesExpands", fn := fun _ => fun
  | [d] => { results := [.lit (.bool false)], args := [d] }
  | _ => none }
def AesExpandsWrongFalsely : Prop := aesExpandsRow.holds Try.pinned (OpenSpec.ofChange aesExpandsWrong)

/-- 'strongroomlaw02.AesRounds': WHATEVER THE INPUT: true; the input reads as it did. -/
def aesRoundsSpec : ChangeSpec := { name := "aesRounds", fn := fun _ => fun
  | [d1, d2, d3] => { results := [.lit (.bool true)], args := [d1, d2, d3] }
  | _ => none }
def aesRoundsRow : OpenClaim := { program := "ythjigmfooobfmab", sum := "96c64aff4a0230a66acd305fd5e3d17f635151b7a8188595bbfa6d2a2110ccab", func := "strongroom/strongroomlaw02.AesRounds", spec := "aesRounds", apart := false }
def AesRoundsSaid : Prop := aesRoundsRow.holds Try.pinned (OpenSpec.ofChange aesRoundsSpec)

/-- ITS FALSE NEIGHBOUR: 'it returns false'. Refute it at one input. -/
def aesRoundsWrong : ChangeSpec := { name := "aesRounds", fn := fun _ => fun
  | [d1, d2, d3] => { results := [.lit (.bool false)], args := [d1, d2, d3] }
  | _ => none }
def AesRoundsWrongFalsely : Prop := aesRoundsRow.holds Try.pinned (OpenSpec.ofChange aesRoundsWrong)

/-- 'strongroomlaw02.AesEncrypts': WHATEVER THE INPUT: true; the input reads as it did. -/
def aesEncryptsSpec : ChangeSpec := { name := "aesEncrypts", fn := fun _ => fun
  | [d1, d2] => { results := [.lit (.bool true)], args := [d1, d2] }
  | _ => none }
def aesEncryptsRow : OpenClaim := { program := "ythjigmfooobfmab", sum := "96c64aff4a0230a66acd305fd5e3d17f635151b7a8188595bbfa6d2a2110ccab", func := "strongroom/strongroomlaw02.AesEncrypts", spec := "aesEncrypts", apart := false }
def AesEncryptsSaid : Prop := aesEncryptsRow.holds Try.pinned (OpenSpec.ofChange aesEncryptsSpec)

/-- ITS FALSE NEIGHBOUR: 'it returns false'. Refute it at one input. -/
def aesEncryptsWrong : ChangeSpec := { name := "aesEncrypts", fn := fun _ => fun
  | [d1, d2] => { results := [.lit (.bool false)], args := [d1, d2] }
  | _ => none }
def AesEncryptsWrongFalsely : Prop := aesEncryptsRow.holds Try.pinned (OpenSpec.ofChange aesEncryptsWrong)

/-- 'strongroomlaw02.AesTells': WHATEVER THE INPUT: true; the input reads as it did. -/
def aesTellsSpec : ChangeSpec := { name := "aesTells", fn := fun _ => fun
  | [d1, d2, d3] => { results := [.lit (.bool true)], args := [d1, d2, d3] }
  | _ => none }
def aesTellsRow : OpenClaim := { program := "ythjigmfooobfmab", sum := "96c64aff4a0230a66acd305fd5e3d17f635151b7a8188595bbfa6d2a2110ccab", func := "strongroom/strongroomlaw02.AesTells", spec := "aesTells", apart := false }
def AesTellsSaid : Prop := aesTellsRow.holds Try.pinned (OpenSpec.ofChange aesTellsSpec)

/-- ITS FALSE NEIGHBOUR: 'it returns false'. Refute it at one input. -/
def aesTellsWrong : ChangeSpec := { name := "aesTells", fn := fun _ => fun
  | [d1, d2, d3] => { results := [.lit (.bool false)], args := [d1, d2, d3] }
  | _ => none }
def AesTellsWrongFalsely : Prop := aesTellsRow.holds Try.pinned (OpenSpec.ofChange aesTellsWrong)

/-- 'strongroomlaw02.AesMade': WHATEVER THE INPUT: true; the input reads as it did. -/
def aesMadeSpec : ChangeSpec := { name := "aesMade", fn := fun _ => fun
  | [d1, d2] => { results := [.lit (.bool true)], args := [d1, d2] }
  | _ => none }
def aesMadeRow : OpenClaim := { program := "ythjigmfooobfmab", sum := "96c64aff4a0230a66acd305fd5e3d17f635151b7a8188595bbfa6d2a2110ccab", func := "strongroom/strongroomlaw02.AesMade", spec := "aesMade", apart := false }
def AesMadeSaid : Prop := aesMadeRow.holds Try.pinned (OpenSpec.ofChange aesMadeSpec)

/-- ITS FALSE NEIGHBOUR: 'it returns false'. Refute it at one input. -/
def aesMadeWrong : ChangeSpec := { name := "aesMade", fn := fun _ => fun
  | [d1, d2] => { results := [.lit (.bool false)], args := [d1, d2] }
  | _ => none }
def AesMadeWrongFalsely : Prop := aesMadeRow.holds Try.pinned (OpenSpec.ofChange aesMadeWrong)

/-- 'strongroomlaw02.AesWords': WHATEVER THE INPUT: true; the input reads as it did. -/
def aesWordsSpec : ChangeSpec := { name := "aesWords", fn := fun _ => fun
  | [d] => { results := [.lit (.bool true)], args := [d] }
  | _ => none }
def aesWordsRow : OpenClaim := { program := "ythjigmfooobfmab", sum := "96c64aff4a0230a66acd305fd5e3d17f635151b7a8188595bbfa6d2a2110ccab", func := "strongroom/strongroomlaw02.AesWords", spec := "aesWords", apart := false }
def AesWordsSaid : Prop := aesWordsRow.holds Try.pinned (OpenSpec.ofChange aesWordsSpec)

/-- ITS FALSE NEIGHBOUR: 'it returns false'. Refute it at one input. -/
def aesWordsWrong : ChangeSpec := { name := "aesWords", fn := fun _ => fun
  | [d] => { results := [.lit (.bool false)], args := [d] }
  | _ => none }
def AesWordsWrongFalsely : Prop := aesWordsRow.holds Try.pinned (OpenSpec.ofChange aesWordsWrong)

/-- 'strongroomlaw02.AesKeyed': WHATEVER THE INPUT: true; the input reads as it did. -/
def aesKeyedSpec : ChangeSpec := { name := "aesKeyed", fn := fun _ => fun
  | [d1, d2, d3] => { results := [.lit (.bool true)], args := [d1, d2, d3] }
  | _ => none }
def aesKeyedRow : OpenClaim := { program := "ythjigmfooobfmab", sum := "96c64aff4a0230a66acd305fd5e3d17f635151b7a8188595bbfa6d2a2110ccab", func := "strongroom/strongroomlaw02.AesKeyed", spec := "aesKeyed", apart := false }
def AesKeyedSaid : Prop := aesKeyedRow.holds Try.pinned (OpenSpec.ofChange aesKeyedSpec)

/-- ITS FALSE NEIGHBOUR: 'it returns false'. Refute it at one input. -/
def aesKeyedWrong : ChangeSpec := { name := "aesKeyed", fn := fun _ => fun
  | [d1, d2, d3] => { results := [.lit (.bool false)], args := [d1, d2, d3] }
  | _ => none }
def AesKeyedWrongFalsely : Prop := aesKeyedRow.holds Try.pinned (OpenSpec.ofChange aesKeyedWrong)

/- THE SECOND FORM. 'bulk': how many values and letters a reading holds, each counted each time it is reached (what is shared counts as often as it is met; a slice's spare places count too). A statement '..UptoSaid' is the law's where the arguments, and the package variables that the reading takes, are together of bulk at most 1048576: NARROWER than '..Said'. Prove '..Said' where nothing that the law and all that it calls make is longer than what came in: it says more and counts as full. Else prove '..UptoSaid'. A law counts once. -/
mutual
def uptoBulk {H : Type} : DataW H → Nat
  | .lit (.string bytes) => bytes.length + 1
  | .lit _ => 1
  | .nil => 1
  | .ptr d => uptoBulk d + 1
  | .slice elems spare => uptoBulkAll elems + uptoBulkAll spare + 1
  | .agg parts => uptoBulkAll parts + 1
  | .iface _ d => uptoBulk d + 1
  | .map entries => uptoBulkEntries entries + 1
  | .held _ => 1
def uptoBulkAll {H : Type} : List (DataW H) → Nat
  | [] => 0
  | d :: r => uptoBulk d + uptoBulkAll r
def uptoBulkEntries {H : Type} : List (Lit × DataW H) → Nat
  | [] => 0
  | x :: r => uptoBulkEntry x + uptoBulkEntries r
def uptoBulkEntry {H : Type} : Lit × DataW H → Nat
  | (.string bytes, d) => bytes.length + uptoBulk d + 1
  | (_, d) => uptoBulk d + 1
 end
def uptoSmall : (H : Type) → List (DataW H) → Bool := fun _ ds => decide (uptoBulkAll ds ≤ 1048576)
def OpenSpec.upto (s : _root_.Go.ChangeSpec) : _root_.Go.OpenSpec := { _root_.Go.OpenSpec.ofChange s with cond := some uptoSmall }

/-- 'strongroomlaw03.BlockSums', WHERE WHAT IT READS IS OF BULK AT MOST 1048576: true; the input reads as it did. -/
def blockSumsUptoRow : OpenClaim := { program := "ythjigmfooobfmab", sum := "96c64aff4a0230a66acd305fd5e3d17f635151b7a8188595bbfa6d2a2110ccab", func := "strongroom/strongroomlaw03.BlockSums", spec := "blockSums", apart := false, narrowed := true }
def BlockSumsUptoSaid : Prop := blockSumsUptoRow.holds Try.pinned (OpenSpec.upto blockSumsSpec)

/-- 'strongroomlaw03.BlockLinear', WHERE WHAT IT READS IS OF BULK AT MOST 1048576: true; the input reads as it did. -/
def blockLinearUptoRow : OpenClaim := { program := "ythjigmfooobfmab", sum := "96c64aff4a0230a66acd305fd5e3d17f635151b7a8188595bbfa6d2a2110ccab", func := "strongroom/strongroomlaw03.BlockLinear", spec := "blockLinear", apart := false, narrowed := true }
def BlockLinearUptoSaid : Prop := blockLinearUptoRow.holds Try.pinned (OpenSpec.upto blockLinearSpec)

/-- 'strongroomlaw02.AesExpands', WHERE WHAT IT READS IS OF BULK AT MOST 1048576: true; the input reads as it did. -/
def aesExpandsUptoRow : OpenClaim := { program := "ythjigmfooobfmab", sum := "96c64aff4a0230a66acd305fd5e3d17f635151b7a8188595bbfa6d2a2110ccab", func := "strongroom/strongroomlaw02.AesExpands", spec := "aesExpands", apart := false, narrowed := true }
def AesExpandsUptoSaid : Prop := aesExpandsUptoRow.holds Try.pinned (OpenSpec.upto aesExpandsSpec)

/-- 'strongroomlaw02.AesRounds', WHERE WHAT IT READS IS OF BULK AT MOST 1048576: true; the input reads as it did. -/
def aesRoundsUptoRow : OpenClaim := { program := "ythjigmfooobfmab", sum := "96c64aff4a0230a66acd305fd5e3d17f635151b7a8188595bbfa6d2a2110ccab", func := "strongroom/strongroomlaw02.AesRounds", spec := "aesRounds", apart := false, narrowed := true }
def AesRoundsUptoSaid : Prop := aesRoundsUptoRow.holds Try.pinned (OpenSpec.upto aesRoundsSpec)

/-- 'strongroomlaw02.AesEncrypts', WHERE WHAT IT READS IS OF BULK AT MOST 1048576: true; the input reads as it did. -/
def aesEncryptsUptoRow : OpenClaim := { program := "ythjigmfooobfmab", sum := "96c64aff4a0230a66acd305fd5e3d17f635151b7a8188595bbfa6d2a2110ccab", func := "strongroom/strongroomlaw02.AesEncrypts", spec := "aesEncrypts", apart := false, narrowed := true }
def AesEncryptsUptoSaid : Prop := aesEncryptsUptoRow.holds Try.pinned (OpenSpec.upto aesEncryptsSpec)

/-- 'strongroomlaw02.AesTells', WHERE WHAT IT READS IS OF BULK AT MOST 1048576: true; the input reads as it did. -/
def aesTellsUptoRow : OpenClaim := { program := "ythjigmfooobfmab", sum := "96c64aff4a0230a66acd305fd5e3d17f635151b7a8188595bbfa6d2a2110ccab", func := "strongroom/strongroomlaw02.AesTells", spec := "aesTells", apart := false, narrowed := true }
def AesTellsUptoSaid : Prop := aesTellsUptoRow.holds Try.pinned (OpenSpec.upto aesTellsSpec)

/-- 'strongroomlaw02.AesMade', WHERE WHAT IT READS IS OF BULK AT MOST 1048576: true; the input reads as it did. -/
def aesMadeUptoRow : OpenClaim := { program := "ythjigmfooobfmab", sum := "96c64aff4a0230a66acd305fd5e3d17f635151b7a8188595bbfa6d2a2110ccab", func := "strongroom/strongroomlaw02.AesMade", spec := "aesMade", apart := false, narrowed := true }
def AesMadeUptoSaid : Prop := aesMadeUptoRow.holds Try.pinned (OpenSpec.upto aesMadeSpec)

/-- 'strongroomlaw02.AesWords', WHERE WHAT IT READS IS OF BULK AT MOST 1048576: true; the input reads as it did. -/
def aesWordsUptoRow : OpenClaim := { program := "ythjigmfooobfmab", sum := "96c64aff4a0230a66acd305fd5e3d17f635151b7a8188595bbfa6d2a2110ccab", func := "strongroom/strongroomlaw02.AesWords", spec := "aesWords", apart := false, narrowed := true }
def AesWordsUptoSaid : Prop := aesWordsUptoRow.holds Try.pinned (OpenSpec.upto aesWordsSpec)

/-- 'strongroomlaw02.AesKeyed', WHERE WHAT IT READS IS OF BULK AT MOST 1048576: true; the input reads as it did. -/
def aesKeyedUptoRow : OpenClaim := { program := "ythjigmfooobfmab", sum := "96c64aff4a0230a66acd305fd5e3d17f635151b7a8188595bbfa6d2a2110ccab", func := "strongroom/strongroomlaw02.AesKeyed", spec := "aesKeyed", apart := false, narrowed := true }
def AesKeyedUptoSaid : Prop := aesKeyedUptoRow.holds Try.pinned (OpenSpec.upto aesKeyedSpec)

end Rows
end Go.Proofs.Ythjigmfooobfmab
