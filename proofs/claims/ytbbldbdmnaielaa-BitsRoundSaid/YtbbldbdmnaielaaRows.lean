/-
  No cell of these rows narrows 'for every input' (looked for: loops, veiled, ifaces, maps, wideKeys, modest, calm, conditions, laid).
  DERIVED. THE GIVEN ROWS OF THIS SEAT. 8 by the template 'for every input the law returns true; each argument reads behind the call as it read before'; 0 by the template 'total and deterministic' (their statements: YtbbldbdmnaielaaTotals.lean).
  GIVEN WITH THE SEED: the statements are not yours to turn. If you find one false, say at which input.
  Laid BY PROGRAM, IN A SANDBOX (cutbox-rows.mjs): the forced cells as the released guide's own fill.sh prints them over the translation b9b032adf9da2441… (all of the seat's roots in one cut). By AI agents, Wed Nov 11 2026. No macro, syntax, notation, axiom, sorry.
-/
import Derived.Test.YtbbldbdmnaielaaChecked
import GoSem.Claim
import GoSem.ClaimJoined
import GoSem.ClaimMapViews
import Derived.JoinedTies
import Derived.KernelRfl
namespace Go.Proofs.Ytbbldbdmnaielaa
/- THE CELL 'sum', in the pinned program and in every row, IS THE sha256 OF THE DUMP (.gsa) THAT YtbbldbdmnaielaaProg.lean LOADS. Nothing in Lean hashes anything: it is a label: what it is worth is what the hold of that sum in a sandbox is worth. -/
noncomputable def Try.pinned : Pinned := { name := "ytbbldbdmnaielaa", sum := "b9b032adf9da24411cb6bf433709f1580a3c30b3d0ffd42880f5838d97d8e97a", checked := Try.checked }
namespace Rows
def none {H : Type} : Left H := { results := [], args := [] }

/-- 'kistlaw01.BitsNum': WHATEVER THE INPUT: true; the input reads as it did. -/
def bitsNumSpec : ChangeSpec := { name := "bitsNum", fn := fun _ => fun
  | [d] => { results := [.lit (.bool true)], args := [d] }
  | _ => none }
def bitsNumRow : OpenClaim := { program := "ytbbldbdmnaielaa", sum := "b9b032adf9da24411cb6bf433709f1580a3c30b3d0ffd42880f5838d97d8e97a", func := "kist/kistlaw01.BitsNum", spec := "bitsNum", apart := false }
def BitsNumSaid : Prop := bitsNumRow.holds Try.pinned (OpenSpec.ofChange bitsNumSpec)

/-- ITS FALSE NEIGHBOUR: 'it returns false'. Refute it at one input. -/
def bitsNumWrong : ChangeSpec := { name := "bitsNum", fn := fun _ => fun
  | [d] => { results := [.lit (.bool false)], args := [d] }
  | _ => none }
def BitsNumWrongFalsely : Prop := bitsNumRow.holds Try.pinned (OpenSpec.ofChange bitsNumWrong)

/-- 'kistlaw01.BitsWrites': WHATEVER THE INPUT: true; the input reads as it did. -/
def bitsWritesSpec : ChangeSpec := { name := "bitsWrites", fn := fun _ => fun
  | [d] => { results := [.lit (.bool true)], args := [d] }
  | _ => none }
def bitsWritesRow : OpenClaim := { program := "ytbbldbdmnaielaa", sum := "b9b032adf9da24411cb6bf433709f1580a3c30b3d0ffd42880f5838d97d8e97a", func := "kist/kistlaw01.BitsWrites", spec := "bitsWrites", apart := false }
def BitsWritesSaid : Prop := bitsWritesRow.holds Try.pinned (OpenSpec.ofChange bitsWritesSpec)

/-- ITS FALSE NEIGHBOUR: 'it returns false'. Refute it at one input. -/
def bitsWritesWrong : ChangeSpec := { name := "bitsWrites", fn := fun _ => fun
  | [d] => { results := [.lit (.bool false)], args := [d] }
  | _ => none }
def BitsWritesWrongFalsely : Prop := bitsWritesRow.holds Try.pinned (OpenSpec.ofChange bitsWritesWrong)

/-- 'kistlaw01.BitsNums': WHATEVER THE INPUT: true; the input reads as it did. -/
def bitsNumsSpec : ChangeSpec := { name := "bitsNums", fn := fun _ => fun
  | [d1, d2, d3] => { results := [.lit (.bool true)], args := [d1, d2, d3] }
  | _ => none }
def bitsNumsRow : OpenClaim := { program := "ytbbldbdmnaielaa", sum := "b9b032adf9da24411cb6bf433709f1580a3c30b3d0ffd42880f5838d97d8e97a", func := "kist/kistlaw01.BitsNums", spec := "bitsNums", apart := false }
def BitsNumsSaid : Prop := bitsNumsRow.holds Try.pinned (OpenSpec.ofChange bitsNumsSpec)

/-- ITS FALSE NEIGHBOUR: 'it returns false'. Refute it at one input. -/
def bitsNumsWrong : ChangeSpec := { name := "bitsNums", fn := fun _ => fun
  | [d1, d2, d3] => { results := [.lit (.bool false)], args := [d1, d2, d3] }
  | _ => none }
def BitsNumsWrongFalsely : Prop := bitsNumsRow.holds Try.pinned (OpenSpec.ofChange bitsNumsWrong)

/-- 'kistlaw01.BitsShort': WHATEVER THE INPUT: true; the input reads as it did. -/
def bitsShortSpec : ChangeSpec := { name := "bitsShort", fn := fun _ => fun
  | [d1, d2] => { results := [.lit (.bool true)], args := [d1, d2] }
  | _ => none }
def bitsShortRow : OpenClaim := { program := "ytbbldbdmnaielaa", sum := "b9b032adf9da24411cb6bf433709f1580a3c30b3d0ffd42880f5838d97d8e97a", func := "kist/kistlaw01.BitsShort", spec := "bitsShort", apart := false }
def BitsShortSaid : Prop := bitsShortRow.holds Try.pinned (OpenSpec.ofChange bitsShortSpec)

/-- ITS FALSE NEIGHBOUR: 'it returns false'. Refute it at one input. -/
def bitsShortWrong : ChangeSpec := { name := "bitsShort", fn := fun _ => fun
  | [d1, d2] => { results := [.lit (.bool false)], args := [d1, d2] }
  | _ => none }
def BitsShortWrongFalsely : Prop := bitsShortRow.holds Try.pinned (OpenSpec.ofChange bitsShortWrong)

/-- 'kistlaw01.BitsReads': WHATEVER THE INPUT: true; the input reads as it did. -/
def bitsReadsSpec : ChangeSpec := { name := "bitsReads", fn := fun _ => fun
  | [d1, d2] => { results := [.lit (.bool true)], args := [d1, d2] }
  | _ => none }
def bitsReadsRow : OpenClaim := { program := "ytbbldbdmnaielaa", sum := "b9b032adf9da24411cb6bf433709f1580a3c30b3d0ffd42880f5838d97d8e97a", func := "kist/kistlaw01.BitsReads", spec := "bitsReads", apart := false }
def BitsReadsSaid : Prop := bitsReadsRow.holds Try.pinned (OpenSpec.ofChange bitsReadsSpec)

/-- ITS FALSE NEIGHBOUR: 'it returns false'. Refute it at one input. -/
def bitsReadsWrong : ChangeSpec := { name := "bitsReads", fn := fun _ => fun
  | [d1, d2] => { results := [.lit (.bool false)], args := [d1, d2] }
  | _ => none }
def BitsReadsWrongFalsely : Prop := bitsReadsRow.holds Try.pinned (OpenSpec.ofChange bitsReadsWrong)

/-- 'kistlaw01.BitsBack': WHATEVER THE INPUT: true; the input reads as it did. -/
def bitsBackSpec : ChangeSpec := { name := "bitsBack", fn := fun _ => fun
  | [d1, d2] => { results := [.lit (.bool true)], args := [d1, d2] }
  | _ => none }
def bitsBackRow : OpenClaim := { program := "ytbbldbdmnaielaa", sum := "b9b032adf9da24411cb6bf433709f1580a3c30b3d0ffd42880f5838d97d8e97a", func := "kist/kistlaw01.BitsBack", spec := "bitsBack", apart := false }
def BitsBackSaid : Prop := bitsBackRow.holds Try.pinned (OpenSpec.ofChange bitsBackSpec)

/-- ITS FALSE NEIGHBOUR: 'it returns false'. Refute it at one input. -/
def bitsBackWrong : ChangeSpec := { name := "bitsBack", fn := fun _ => fun
  | [d1, d2] => { results := [.lit (.bool false)], args := [d1, d2] }
  | _ => none }
def BitsBackWrongFalsely : Prop := bitsBackRow.holds Try.pinned (OpenSpec.ofChange bitsBackWrong)

/-- 'kistlaw01.BitsOwn': WHATEVER THE INPUT: true; the input reads as it did. -/
def bitsOwnSpec : ChangeSpec := { name := "bitsOwn", fn := fun _ => fun
  | [d1, d2] => { results := [.lit (.bool true)], args := [d1, d2] }
  | _ => none }
def bitsOwnRow : OpenClaim := { program := "ytbbldbdmnaielaa", sum := "b9b032adf9da24411cb6bf433709f1580a3c30b3d0ffd42880f5838d97d8e97a", func := "kist/kistlaw01.BitsOwn", spec := "bitsOwn", apart := false }
def BitsOwnSaid : Prop := bitsOwnRow.holds Try.pinned (OpenSpec.ofChange bitsOwnSpec)

/-- ITS FALSE NEIGHBOUR: 'it returns false'. Refute it at one input. -/
def bitsOwnWrong : ChangeSpec := { name := "bitsOwn", fn := fun _ => fun
  | [d1, d2] => { results := [.lit (.bool false)], args := [d1, d2] }
  | _ => none }
def BitsOwnWrongFalsely : Prop := bitsOwnRow.holds Try.pinned (OpenSpec.ofChange bitsOwnWrong)

/-- 'kistlaw01.BitsRound': WHATEVER THE INPUT: true; the input reads as it did. -/
def bitsRoundSpec : ChangeSpec := { name := "bitsRound", fn := fun _ => fun
  | [d] => { results := [.lit (.bool true)], args := [d] }
  | _ => none }
def bitsRoundRow : OpenClaim := { program := "ytbbldbdmnaielaa", sum := "b9b032adf9da24411cb6bf433709f1580a3c30b3d0ffd42880f5838d97d8e97a", func := "kist/kistlaw01.BitsRound", spec := "bitsRound", apart := false }
def BitsRoundSaid : Prop := bitsRoundRow.holds Try.pinned (OpenSpec.ofChange bitsRoundSpec)

/-- ITS FALSE NEIGHBOUR: 'it returns false'. Refute it at one input. -/
def bitsRoundWrong : ChangeSpec := { name := "bitsRound", fn := fun _ => fun
  | [d] => { results := [.lit (.bool false)], args := [d] }
  | _ => none }
def BitsRoundWrongFalsely : Prop := bitsRoundRow.holds Try.pinned (OpenSpec.ofChange bitsRoundWrong)

/- THE SECOND FORM. 'bulk': how many values and letters a reading holds, each counted each time it is reached (what is shared counts as often as it is met; a slice's spare places count too). A statement '..UptoSaid' is the law's where the arguments, and the package variables that the reading takes, are together of bulk at most 1048576: NARROWER than '..Said'. Prove '..Said' where nothing that the law and all that it calls make is longer than what came in: it says more and counts as full. Else prove '..UptoSaid'. A law counts once. -/
mutual
def uptoBulk {H : Type} : DataW H → Nat
  | .lit (.string bytes) => bytes.length + 1
  | .lit _ => 1
  | .nil => 1
  | .ptr d => uptoBulk d + 1
  | .slice elems spare => uptoBulkAll elems + uptoBulkAll spare + 1
  | .agg parts => uptoBulkAll parts + 1
  | .iface _ d => uptoBulk d + 1
  | .map entries => uptoBulkEntries entries + 1
  | .held _ => 1
def uptoBulkAll {H : Type} : List (DataW H) → Nat
  | [] => 0
  | d :: r => uptoBulk d + uptoBulkAll r
def uptoBulkEntries {H : Type} : List (Lit × DataW H) → Nat
  | [] => 0
  | x :: r => uptoBulkEntry x + uptoBulkEntries r
def uptoBulkEntry {H : Type} : Lit × DataW H → Nat
  | (.string bytes, d) => bytes.length + uptoBulk d + 1
  | (_, d) => uptoBulk d + 1
 end
def uptoSmall : (H : Type) → List (DataW H) → Bool := fun _ ds => decide (uptoBulkAll ds ≤ 1048576)
def OpenSpec.upto (s : _root_.Go.ChangeSpec) : _root_.Go.OpenSpec := { _root_.Go.OpenSpec.ofChange s with cond := some uptoSmall }

/-- 'kistlaw01.BitsNum', WHERE WHAT IT READS IS OF BULK AT MOST 1048576: true; the input reads as it did. -/
def bitsNumUptoRow : OpenClaim := { program := "ytbbldbdmnaielaa", sum := "b9b032adf9da24411cb6bf433709f1580a3c30b3d0ffd42880f5838d97d8e97a", func := "kist/kistlaw01.BitsNum", spec := "bitsNum", apart := false, narrowed := true }
def BitsNumUptoSaid : Prop := bitsNumUptoRow.holds Try.pinned (OpenSpec.upto bitsNumSpec)

/-- 'kistlaw01.BitsWrites', WHERE WHAT IT READS IS OF BULK AT MOST 1048576: true; the input reads as it did. -/
def bitsWritesUptoRow : OpenClaim := { program := "ytbbldbdmnaielaa", sum := "b9b032adf9da24411cb6bf433709f1580a3c30b3d0ffd42880f5838d97d8e97a", func := "kist/kistlaw01.BitsWrites", spec := "bitsWrites", apart := false, narrowed := true }
def BitsWritesUptoSaid : Prop := bitsWritesUptoRow.holds Try.pinned (OpenSpec.upto bitsWritesSpec)

/-- 'kistlaw01.BitsNums', WHERE WHAT IT READS IS OF BULK AT MOST 1048576: true; the input reads as it did. -/
def bitsNumsUptoRow : OpenClaim := { program := "ytbbldbdmnaielaa", sum := "b9b032adf9da24411cb6bf433709f1580a3c30b3d0ffd42880f5838d97d8e97a", func := "kist/kistlaw01.BitsNums", spec := "bitsNums", apart := false, narrowed := true }
def BitsNumsUptoSaid : Prop := bitsNumsUptoRow.holds Try.pinned (OpenSpec.upto bitsNumsSpec)

/-- 'kistlaw01.BitsShort', WHERE WHAT IT READS IS OF BULK AT MOST 1048576: true; the input reads as it did. -/
def bitsShortUptoRow : OpenClaim := { program := "ytbbldbdmnaielaa", sum := "b9b032adf9da24411cb6bf433709f1580a3c30b3d0ffd42880f5838d97d8e97a", func := "kist/kistlaw01.BitsShort", spec := "bitsShort", apart := false, narrowed := true }
def BitsShortUptoSaid : Prop := bitsShortUptoRow.holds Try.pinned (OpenSpec.upto bitsShortSpec)

/-- 'kistlaw01.BitsReads', WHERE WHAT IT READS IS OF BULK AT MOST 1048576: true; the input reads as it did. -/
def bitsReadsUptoRow : OpenClaim := { program := "ytbbldbdmnaielaa", sum := "b9b032adf9da24411cb6bf433709f1580a3c30b3d0ffd42880f5838d97d8e97a", func := "kist/kistlaw01.BitsReads", spec := "bitsReads", apart := false, narrowed := true }
def BitsReadsUptoSaid : Prop := bitsReadsUptoRow.holds Try.pinned (OpenSpec.upto bitsReadsSpec)

/-- 'kistlaw01.BitsBack', WHERE WHAT IT READS IS OF BULK AT MOST 1048576: true; the input reads as it did. -/
def bitsBackUptoRow : OpenClaim := { program := "ytbbldbdmnaielaa", sum := "b9b032adf9da24411cb6bf433709f1580a3c30b3d0ffd42880f5838d97d8e97a", func := "kist/kistlaw01.BitsBack", spec := "bitsBack", apart := false, narrowed := true }
def BitsBackUptoSaid : Prop := bitsBackUptoRow.holds Try.pinned (OpenSpec.upto bitsBackSpec)

/-- 'kistlaw01.BitsOwn', WHERE WHAT IT READS IS OF BULK AT MOST 1048576: true; the input reads as it did. -/
def bitsOwnUptoRow : OpenClaim := { program := "ytbbldbdmnaielaa", sum := "b9b032adf9da24411cb6bf433709f1580a3c30b3d0ffd42880f5838d97d8e97a", func := "kist/kistlaw01.BitsOwn", spec := "bitsOwn", apart := false, narrowed := true }
def BitsOwnUptoSaid : Prop := bitsOwnUptoRow.holds Try.pinned (OpenSpec.upto bitsOwnSpec)

/-- 'kistlaw01.BitsRound', WHERE WHAT IT READS IS OF BULK AT MOST 1048576: true; the input reads as it did. -/
def bitsRoundUptoRow : OpenClaim := { program := "ytbbldbdmnaielaa", sum := "b9b032adf9da24411cb6bf433709f1580a3c30b3d0ffd42880f5838d97d8e97a", func := "kist/kistlaw01.BitsRound", spec := "bitsRound", apart := false, narrowed := true }
def BitsRoundUptoSaid : Prop := bitsRoundUptoRow.holds Try.pinned (OpenSpec.upto bitsRoundSpec)

end Rows
end Go.Proofs.Ytbbldbdmnaielaa
