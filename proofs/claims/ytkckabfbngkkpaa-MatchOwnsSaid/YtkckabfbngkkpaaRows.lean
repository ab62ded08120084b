/-
  No cell of these rows narrows 'for every input' (looked for: loops, veiled, ifaces, maps, wideKeys, modest, calm, conditions, laid).
  DERIVED. THE GIVEN ROWS OF THIS SEAT. 6 by the template 'for every input the law returns true; each argument reads behind the call as it read before'; 0 by the template 'total and deterministic' (their statements: YtkckabfbngkkpaaTotals.lean).
  GIVEN WITH THE SEED: the statements are not yours to turn. If you find one false, say at which input.
  Laid BY PROGRAM, IN A SANDBOX (cutbox-rows.mjs): the forced cells as the released guide's own fill.sh prints them over the translation c5092fd16491fd04… (all of the seat's roots in one cut). By AI agents, Wed Nov 11 2026. No macro, syntax, notation, axiom, sorry.
-/
import Derived.Test.YtkckabfbngkkpaaChecked
import GoSem.Claim
import GoSem.ClaimJoined
import GoSem.ClaimMapViews
import Derived.JoinedTies
import Derived.KernelRfl
namespace Go.Proofs.Ytkckabfbngkkpaa
/- THE CELL 'sum', in the pinned program and in every row, IS THE sha256 OF THE DUMP (.gsa) THAT YtkckabfbngkkpaaProg.lean LOADS. Nothing in Lean hashes anything: it is a label: what it is worth is what the hold of that sum in a sandbox is worth. -/
noncomputable def Try.pinned : Pinned := { name := "ytkckabfbngkkpaa", sum := "c5092fd16491fd0429a698f55dc0ca709d254990ea7fb7e8fbfaf3d4b3ece28f", checked := Try.checked }
namespace Rows
def none {H : Type} : Left H := { results := [], args := [] }

/-- 'kistlaw04.MatchFinds': WHATEVER THE INPUT: true; the input reads as it did. -/
def matchFindsSpec : ChangeSpec := { name := "matchFinds", fn := fun _ => fun
  | [d1, d2] => { results := [.lit (.bool true)], args := [d1, d2] }
  | _ => none }
def matchFindsRow : OpenClaim := { program := "ytkckabfbngkkpaa", sum := "c5092fd16491fd0429a698f55dc0ca709d254990ea7fb7e8fbfaf3d4b3ece28f", func := "kist/kistlaw04.MatchFinds", spec := "matchFinds", apart := false }
def MatchFindsSaid : Prop := matchFindsRow.holds Try.pinned (OpenSpec.ofChange matchFindsSpec)

/-- ITS FALSE NEIGHBOUR: 'it returns false'. Refute it at one input. -/
def matchFindsWrong : ChangeSpec := { name := "matchFinds", fn := fun _ => fun
  | [d1, d2] => { results := [.lit (.bool false)], args := [d1, d2] }
  | _ => none }
def MatchFindsWrongFalsely : Prop := matchFindsRow.holds Try.pinned (OpenSpec.ofChange matchFindsWrong)

/-- 'kistlaw04.MatchRuns': WHATEVER THE INPUT: true; the input reads as it did. -/
def matchRunsSpec : ChangeSpec := { name := "matchRuns", fn := fun _ => fun
  | [d1, d2, d3] => { results := [.lit (.bool true)], args := [d1, d2, d3] }
  | _ => none }
def matchRunsRow : OpenClaim := { program := "ytkckabfbngkkpaa", sum := "c5092fd16491fd0429a698f55dc0ca709d254990ea7fb7e8fbfaf3d4b3ece28f", func := "kist/kistlaw04.MatchRuns", spec := "matchRuns", apart := false }
def MatchRunsSaid : Prop := matchRunsRow.holds Try.pinned (OpenSpec.ofChange matchRunsSpec)

/-- ITS FALSE NEIGHBOUR: 'it returns false'. Refute it at one input. -/
def matchRunsWrong : ChangeSpec := { name := "matchRuns", fn := fun _ => fun
  | [d1, d2, d3] => { results := [.lit (.bool false)], args := [d1, d2, d3] }
  | _ => none }
def MatchRunsWrongFalsely : Prop := matchRunsRow.holds Try.pinned (OpenSpec.ofChange matchRunsWrong)

/-- 'kistlaw04.MatchUses': WHATEVER THE INPUT: true; the input reads as it did. -/
def matchUsesSpec : ChangeSpec := { name := "matchUses", fn := fun _ => fun
  | [d1, d2] => { results := [.lit (.bool true)], args := [d1, d2] }
  | _ => none }
def matchUsesRow : OpenClaim := { program := "ytkckabfbngkkpaa", sum := "c5092fd16491fd0429a698f55dc0ca709d254990ea7fb7e8fbfaf3d4b3ece28f", func := "kist/kistlaw04.MatchUses", spec := "matchUses", apart := false }
def MatchUsesSaid : Prop := matchUsesRow.holds Try.pinned (OpenSpec.ofChange matchUsesSpec)

/-- ITS FALSE NEIGHBOUR: 'it returns false'. Refute it at one input. -/
def matchUsesWrong : ChangeSpec := { name := "matchUses", fn := fun _ => fun
  | [d1, d2] => { results := [.lit (.bool false)], args := [d1, d2] }
  | _ => none }
def MatchUsesWrongFalsely : Prop := matchUsesRow.holds Try.pinned (OpenSpec.ofChange matchUsesWrong)

/-- 'kistlaw04.MatchLiterals': WHATEVER THE INPUT: true; the input reads as it did. -/
def matchLiteralsSpec : ChangeSpec := { name := "matchLiterals", fn := fun _ => fun
  | [d1, d2] => { results := [.lit (.bool true)], args := [d1, d2] }
  | _ => none }
def matchLiteralsRow : OpenClaim := { program := "ytkckabfbngkkpaa", sum := "c5092fd16491fd0429a698f55dc0ca709d254990ea7fb7e8fbfaf3d4b3ece28f", func := "kist/kistlaw04.MatchLiterals", spec := "matchLiterals", apart := false }
def MatchLiteralsSaid : Prop := matchLiteralsRow.holds Try.pinned (OpenSpec.ofChange matchLiteralsSpec)

/-- ITS FALSE NEIGHBOUR: 'it returns false'. Refute it at one input. -/
def matchLiteralsWrong : ChangeSpec := { name := "matchLiterals", fn := fun _ => fun
  | [d1, d2] => { results := [.lit (.bool false)], args := [d1, d2] }
  | _ => none }
def MatchLiteralsWrongFalsely : Prop := matchLiteralsRow.holds Try.pinned (OpenSpec.ofChange matchLiteralsWrong)

/-- 'kistlaw04.MatchRound': WHATEVER THE INPUT: true; the input reads as it did. -/
def matchRoundSpec : ChangeSpec := { name := "matchRound", fn := fun _ => fun
  | [d1, d2] => { results := [.lit (.bool true)], args := [d1, d2] }
  | _ => none }
def matchRoundRow : OpenClaim := { program := "ytkckabfbngkkpaa", sum := "c5092fd16491fd0429a698f55dc0ca709d254990ea7fb7e8fbfaf3d4b3ece28f", func := "kist/kistlaw04.MatchRound", spec := "matchRound", apart := false }
def MatchRoundSaid : Prop := matchRoundRow.holds Try.pinned (OpenSpec.ofChange matchRoundSpec)

/-- ITS FALSE NEIGHBOUR: 'it returns false'. Refute it at one input. -/
def matchRoundWrong : ChangeSpec := { name := "matchRound", fn := fun _ => fun
  | [d1, d2] => { results := [.lit (.bool false)], args := [d1, d2] }
  | _ => none }
def MatchRoundWrongFalsely : Prop := matchRoundRow.holds Try.pinned (OpenSpec.ofChange matchRoundWrong)

/-- 'kistlaw04.MatchOwns': WHATEVER THE INPUT: true; the input reads as it did. -/
def matchOwnsSpec : ChangeSpec := { name := "matchOwns", fn := fun _ => fun
  | [d1, d2] => { results := [.lit (.bool true)], args := [d1, d2] }
  | _ => none }
def matchOwnsRow : OpenClaim := { program := "ytkckabfbngkkpaa", sum := "c5092fd16491fd0429a698f55dc0ca709d254990ea7fb7e8fbfaf3d4b3ece28f", func := "kist/kistlaw04.MatchOwns", spec := "matchOwns", apart := false }
def MatchOwnsSaid : Prop := matchOwnsRow.holds Try.pinned (OpenSpec.ofChange matchOwnsSpec)

/-- ITS FALSE NEIGHBOUR: 'it returns false'. Refute it at one input. -/
def matchOwnsWrong : ChangeSpec := { name := "matchOwns", fn := fun _ => fun
  | [d1, d2] => { results := [.lit (.bool false)], args := [d1, d2] }
  | _ => none }
def MatchOwnsWrongFalsely : Prop := matchOwnsRow.holds Try.pinned (OpenSpec.ofChange matchOwnsWrong)

/- THE SECOND FORM. 'bulk': how many values and letters a reading holds, each counted each time it is reached (what is shared counts as often as it is met; a slice's spare places count too). A statement '..UptoSaid' is the law's where the arguments, and the package variables that the reading takes, are together of bulk at most 1048576: NARROWER than '..Said'. Prove '..Said' where nothing that the law and all that it calls make is longer than what came in: it says more and counts as full. Else prove '..UptoSaid'. A law counts once. -/
mutual
def uptoBulk {H : Type} : DataW H → Nat
  | .lit (.string bytes) => bytes.length + 1
  | .lit _ => 1
  | .nil => 1
  | .ptr d => uptoBulk d + 1
  | .slice elems spare => uptoBulkAll elems + uptoBulkAll spare + 1
  | .agg parts => uptoBulkAll parts + 1
  | .iface _ d => uptoBulk d + 1
  | .map entries => uptoBulkEntries entries + 1
  | .held _ => 1
def uptoBulkAll {H : Type} : List (DataW H) → Nat
  | [] => 0
  | d :: r => uptoBulk d + uptoBulkAll r
def uptoBulkEntries {H : Type} : List (Lit × DataW H) → Nat
  | [] => 0
  | x :: r => uptoBulkEntry x + uptoBulkEntries r
def uptoBulkEntry {H : Type} : Lit × DataW H → Nat
  | (.string bytes, d) => bytes.length + uptoBulk d + 1
  | (_, d) => uptoBulk d + 1
 end
def uptoSmall : (H : Type) → List (DataW H) → Bool := fun _ ds => decide (uptoBulkAll ds ≤ 1048576)
def OpenSpec.upto (s : _root_.Go.ChangeSpec) : _root_.Go.OpenSpec := { _root_.Go.OpenSpec.ofChange s with cond := some uptoSmall }

/-- 'kistlaw04.MatchFinds', WHERE WHAT IT READS IS OF BULK AT MOST 1048576: true; the input reads as it did. -/
def matchFindsUptoRow : OpenClaim := { program := "ytkckabfbngkkpaa", sum := "c5092fd16491fd0429a698f55dc0ca709d254990ea7fb7e8fbfaf3d4b3ece28f", func := "kist/kistlaw04.MatchFinds", spec := "matchFinds", apart := false, narrowed := true }
def MatchFindsUptoSaid : Prop := matchFindsUptoRow.holds Try.pinned (OpenSpec.upto matchFindsSpec)

/-- 'kistlaw04.MatchRuns', WHERE WHAT IT READS IS OF BULK AT MOST 1048576: true; the input reads as it did. -/
def matchRunsUptoRow : OpenClaim := { program := "ytkckabfbngkkpaa", sum := "c5092fd16491fd0429a698f55dc0ca709d254990ea7fb7e8fbfaf3d4b3ece28f", func := "kist/kistlaw04.MatchRuns", spec := "matchRuns", apart := false, narrowed := true }
def MatchRunsUptoSaid : Prop := matchRunsUptoRow.holds Try.pinned (OpenSpec.upto matchRunsSpec)

/-- 'kistlaw04.MatchUses', WHERE WHAT IT READS IS OF BULK AT MOST 1048576: true; the input reads as it did. -/
def matchUsesUptoRow : OpenClaim := { program := "ytkckabfbngkkpaa", sum := "c5092fd16491fd0429a698f55dc0ca709d254990ea7fb7e8fbfaf3d4b3ece28f", func := "kist/kistlaw04.MatchUses", spec := "matchUses", apart := false, narrowed := true }
def MatchUsesUptoSaid : Prop := matchUsesUptoRow.holds Try.pinned (OpenSpec.upto matchUsesSpec)

/-- 'kistlaw04.MatchLiterals', WHERE WHAT IT READS IS OF BULK AT MOST 1048576: true; the input reads as it did. -/
def matchLiteralsUptoRow : OpenClaim := { program := "ytkckabfbngkkpaa", sum := "c5092fd16491fd0429a698f55dc0ca709d254990ea7fb7e8fbfaf3d4b3ece28f", func := "kist/kistlaw04.MatchLiterals", spec := "matchLiterals", apart := false, narrowed := true }
def MatchLiteralsUptoSaid : Prop := matchLiteralsUptoRow.holds Try.pinned (OpenSpec.upto matchLiteralsSpec)

/-- 'kistlaw04.MatchRound', WHERE WHAT IT READS IS OF BULK AT MOST 1048576: true; the input reads as it did. -/
def matchRoundUptoRow : OpenClaim := { program := "ytkckabfbngkkpaa", sum := "c5092fd16491fd0429a698f55dc0ca709d254990ea7fb7e8fbfaf3d4b3ece28f", func := "kist/kistlaw04.MatchRound", spec := "matchRound", apart := false, narrowed := true }
def MatchRoundUptoSaid : Prop := matchRoundUptoRow.holds Try.pinned (OpenSpec.upto matchRoundSpec)

/-- 'kistlaw04.MatchOwns', WHERE WHAT IT READS IS OF BULK AT MOST 1048576: true; the input reads as it did. -/
def matchOwnsUptoRow : OpenClaim := { program := "ytkckabfbngkkpaa", sum := "c5092fd16491fd0429a698f55dc0ca709d254990ea7fb7e8fbfaf3d4b3ece28f", func := "kist/kistlaw04.MatchOwns", spec := "matchOwns", apart := false, narrowed := true }
def MatchOwnsUptoSaid : Prop := matchOwnsUptoRow.holds Try.pinned (OpenSpec.upto matchOwnsSpec)

end Rows
end Go.Proofs.Ytkckabfbngkkpaa
