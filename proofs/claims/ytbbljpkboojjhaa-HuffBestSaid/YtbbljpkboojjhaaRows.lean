/-
  No cell of these rows narrows 'for every input' (looked for: loops, veiled, ifaces, maps, wideKeys, modest, calm, conditions, laid).
  DERIVED. THE GIVEN ROWS OF THIS SEAT. 5 by the template 'for every input the law returns true; each argument reads behind the call as it read before'; 0 by the template 'total and deterministic' (their statements: YtbbljpkboojjhaaTotals.lean).
  GIVEN WITH THE SEED: the statements are not yours to turn. If you find one false, say at which input.
  Laid BY PROGRAM, IN A SANDBOX (cutbox-rows.mjs): the forced cells as the released guide's own fill.sh prints them over the translation 93a4cea59b8f424a… (all of the seat's roots in one cut). By AI agents, Wed Nov 11 2026. No macro, syntax, notation, axiom, sorry.
-/
import Derived.Test.YtbbljpkboojjhaaChecked
import GoSem.Claim
import GoSem.ClaimJoined
import GoSem.ClaimMapViews
import Derived.JoinedTies
import Derived.KernelRfl
namespace Go.Proofs.Ytbbljpkboojjhaa
/- THE CELL 'sum', in the pinned program and in every row, IS THE sha256 OF THE DUMP (.gsa) THAT YtbbljpkboojjhaaProg.lean LOADS. Nothing in Lean hashes anything: it is a label: what it is worth is what the hold of that sum in a sandbox is worth. -/
noncomputable def Try.pinned : Pinned := { name := "ytbbljpkboojjhaa", sum := "93a4cea59b8f424ae73e3b264148480ff6406dd0a9de2e959840d945badd99e2", checked := Try.checked }
namespace Rows
def none {H : Type} : Left H := { results := [], args := [] }

/-- 'kistlaw02.HuffLengths': WHATEVER THE INPUT: true; the input reads as it did. -/
def huffLengthsSpec : ChangeSpec := { name := "huffLengths", fn := fun _ => fun
  | [d] => { results := [.lit (.bool true)], args := [d] }
  | _ => none }
def huffLengthsRow : OpenClaim := { program := "ytbbljpkboojjhaa", sum := "93a4cea59b8f424ae73e3b264148480ff6406dd0a9de2e959840d945badd99e2", func := "kist/kistlaw02.HuffLengths", spec := "huffLengths", unfollowed := true, recurses := true, plainKeys := false, apart := false }
def HuffLengthsSaid : Prop := huffLengthsRow.holds Try.pinned (OpenSpec.ofChange huffLengthsSpec)

/-- ITS FALSE NEIGHBOUR: 'it returns false'. Refute it at one input. -/
def huffLengthsWrong : ChangeSpec := { name := "huffLengths", fn := fun _ => fun
  | [d] => { results := [.lit (.bool false)], args := [d] }
  | _ => none }
def HuffLengthsWrongFalsely : Prop := huffLengthsRow.holds Try.pinned (OpenSpec.ofChange huffLengthsWrong)

/-- 'kistlaw02.HuffRound': WHATEVER THE INPUT: true; the input reads as it did. -/
def huffRoundSpec : ChangeSpec := { name := "huffRound", fn := fun _ => fun
  | [d] => { results := [.lit (.bool true)], args := [d] }
  | _ => none }
def huffRoundRow : OpenClaim := { program := "ytbbljpkboojjhaa", sum := "93a4cea59b8f424ae73e3b264148480ff6406dd0a9de2e959840d945badd99e2", func := "kist/kistlaw02.HuffRound", spec := "huffRound", unfollowed := true, recurses := true, plainKeys := false, apart := false }
def HuffRoundSaid : Prop := huffRoundRow.holds Try.pinned (OpenSpec.ofChange huffRoundSpec)

/-- ITS FALSE NEIGHBOUR: 'it returns false'. Refute it at one input. -/
def huffRoundWrong : ChangeSpec := { name := "huffRound", fn := fun _ => fun
  | [d] => { results := [.lit (.bool false)], args := [d] }
  | _ => none }
def HuffRoundWrongFalsely : Prop := huffRoundRow.holds Try.pinned (OpenSpec.ofChange huffRoundWrong)

/-- 'kistlaw02.HuffOrder': WHATEVER THE INPUT: true; the input reads as it did. -/
def huffOrderSpec : ChangeSpec := { name := "huffOrder", fn := fun _ => fun
  | [d] => { results := [.lit (.bool true)], args := [d] }
  | _ => none }
def huffOrderRow : OpenClaim := { program := "ytbbljpkboojjhaa", sum := "93a4cea59b8f424ae73e3b264148480ff6406dd0a9de2e959840d945badd99e2", func := "kist/kistlaw02.HuffOrder", spec := "huffOrder", unfollowed := true, recurses := true, plainKeys := false, apart := false }
def HuffOrderSaid : Prop := huffOrderRow.holds Try.pinned (OpenSpec.ofChange huffOrderSpec)

/-- ITS FALSE NEIGHBOUR: 'it returns false'. Refute it at one input. -/
def huffOrderWrong : ChangeSpec := { name := "huffOrder", fn := fun _ => fun
  | [d] => { results := [.lit (.bool false)], args := [d] }
  | _ => none }
def HuffOrderWrongFalsely : Prop := huffOrderRow.holds Try.pinned (OpenSpec.ofChange huffOrderWrong)

/-- 'kistlaw02.HuffApart': WHATEVER THE INPUT: true; the input reads as it did. -/
def huffApartSpec : ChangeSpec := { name := "huffApart", fn := fun _ => fun
  | [d1, d2, d3] => { results := [.lit (.bool true)], args := [d1, d2, d3] }
  | _ => none }
def huffApartRow : OpenClaim := { program := "ytbbljpkboojjhaa", sum := "93a4cea59b8f424ae73e3b264148480ff6406dd0a9de2e959840d945badd99e2", func := "kist/kistlaw02.HuffApart", spec := "huffApart", unfollowed := true, recurses := true, plainKeys := false, apart := false }
def HuffApartSaid : Prop := huffApartRow.holds Try.pinned (OpenSpec.ofChange huffApartSpec)

/-- ITS FALSE NEIGHBOUR: 'it returns false'. Refute it at one input. -/
def huffApartWrong : ChangeSpec := { name := "huffApart", fn := fun _ => fun
  | [d1, d2, d3] => { results := [.lit (.bool false)], args := [d1, d2, d3] }
  | _ => none }
def HuffApartWrongFalsely : Prop := huffApartRow.holds Try.pinned (OpenSpec.ofChange huffApartWrong)

/-- 'kistlaw02.HuffBest': WHATEVER THE INPUT: true; the input reads as it did. -/
def huffBestSpec : ChangeSpec := { name := "huffBest", fn := fun _ => fun
  | [d1, d2] => { results := [.lit (.bool true)], args := [d1, d2] }
  | _ => none }
def huffBestRow : OpenClaim := { program := "ytbbljpkboojjhaa", sum := "93a4cea59b8f424ae73e3b264148480ff6406dd0a9de2e959840d945badd99e2", func := "kist/kistlaw02.HuffBest", spec := "huffBest", unfollowed := true, recurses := true, plainKeys := false, apart := false }
def HuffBestSaid : Prop := huffBestRow.holds Try.pinned (OpenSpec.ofChange huffBestSpec)

/-- ITS FALSE NEIGHBOUR: 'it returns false'. Refute it at one input. -/
def huffBestWrong : ChangeSpec := { name := "huffBest", fn := fun _ => fun
  | [d1, d2] => { results := [.lit (.bool false)], args := [d1, d2] }
  | _ => none }
def HuffBestWrongFalsely : Prop := huffBestRow.holds Try.pinned (OpenSpec.ofChange huffBestWrong)

/- THE SECOND FORM. 'bulk': how many values and letters a reading holds, each counted each time it is reached (what is shared counts as often as it is met; a slice's spare places count too). A statement '..UptoSaid' is the law's where the arguments, and the package variables that the reading takes, are together of bulk at most 1048576: NARROWER than '..Said'. Prove '..Said' where nothing that the law and all that it calls make is longer than what came in: it says more and counts as full. Else prove '..UptoSaid'. A law counts once. -/
mutual
def uptoBulk {H : Type} : DataW H → Nat
  | .lit (.string bytes) => bytes.length + 1
  | .lit _ => 1
  | .nil => 1
  | .ptr d => uptoBulk d + 1
  | .slice elems spare => uptoBulkAll elems + uptoBulkAll spare + 1
  | .agg parts => uptoBulkAll parts + 1
  | .iface _ d => uptoBulk d + 1
  | .map entries => uptoBulkEntries entries + 1
  | .held _ => 1
def uptoBulkAll {H : Type} : List (DataW H) → Nat
  | [] => 0
  | d :: r => uptoBulk d + uptoBulkAll r
def uptoBulkEntries {H : Type} : List (Lit × DataW H) → Nat
  | [] => 0
  | x :: r => uptoBulkEntry x + uptoBulkEntries r
def uptoBulkEntry {H : Type} : Lit × DataW H → Nat
  | (.string bytes, d) => bytes.length + uptoBulk d + 1
  | (_, d) => uptoBulk d + 1
 end
def uptoSmall : (H : Type) → List (DataW H) → Bool := fun _ ds => decide (uptoBulkAll ds ≤ 1048576)
def OpenSpec.upto (s : _root_.Go.ChangeSpec) : _root_.Go.OpenSpec := { _root_.Go.OpenSpec.ofChange s with cond := some uptoSmall }

/-- 'kistlaw02.HuffLengths', WHERE WHAT IT READS IS OF BULK AT MOST 1048576: true; the input reads as it did. -/
def huffLengthsUptoRow : OpenClaim := { program := "ytbbljpkboojjhaa", sum := "93a4cea59b8f424ae73e3b264148480ff6406dd0a9de2e959840d945badd99e2", func := "kist/kistlaw02.HuffLengths", spec := "huffLengths", unfollowed := true, recurses := true, plainKeys := false, apart := false, narrowed := true }
def HuffLengthsUptoSaid : Prop := huffLengthsUptoRow.holds Try.pinned (OpenSpec.upto huffLengthsSpec)

/-- 'kistlaw02.HuffRound', WHERE WHAT IT READS IS OF BULK AT MOST 1048576: true; the input reads as it did. -/
def huffRoundUptoRow : OpenClaim := { program := "ytbbljpkboojjhaa", sum := "93a4cea59b8f424ae73e3b264148480ff6406dd0a9de2e959840d945badd99e2", func := "kist/kistlaw02.HuffRound", spec := "huffRound", unfollowed := true, recurses := true, plainKeys := false, apart := false, narrowed := true }
def HuffRoundUptoSaid : Prop := huffRoundUptoRow.holds Try.pinned (OpenSpec.upto huffRoundSpec)

/-- 'kistlaw02.HuffOrder', WHERE WHAT IT READS IS OF BULK AT MOST 1048576: true; the input reads as it did. -/
def huffOrderUptoRow : OpenClaim := { program := "ytbbljpkboojjhaa", sum := "93a4cea59b8f424ae73e3b264148480ff6406dd0a9de2e959840d945badd99e2", func := "kist/kistlaw02.HuffOrder", spec := "huffOrder", unfollowed := true, recurses := true, plainKeys := false, apart := false, narrowed := true }
def HuffOrderUptoSaid : Prop := huffOrderUptoRow.holds Try.pinned (OpenSpec.upto huffOrderSpec)

/-- 'kistlaw02.HuffApart', WHERE WHAT IT READS IS OF BULK AT MOST 1048576: true; the input reads as it did. -/
def huffApartUptoRow : OpenClaim := { program := "ytbbljpkboojjhaa", sum := "93a4cea59b8f424ae73e3b264148480ff6406dd0a9de2e959840d945badd99e2", func := "kist/kistlaw02.HuffApart", spec := "huffApart", unfollowed := true, recurses := true, plainKeys := false, apart := false, narrowed := true }
def HuffApartUptoSaid : Prop := huffApartUptoRow.holds Try.pinned (OpenSpec.upto huffApartSpec)

/-- 'kistlaw02.HuffBest', WHERE WHAT IT READS IS OF BULK AT MOST 1048576: true; the input reads as it did. -/
def huffBestUptoRow : OpenClaim := { program := "ytbbljpkboojjhaa", sum := "93a4cea59b8f424ae73e3b264148480ff6406dd0a9de2e959840d945badd99e2", func := "kist/kistlaw02.HuffBest", spec := "huffBest", unfollowed := true, recurses := true, plainKeys := false, apart := false, narrowed := true }
def HuffBestUptoSaid : Prop := huffBestUptoRow.holds Try.pinned (OpenSpec.upto huffBestSpec)

end Rows
end Go.Proofs.Ytbbljpkboojjhaa
