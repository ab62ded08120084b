/-
  No cell of these rows narrows 'for every input' (looked for: loops, veiled, ifaces, maps, wideKeys, modest, calm, conditions, laid).
  DERIVED. THE GIVEN ROWS OF THIS SEAT. 5 by the template 'for every input the law returns true; each argument reads behind the call as it read before'; 0 by the template 'total and deterministic' (their statements: YtapagllebpcnhaaTotals.lean).
  GIVEN WITH THE SEED: the statements are not yours to turn. If you find one false, say at which input.
  Laid BY PROGRAM, IN A SANDBOX (cutbox-rows.mjs): the forced cells as the released guide's own fill.sh prints them over the translation e14faab1d33c5652… (all of the seat's roots in one cut). By AI agents, Wed Nov 11 2026. No macro, syntax, notation, axiom, sorry.
-/
import Derived.Test.YtapagllebpcnhaaChecked
import GoSem.Claim
import GoSem.ClaimJoined
import GoSem.ClaimMapViews
import Derived.JoinedTies
import Derived.KernelRfl
namespace Go.Proofs.Ytapagllebpcnhaa
/- THE CELL 'sum', in the pinned program and in every row, IS THE sha256 OF THE DUMP (.gsa) THAT YtapagllebpcnhaaProg.lean LOADS. Nothing in Lean hashes anything: it is a label: what it is worth is what the hold of that sum in a sandbox is worth. -/
noncomputable def Try.pinned : Pinned := { name := "ytapagllebpcnhaa", sum := "e14faab1d33c56521ea4a5b9fc3a75c621f2b9d8f8e59db14e3d76ab3c36379d", checked := Try.checked }
namespace Rows
def none {H : Type} : Left H := { results := [], args := [] }

/-- 'kistlaw12.AllocAside': WHATEVER THE INPUT: true; the input reads as it did. -/
def allocAsideSpec : ChangeSpec := { name := "allocAside", fn := fun _ => fun
  | [d1, d2, d3] => { results := [.lit (.bool true)], args := [d1, d2, d3] }
  | _ => none }
def allocAsideRow : OpenClaim := { program := "ytapagllebpcnhaa", sum := "e14faab1d33c56521ea4a5b9fc3a75c621f2b9d8f8e59db14e3d76ab3c36379d", func := "kist/kistlaw12.AllocAside", spec := "allocAside", unfollowed := true, recurses := true, apart := false }
def AllocAsideSaid : Prop := allocAsideRow.holds Try.pinned (OpenSpec.ofChange allocAsideSpec)

/-- ITS FALSE NEIGHBOUR: 'it returns false'. Refute it at one input. -/
def allocAsideWrong : ChangeSpec := { name := "allocAside", fn := fun _ => fun
  | [d1, d2, d3] => { results := [.lit (.bool false)], args := [d1, d2, d3] }
  | _ => none }
def AllocAsideWrongFalsely : Prop := allocAsideRow.holds Try.pinned (OpenSpec.ofChange allocAsideWrong)

/-- 'kistlaw12.AllocLate': WHATEVER THE INPUT: true; the input reads as it did. -/
def allocLateSpec : ChangeSpec := { name := "allocLate", fn := fun _ => fun
  | [d] => { results := [.lit (.bool true)], args := [d] }
  | _ => none }
def allocLateRow : OpenClaim := { program := "ytapagllebpcnhaa", sum := "e14faab1d33c56521ea4a5b9fc3a75c621f2b9d8f8e59db14e3d76ab3c36379d", func := "kist/kistlaw12.AllocLate", spec := "allocLate", unfollowed := true, recurses := true, apart := false }
def AllocLateSaid : Prop := allocLateRow.holds Try.pinned (OpenSpec.ofChange allocLateSpec)

/-- ITS FALSE NEIGHBOUR: 'it returns false'. Refute it at one input. -/
def allocLateWrong : ChangeSpec := { name := "allocLate", fn := fun _ => fun
  | [d] => { results := [.lit (.bool false)], args := [d] }
  | _ => none }
def AllocLateWrongFalsely : Prop := allocLateRow.holds Try.pinned (OpenSpec.ofChange allocLateWrong)

/-- 'kistlaw12.AllocPlays': WHATEVER THE INPUT: true; the input reads as it did. -/
def allocPlaysSpec : ChangeSpec := { name := "allocPlays", fn := fun _ => fun
  | [d1, d2, d3] => { results := [.lit (.bool true)], args := [d1, d2, d3] }
  | _ => none }
def allocPlaysRow : OpenClaim := { program := "ytapagllebpcnhaa", sum := "e14faab1d33c56521ea4a5b9fc3a75c621f2b9d8f8e59db14e3d76ab3c36379d", func := "kist/kistlaw12.AllocPlays", spec := "allocPlays", unfollowed := true, recurses := true, apart := false }
def AllocPlaysSaid : Prop := allocPlaysRow.holds Try.pinned (OpenSpec.ofChange allocPlaysSpec)

/-- ITS FALSE NEIGHBOUR: 'it returns false'. Refute it at one input. -/
def allocPlaysWrong : ChangeSpec := { name := "allocPlays", fn := fun _ => fun
  | [d1, d2, d3] => { results := [.lit (.bool false)], args := [d1, d2, d3] }
  | _ => none }
def AllocPlaysWrongFalsely : Prop := allocPlaysRow.holds Try.pinned (OpenSpec.ofChange allocPlaysWrong)

/-- 'kistlaw12.AllocLeast': WHATEVER THE INPUT: true; the input reads as it did. -/
def allocLeastSpec : ChangeSpec := { name := "allocLeast", fn := fun _ => fun
  | [d] => { results := [.lit (.bool true)], args := [d] }
  | _ => none }
def allocLeastRow : OpenClaim := { program := "ytapagllebpcnhaa", sum := "e14faab1d33c56521ea4a5b9fc3a75c621f2b9d8f8e59db14e3d76ab3c36379d", func := "kist/kistlaw12.AllocLeast", spec := "allocLeast", unfollowed := true, recurses := true, apart := false }
def AllocLeastSaid : Prop := allocLeastRow.holds Try.pinned (OpenSpec.ofChange allocLeastSpec)

/-- ITS FALSE NEIGHBOUR: 'it returns false'. Refute it at one input. -/
def allocLeastWrong : ChangeSpec := { name := "allocLeast", fn := fun _ => fun
  | [d] => { results := [.lit (.bool false)], args := [d] }
  | _ => none }
def AllocLeastWrongFalsely : Prop := allocLeastRow.holds Try.pinned (OpenSpec.ofChange allocLeastWrong)

/-- 'kistlaw12.AllocWhole': WHATEVER THE INPUT: true; the input reads as it did. -/
def allocWholeSpec : ChangeSpec := { name := "allocWhole", fn := fun _ => fun
  | [d] => { results := [.lit (.bool true)], args := [d] }
  | _ => none }
def allocWholeRow : OpenClaim := { program := "ytapagllebpcnhaa", sum := "e14faab1d33c56521ea4a5b9fc3a75c621f2b9d8f8e59db14e3d76ab3c36379d", func := "kist/kistlaw12.AllocWhole", spec := "allocWhole", unfollowed := true, recurses := true, apart := false }
def AllocWholeSaid : Prop := allocWholeRow.holds Try.pinned (OpenSpec.ofChange allocWholeSpec)

/-- ITS FALSE NEIGHBOUR: 'it returns false'. Refute it at one input. -/
def allocWholeWrong : ChangeSpec := { name := "allocWhole", fn := fun _ => fun
  | [d] => { results := [.lit (.bool false)], args := [d] }
  | _ => none }
def AllocWholeWrongFalsely : Prop := allocWholeRow.holds Try.pinned (OpenSpec.ofChange allocWholeWrong)

/- THE SECOND FORM. 'bulk': how many values and letters a reading holds, each counted each time it is reached (what is shared counts as often as it is met; a slice's spare places count too). A statement '..UptoSaid' is the law's where the arguments, and the package variables that the reading takes, are together of bulk at most 1048576: NARROWER than '..Said'. Prove '..Said' where nothing that the law and all that it calls make is longer than what came in: it says more and counts as full. Else prove '..UptoSaid'. A law counts once. -/
mutual
def uptoBulk {H : Type} : DataW H → Nat
  | .lit (.string bytes) => bytes.length + 1
  | .lit _ => 1
  | .nil => 1
  | .ptr d => uptoBulk d + 1
  | .slice elems spare => uptoBulkAll elems + uptoBulkAll spare + 1
  | .agg parts => uptoBulkAll parts + 1
  | .iface _ d => uptoBulk d + 1
  | .map entries => uptoBulkEntries entries + 1
  | .held _ => 1
def uptoBulkAll {H : Type} : List (DataW H) → Nat
  | [] => 0
  | d :: r => uptoBulk d + uptoBulkAll r
def uptoBulkEntries {H : Type} : List (Lit × DataW H) → Nat
  | [] => 0
  | x :: r => uptoBulkEntry x + uptoBulkEntries r
def uptoBulkEntry {H : Type} : Lit × DataW H → Nat
  | (.string bytes, d) => bytes.length + uptoBulk d + 1
  | (_, d) => uptoBulk d + 1
 end
def uptoSmall : (H : Type) → List (DataW H) → Bool := fun _ ds => decide (uptoBulkAll ds ≤ 1048576)
def OpenSpec.upto (s : _root_.Go.ChangeSpec) : _root_.Go.OpenSpec := { _root_.Go.OpenSpec.ofChange s with cond := some uptoSmall }

/-- 'kistlaw12.AllocAside', WHERE WHAT IT READS IS OF BULK AT MOST 1048576: true; the input reads as it did. -/
def allocAsideUptoRow : OpenClaim := { program := "ytapagllebpcnhaa", sum := "e14faab1d33c56521ea4a5b9fc3a75c621f2b9d8f8e59db14e3d76ab3c36379d", func := "kist/kistlaw12.AllocAside", spec := "allocAside", unfollowed := true, recurses := true, apart := false, narrowed := true }
def AllocAsideUptoSaid : Prop := allocAsideUptoRow.holds Try.pinned (OpenSpec.upto allocAsideSpec)

/-- 'kistlaw12.AllocLate', WHERE WHAT IT READS IS OF BULK AT MOST 1048576: true; the input reads as it did. -/
def allocLateUptoRow : OpenClaim := { program := "ytapagllebpcnhaa", sum := "e14faab1d33c56521ea4a5b9fc3a75c621f2b9d8f8e59db14e3d76ab3c36379d", func := "kist/kistlaw12.AllocLate", spec := "allocLate", unfollowed := true, recurses := true, apart := false, narrowed := true }
def AllocLateUptoSaid : Prop := allocLateUptoRow.holds Try.pinned (OpenSpec.upto allocLateSpec)

/-- 'kistlaw12.AllocPlays', WHERE WHAT IT READS IS OF BULK AT MOST 1048576: true; the input reads as it did. -/
def allocPlaysUptoRow : OpenClaim := { program := "ytapagllebpcnhaa", sum := "e14faab1d33c56521ea4a5b9fc3a75c621f2b9d8f8e59db14e3d76ab3c36379d", func := "kist/kistlaw12.AllocPlays", spec := "allocPlays", unfollowed := true, recurses := true, apart := false, narrowed := true }
def AllocPlaysUptoSaid : Prop := allocPlaysUptoRow.holds Try.pinned (OpenSpec.upto allocPlaysSpec)

/-- 'kistlaw12.AllocLeast', WHERE WHAT IT READS IS OF BULK AT MOST 1048576: true; the input reads as it did. -/
def allocLeastUptoRow : OpenClaim := { program := "ytapagllebpcnhaa", sum := "e14faab1d33c56521ea4a5b9fc3a75c621f2b9d8f8e59db14e3d76ab3c36379d", func := "kist/kistlaw12.AllocLeast", spec := "allocLeast", unfollowed := true, recurses := true, apart := false, narrowed := true }
def AllocLeastUptoSaid : Prop := allocLeastUptoRow.holds Try.pinned (OpenSpec.upto allocLeastSpec)

/-- 'kistlaw12.AllocWhole', WHERE WHAT IT READS IS OF BULK AT MOST 1048576: true; the input reads as it did. -/
def allocWholeUptoRow : OpenClaim := { program := "ytapagllebpcnhaa", sum := "e14faab1d33c56521ea4a5b9fc3a75c621f2b9d8f8e59db14e3d76ab3c36379d", func := "kist/kistlaw12.AllocWhole", spec := "allocWhole", unfollowed := true, recurses := true, apart := false, narrowed := true }
def AllocWholeUptoSaid : Prop := allocWholeUptoRow.holds Try.pinned (OpenSpec.upto allocWholeSpec)

end Rows
end Go.Proofs.Ytapagllebpcnhaa
