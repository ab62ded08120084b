/-
  No cell of these rows narrows 'for every input' (looked for: loops, veiled, ifaces, maps, wideKeys, modest, calm, conditions, laid).
  DERIVED. THE GIVEN ROWS OF THIS SEAT. 6 by the template 'for every input the law returns true; each argument reads behind the call as it read before'; 0 by the template 'total and deterministic' (their statements: YtjdpijjoblfoaaaTotals.lean).
  GIVEN WITH THE SEED: the statements are not yours to turn. If you find one false, say at which input.
  Laid BY PROGRAM, IN A SANDBOX (cutbox-rows.mjs): the forced cells as the released guide's own fill.sh prints them over the translation 17b57c760d88a4e3… (all of the seat's roots in one cut). By AI agents, Wed Nov 11 2026. No macro, syntax, notation, axiom, sorry.
-/
import Derived.Test.YtjdpijjoblfoaaaChecked
import GoSem.Claim
import GoSem.ClaimJoined
import GoSem.ClaimMapViews
import Derived.JoinedTies
import Derived.KernelRfl
namespace Go.Proofs.Ytjdpijjoblfoaaa
/- THE CELL 'sum', in the pinned program and in every row, IS THE sha256 OF THE DUMP (.gsa) THAT YtjdpijjoblfoaaaProg.lean LOADS. Nothing in Lean hashes anything: it is a label: what it is worth is what the hold of that sum in a sandbox is worth. -/
noncomputable def Try.pinned : Pinned := { name := "ytjdpijjoblfoaaa", sum := "17b57c760d88a4e3cdec798fca78ea73a7c8cafc942fbd3b70404c4e69c05c3d", checked := Try.checked }
namespace Rows
def none {H : Type} : Left H := { results := [], args := [] }

/-- 'kistlaw03.FseShares': WHATEVER THE INPUT: true; the input reads as it did. -/
def fseSharesSpec : ChangeSpec := { name := "fseShares", fn := fun _ => fun
  | [d1, d2] => { results := [.lit (.bool true)], args := [d1, d2] }
  | _ => none }
def fseSharesRow : OpenClaim := { program := "ytjdpijjoblfoaaa", sum := "17b57c760d88a4e3cdec798fca78ea73a7c8cafc942fbd3b70404c4e69c05c3d", func := "kist/kistlaw03.FseShares", spec := "fseShares", unfollowed := true, recurses := true, apart := false }
def FseSharesSaid : Prop := fseSharesRow.holds Try.pinned (OpenSpec.ofChange fseSharesSpec)

/-- ITS FALSE NEIGHBOUR: 'it returns false'. Refute it at one input. -/
def fseSharesWrong : ChangeSpec := { name := "fseShares", fn := fun _ => fun
  | [d1, d2] => { results := [.lit (.bool false)], args := [d1, d2] }
  | _ => none }
def FseSharesWrongFalsely : Prop := fseSharesRow.holds Try.pinned (OpenSpec.ofChange fseSharesWrong)

/-- 'kistlaw03.FseWhole': WHATEVER THE INPUT: true; the input reads as it did. -/
def fseWholeSpec : ChangeSpec := { name := "fseWhole", fn := fun _ => fun
  | [d1, d2] => { results := [.lit (.bool true)], args := [d1, d2] }
  | _ => none }
def fseWholeRow : OpenClaim := { program := "ytjdpijjoblfoaaa", sum := "17b57c760d88a4e3cdec798fca78ea73a7c8cafc942fbd3b70404c4e69c05c3d", func := "kist/kistlaw03.FseWhole", spec := "fseWhole", unfollowed := true, recurses := true, apart := false }
def FseWholeSaid : Prop := fseWholeRow.holds Try.pinned (OpenSpec.ofChange fseWholeSpec)

/-- ITS FALSE NEIGHBOUR: 'it returns false'. Refute it at one input. -/
def fseWholeWrong : ChangeSpec := { name := "fseWhole", fn := fun _ => fun
  | [d1, d2] => { results := [.lit (.bool false)], args := [d1, d2] }
  | _ => none }
def FseWholeWrongFalsely : Prop := fseWholeRow.holds Try.pinned (OpenSpec.ofChange fseWholeWrong)

/-- 'kistlaw03.FseCodes': WHATEVER THE INPUT: true; the input reads as it did. -/
def fseCodesSpec : ChangeSpec := { name := "fseCodes", fn := fun _ => fun
  | [d1, d2, d3] => { results := [.lit (.bool true)], args := [d1, d2, d3] }
  | _ => none }
def fseCodesRow : OpenClaim := { program := "ytjdpijjoblfoaaa", sum := "17b57c760d88a4e3cdec798fca78ea73a7c8cafc942fbd3b70404c4e69c05c3d", func := "kist/kistlaw03.FseCodes", spec := "fseCodes", unfollowed := true, recurses := true, apart := false }
def FseCodesSaid : Prop := fseCodesRow.holds Try.pinned (OpenSpec.ofChange fseCodesSpec)

/-- ITS FALSE NEIGHBOUR: 'it returns false'. Refute it at one input. -/
def fseCodesWrong : ChangeSpec := { name := "fseCodes", fn := fun _ => fun
  | [d1, d2, d3] => { results := [.lit (.bool false)], args := [d1, d2, d3] }
  | _ => none }
def FseCodesWrongFalsely : Prop := fseCodesRow.holds Try.pinned (OpenSpec.ofChange fseCodesWrong)

/-- 'kistlaw03.FseRound': WHATEVER THE INPUT: true; the input reads as it did. -/
def fseRoundSpec : ChangeSpec := { name := "fseRound", fn := fun _ => fun
  | [d1, d2] => { results := [.lit (.bool true)], args := [d1, d2] }
  | _ => none }
def fseRoundRow : OpenClaim := { program := "ytjdpijjoblfoaaa", sum := "17b57c760d88a4e3cdec798fca78ea73a7c8cafc942fbd3b70404c4e69c05c3d", func := "kist/kistlaw03.FseRound", spec := "fseRound", unfollowed := true, recurses := true, apart := false }
def FseRoundSaid : Prop := fseRoundRow.holds Try.pinned (OpenSpec.ofChange fseRoundSpec)

/-- ITS FALSE NEIGHBOUR: 'it returns false'. Refute it at one input. -/
def fseRoundWrong : ChangeSpec := { name := "fseRound", fn := fun _ => fun
  | [d1, d2] => { results := [.lit (.bool false)], args := [d1, d2] }
  | _ => none }
def FseRoundWrongFalsely : Prop := fseRoundRow.holds Try.pinned (OpenSpec.ofChange fseRoundWrong)

/-- 'kistlaw03.FseOrder': WHATEVER THE INPUT: true; the input reads as it did. -/
def fseOrderSpec : ChangeSpec := { name := "fseOrder", fn := fun _ => fun
  | [d1, d2] => { results := [.lit (.bool true)], args := [d1, d2] }
  | _ => none }
def fseOrderRow : OpenClaim := { program := "ytjdpijjoblfoaaa", sum := "17b57c760d88a4e3cdec798fca78ea73a7c8cafc942fbd3b70404c4e69c05c3d", func := "kist/kistlaw03.FseOrder", spec := "fseOrder", unfollowed := true, recurses := true, apart := false }
def FseOrderSaid : Prop := fseOrderRow.holds Try.pinned (OpenSpec.ofChange fseOrderSpec)

/-- ITS FALSE NEIGHBOUR: 'it returns false'. Refute it at one input. -/
def fseOrderWrong : ChangeSpec := { name := "fseOrder", fn := fun _ => fun
  | [d1, d2] => { results := [.lit (.bool false)], args := [d1, d2] }
  | _ => none }
def FseOrderWrongFalsely : Prop := fseOrderRow.holds Try.pinned (OpenSpec.ofChange fseOrderWrong)

/-- 'kistlaw03.FsePuts': WHATEVER THE INPUT: true; the input reads as it did. -/
def fsePutsSpec : ChangeSpec := { name := "fsePuts", fn := fun _ => fun
  | [d1, d2, d3] => { results := [.lit (.bool true)], args := [d1, d2, d3] }
  | _ => none }
def fsePutsRow : OpenClaim := { program := "ytjdpijjoblfoaaa", sum := "17b57c760d88a4e3cdec798fca78ea73a7c8cafc942fbd3b70404c4e69c05c3d", func := "kist/kistlaw03.FsePuts", spec := "fsePuts", unfollowed := true, recurses := true, apart := false }
def FsePutsSaid : Prop := fsePutsRow.holds Try.pinned (OpenSpec.ofChange fsePutsSpec)

/-- ITS FALSE NEIGHBOUR: 'it returns false'. Refute it at one input. -/
def fsePutsWrong : ChangeSpec := { name := "fsePuts", fn := fun _ => fun
  | [d1, d2, d3] => { results := [.lit (.bool false)], args := [d1, d2, d3] }
  | _ => none }
def FsePutsWrongFalsely : Prop := fsePutsRow.holds Try.pinned (OpenSpec.ofChange fsePutsWrong)

/- THE SECOND FORM. 'bulk': how many values and letters a reading holds, each counted each time it is reached (what is shared counts as often as it is met; a slice's spare places count too). A statement '..UptoSaid' is the law's where the arguments, and the package variables that the reading takes, are together of bulk at most 1048576: NARROWER than '..Said'. Prove '..Said' where nothing that the law and all that it calls make is longer than what came in: it says more and counts as full. Else prove '..UptoSaid'. A law counts once. -/
mutual
def uptoBulk {H : Type} : DataW H → Nat
  | .lit (.string bytes) => bytes.length + 1
  | .lit _ => 1
  | .nil => 1
  | .ptr d => uptoBulk d + 1
  | .slice elems spare => uptoBulkAll elems + uptoBulkAll spare + 1
  | .agg parts => uptoBulkAll parts + 1
  | .iface _ d => uptoBulk d + 1
  | .map entries => uptoBulkEntries entries + 1
  | .held _ => 1
def uptoBulkAll {H : Type} : List (DataW H) → Nat
  | [] => 0
  | d :: r => uptoBulk d + uptoBulkAll r
def uptoBulkEntries {H : Type} : List (Lit × DataW H) → Nat
  | [] => 0
  | x :: r => uptoBulkEntry x + uptoBulkEntries r
def uptoBulkEntry {H : Type} : Lit × DataW H → Nat
  | (.string bytes, d) => bytes.length + uptoBulk d + 1
  | (_, d) => uptoBulk d + 1
 end
def uptoSmall : (H : Type) → List (DataW H) → Bool := fun _ ds => decide (uptoBulkAll ds ≤ 1048576)
def OpenSpec.upto (s : _root_.Go.ChangeSpec) : _root_.Go.OpenSpec := { _root_.Go.OpenSpec.ofChange s with cond := some uptoSmall }

/-- 'kistlaw03.FseShares', WHERE WHAT IT READS IS OF BULK AT MOST 1048576: true; the input reads as it did. -/
def fseSharesUptoRow : OpenClaim := { program := "ytjdpijjoblfoaaa", sum := "17b57c760d88a4e3cdec798fca78ea73a7c8cafc942fbd3b70404c4e69c05c3d", func := "kist/kistlaw03.FseShares", spec := "fseShares", unfollowed := true, recurses := true, apart := false, narrowed := true }
def FseSharesUptoSaid : Prop := fseSharesUptoRow.holds Try.pinned (OpenSpec.upto fseSharesSpec)

/-- 'kistlaw03.FseWhole', WHERE WHAT IT READS IS OF BULK AT MOST 1048576: true; the input reads as it did. -/
def fseWholeUptoRow : OpenClaim := { program := "ytjdpijjoblfoaaa", sum := "17b57c760d88a4e3cdec798fca78ea73a7c8cafc942fbd3b70404c4e69c05c3d", func := "kist/kistlaw03.FseWhole", spec := "fseWhole", unfollowed := true, recurses := true, apart := false, narrowed := true }
def FseWholeUptoSaid : Prop := fseWholeUptoRow.holds Try.pinned (OpenSpec.upto fseWholeSpec)

/-- 'kistlaw03.FseCodes', WHERE WHAT IT READS IS OF BULK AT MOST 1048576: true; the input reads as it did. -/
def fseCodesUptoRow : OpenClaim := { program := "ytjdpijjoblfoaaa", sum := "17b57c760d88a4e3cdec798fca78ea73a7c8cafc942fbd3b70404c4e69c05c3d", func := "kist/kistlaw03.FseCodes", spec := "fseCodes", unfollowed := true, recurses := true, apart := false, narrowed := true }
def FseCodesUptoSaid : Prop := fseCodesUptoRow.holds Try.pinned (OpenSpec.upto fseCodesSpec)

/-- 'kistlaw03.FseRound', WHERE WHAT IT READS IS OF BULK AT MOST 1048576: true; the input reads as it did. -/
def fseRoundUptoRow : OpenClaim := { program := "ytjdpijjoblfoaaa", sum := "17b57c760d88a4e3cdec798fca78ea73a7c8cafc942fbd3b70404c4e69c05c3d", func := "kist/kistlaw03.FseRound", spec := "fseRound", unfollowed := true, recurses := true, apart := false, narrowed := true }
def FseRoundUptoSaid : Prop := fseRoundUptoRow.holds Try.pinned (OpenSpec.upto fseRoundSpec)

/-- 'kistlaw03.FseOrder', WHERE WHAT IT READS IS OF BULK AT MOST 1048576: true; the input reads as it did. -/
def fseOrderUptoRow : OpenClaim := { program := "ytjdpijjoblfoaaa", sum := "17b57c760d88a4e3cdec798fca78ea73a7c8cafc942fbd3b70404c4e69c05c3d", func := "kist/kistlaw03.FseOrder", spec := "fseOrder", unfollowed := true, recurses := true, apart := false, narrowed := true }
def FseOrderUptoSaid : Prop := fseOrderUptoRow.holds Try.pinned (OpenSpec.upto fseOrderSpec)

/-- 'kistlaw03.FsePuts', WHERE WHAT IT READS IS OF BULK AT MOST 1048576: true; the input reads as it did. -/
def fsePutsUptoRow : OpenClaim := { program := "ytjdpijjoblfoaaa", sum := "17b57c760d88a4e3cdec798fca78ea73a7c8cafc942fbd3b70404c4e69c05c3d", func := "kist/kistlaw03.FsePuts", spec := "fsePuts", unfollowed := true, recurses := true, apart := false, narrowed := true }
def FsePutsUptoSaid : Prop := fsePutsUptoRow.holds Try.pinned (OpenSpec.upto fsePutsSpec)

end Rows
end Go.Proofs.Ytjdpijjoblfoaaa
