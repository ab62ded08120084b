/- Putting bits to a row, in plain lists. -/
import Derived.Test.YtbbljpkboojjhaaMath
namespace Go.Proofs.Ytbbljpkboojjhaa

/-- what 'Put' refuses -/
def PutBad (n v : Int) : Prop := n < 0 ∨ 32 < n ∨ v < 0 ∨ 2 ^ n.toNat ≤ v
instance (n v : Int) : Decidable (PutBad n v) := by unfold PutBad; infer_instance
/-- the row behind a put, and what stands against it -/
def putRow (rs : List Int) (n v : Int) : List Int × Int := if PutBad n v then (rs, 1) else (rs ++ bitsOf n.toNat v, 0)
theorem putRow_no {rs : List Int} {n v : Int} (h : PutBad n v) : putRow rs n v = (rs, 1) := by rw [putRow, if_pos h]
theorem putRow_ok {rs : List Int} {n v : Int} (h : ¬ PutBad n v) : putRow rs n v = (rs ++ bitsOf n.toNat v, 0) := by rw [putRow, if_neg h]
theorem not_putBad {n v : Int} (h : ¬ PutBad n v) : 0 ≤ n ∧ n ≤ 32 ∧ 0 ≤ v ∧ v < 2 ^ n.toNat := by unfold PutBad at h; omega
theorem putRow_bin {rs : List Int} {n v : Int} (h : Bin rs) : Bin (putRow rs n v).1 := by
  unfold putRow; split
  · exact h
  · exact h.append (bitsOf_bin _ _)
theorem putRow_len (rs : List Int) (n v : Int) : rs.length ≤ (putRow rs n v).1.length ∧ (putRow rs n v).1.length ≤ rs.length + 32 := by
  unfold putRow; split
  · simp
  · rename_i h
    have := not_putBad h
    rw [List.length_append, bitsOf_length]; omega
end Go.Proofs.Ytbbljpkboojjhaa
