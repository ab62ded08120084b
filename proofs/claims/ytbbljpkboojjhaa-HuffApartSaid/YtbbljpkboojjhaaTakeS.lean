/- Taking bits of a row, in plain lists: what is told, and what is left. -/
import Derived.Test.YtbbljpkboojjhaaNumber
namespace Go.Proofs.Ytbbljpkboojjhaa

/-- n bits from the row's beginning: the number, what is left, what stands against it -/
def takeS (bs : List Int) (n : Int) : Int × List Int × Int :=
  if mayS n bs.length = 0 then (val (bs.take n.toNat), bs.drop n.toNat, 0) else (0, bs, mayS n bs.length)
/-- n bits from the row's end -/
def backS (bs : List Int) (n : Int) : Int × List Int × Int :=
  if mayS n bs.length = 0 then (val (bs.drop (bs.length - n.toNat)), bs.take (bs.length - n.toNat), 0) else (0, bs, mayS n bs.length)

theorem mayS_ok {n : Int} {L : Nat} (h : mayS n L = 0) : 0 ≤ n ∧ n ≤ 32 ∧ n ≤ L := by
  unfold mayS at h
  split at h
  · omega
  · split at h <;> omega
theorem takeS_ok {bs : List Int} {n : Int} (h : mayS n bs.length = 0) : takeS bs n = (val (bs.take n.toNat), bs.drop n.toNat, 0) := by rw [takeS, if_pos h]
theorem takeS_no {bs : List Int} {n : Int} (h : mayS n bs.length ≠ 0) : takeS bs n = (0, bs, mayS n bs.length) := by rw [takeS, if_neg h]
theorem backS_ok {bs : List Int} {n : Int} (h : mayS n bs.length = 0) : backS bs n = (val (bs.drop (bs.length - n.toNat)), bs.take (bs.length - n.toNat), 0) := by rw [backS, if_pos h]
theorem backS_no {bs : List Int} {n : Int} (h : mayS n bs.length ≠ 0) : backS bs n = (0, bs, mayS n bs.length) := by rw [backS, if_neg h]
theorem takeS_bin {bs : List Int} {n : Int} (h : Bin bs) : Bin (takeS bs n).2.1 := by
  unfold takeS; split
  · exact h.tail _
  · exact h
theorem backS_bin {bs : List Int} {n : Int} (h : Bin bs) : Bin (backS bs n).2.1 := by
  unfold backS; split
  · exact h.init _
  · exact h
theorem takeS_le (bs : List Int) (n : Int) : (takeS bs n).2.1.length ≤ bs.length := by
  unfold takeS; split
  · simp
  · simp
theorem backS_le (bs : List Int) (n : Int) : (backS bs n).2.1.length ≤ bs.length := by
  unfold backS; split
  · simp
  · simp
end Go.Proofs.Ytbbljpkboojjhaa
