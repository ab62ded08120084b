/- What the bound on the bulk of the arguments gives: so many places at most in each slice. -/
import Derived.Test.YtbbljpkboojjhaaRows
namespace Go.Proofs.Ytbbljpkboojjhaa.bulks

theorem pos {H : Type} (d : DataW H) : 0 < Rows.uptoBulk d := by
  cases d with
  | lit l => cases l <;> simp [Rows.uptoBulk]
  | _ => simp [Rows.uptoBulk]
theorem all_len {H : Type} : ∀ l : List (DataW H), l.length ≤ Rows.uptoBulkAll l
  | [] => by simp [Rows.uptoBulkAll]
  | d :: l => by have h1 := pos d; have h2 := all_len l; simp only [Rows.uptoBulkAll, List.length_cons]; omega
theorem part_le {H : Type} {d : DataW H} : ∀ {l : List (DataW H)}, d ∈ l → Rows.uptoBulk d ≤ Rows.uptoBulkAll l
  | [], h => by cases h
  | x :: l, h => by
    rcases List.mem_cons.1 h with rfl | h
    · simp only [Rows.uptoBulkAll]; omega
    · have := part_le h; simp only [Rows.uptoBulkAll]; omega
theorem slice_le {H : Type} (xs ys : List (DataW H)) : xs.length + ys.length + 1 ≤ Rows.uptoBulk (.slice xs ys) := by
  have h1 := all_len xs
  have h2 := all_len ys
  simp only [Rows.uptoBulk]
  omega
theorem bound {H : Type} {l : List (DataW H)} (h : Rows.uptoSmall H l = true) : Rows.uptoBulkAll l ≤ 1048576 := of_decide_eq_true h

end Go.Proofs.Ytbbljpkboojjhaa.bulks
