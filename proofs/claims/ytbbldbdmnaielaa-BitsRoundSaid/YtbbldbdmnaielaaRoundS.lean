/- Pieces that may be put, as a row of bits: taken again from the first on, and from the last on. -/
import Derived.Test.YtbbldbdmnaielaaTakeS
import Derived.Test.YtbbldbdmnaielaaPutS
import Derived.Test.YtbbldbdmnaielaaBack
namespace Go.Proofs.Ytbbldbdmnaielaa

def rowP : List (List Int) → List Int
  | [] => []
  | r :: rs => bitsOf (r.getD 0 0).toNat (r.getD 1 0) ++ rowP rs
def GoodP (ps : List (List Int)) : Prop := ∀ r ∈ ps, ¬ PutBad (r.getD 0 0) (r.getD 1 0)

theorem rowP_append (a b : List (List Int)) : rowP (a ++ b) = rowP a ++ rowP b := by
  induction a with
  | nil => rfl
  | cons r a ih => simp [rowP, ih]
theorem rowP_bin (a : List (List Int)) : Bin (rowP a) := by
  induction a with
  | nil => exact Bin.nil
  | cons r a ih => exact (bitsOf_bin _ _).append ih
theorem rowP_drop {ps : List (List Int)} {k : Nat} (h : k < ps.length) : rowP (ps.drop k) = bitsOf ((ps.getD k []).getD 0 0).toNat ((ps.getD k []).getD 1 0) ++ rowP (ps.drop (k + 1)) := by
  have e : ps.getD k [] = ps[k] := by rw [List.getD_eq_getElem?_getD, List.getElem?_eq_getElem h]; rfl
  rw [List.drop_eq_getElem_cons h, rowP, e]
theorem rowP_take {ps : List (List Int)} {k : Nat} (h : k < ps.length) : rowP (ps.take (k + 1)) = rowP (ps.take k) ++ bitsOf ((ps.getD k []).getD 0 0).toNat ((ps.getD k []).getD 1 0) := by
  have e : ps.getD k [] = ps[k] := by rw [List.getD_eq_getElem?_getD, List.getElem?_eq_getElem h]; rfl
  rw [← List.take_append_getElem h, rowP_append, e]
  simp [rowP]
theorem good_at {ps : List (List Int)} (hg : GoodP ps) {k : Nat} (h : k < ps.length) : ¬ PutBad ((ps.getD k []).getD 0 0) ((ps.getD k []).getD 1 0) := by
  refine hg _ ?_
  rw [List.getD_eq_getElem?_getD, List.getElem?_eq_getElem h]
  exact List.getElem_mem _
theorem GoodP.snoc {ps : List (List Int)} {r : List Int} (hg : GoodP ps) (h : ¬ PutBad (r.getD 0 0) (r.getD 1 0)) : GoodP (ps ++ [r]) := by
  intro x hx
  rcases List.mem_append.1 hx with hx | hx
  · exact hg x hx
  · simp at hx; subst hx; exact h

theorem val_put {n x : Int} (h : ¬ PutBad n x) : val (bitsOf n.toNat x) = x := by
  obtain ⟨h0, h1, h2, h3⟩ := not_putBad h
  rw [val_bitsOf, Int.emod_eq_of_lt h2 h3]
theorem may_put {n x : Int} {L : Nat} (h : ¬ PutBad n x) (hl : n.toNat ≤ L) : mayS n L = 0 := by
  obtain ⟨h0, h1, h2, h3⟩ := not_putBad h
  rw [mayS, if_neg (by omega), if_neg (by omega)]
theorem takeS_bits {n x : Int} (rest : List Int) (h : ¬ PutBad n x) : takeS (bitsOf n.toNat x ++ rest) n = (x, rest, 0) := by
  have hl : (bitsOf n.toNat x).length = n.toNat := bitsOf_length _ _
  rw [takeS_ok (may_put h (by rw [List.length_append, hl]; omega)), List.take_append_of_le_length (by omega), List.take_of_length_le (by omega), val_put h, List.drop_append_of_le_length (by omega), List.drop_of_length_le (by omega)]
  simp
theorem backS_bits {n x : Int} (rest : List Int) (h : ¬ PutBad n x) : backS (rest ++ bitsOf n.toNat x) n = (x, rest, 0) := by
  have hl : (bitsOf n.toNat x).length = n.toNat := bitsOf_length _ _
  have e : (rest ++ bitsOf n.toNat x).length - n.toNat = rest.length := by rw [List.length_append, hl]; omega
  rw [backS_ok (may_put h (by rw [List.length_append, hl]; omega)), e, List.drop_left, List.take_left, val_put h]

theorem mark_pack {bs : List Int} (h : Bin bs) : pack (bs ++ [1]) ≠ [] ∧ (pack (bs ++ [1])).getD ((pack (bs ++ [1])).length - 1) 0 ≠ 0 ∧ (rowOf (pack (bs ++ [1]))).take (markOf (pack (bs ++ [1]))) = bs := by
  have hb1 : Bin (bs ++ [1]) := h.append (by intro z hz; simp at hz; exact .inr hz)
  obtain ⟨zs, hzs⟩ : ∃ zs, zs = pack (bs ++ [1]) := ⟨_, rfl⟩
  have hbyt : Byt zs := by rw [hzs]; exact pack_byt hb1
  have hlen : zs.length = (bs.length + 8) / 8 := by rw [hzs, pack_length, List.length_append]; rfl
  have hrow : rowOf zs = bs ++ [1] ++ List.replicate (8 * (((bs ++ [1]).length + 7) / 8) - (bs ++ [1]).length) 0 := by rw [hzs]; exact rowOf_pack hb1
  rw [← hzs]
  have hat : (rowOf zs).getD bs.length 0 = 1 := by
    rw [hrow, List.append_assoc, List.getD_eq_getElem?_getD, List.getElem?_append_right (Nat.le_refl _)]
    simp
  have hlast : zs.getD (zs.length - 1) 0 ≠ 0 := by
    intro h0
    have h1 := rowOf_getD zs bs.length (by omega)
    rw [hat, show bs.length / 8 = zs.length - 1 from by omega, h0] at h1
    simp at h1
  have hnil : zs ≠ [] := by
    intro h0
    rw [h0] at hlen
    simp at hlen
  refine ⟨hnil, hlast, ?_⟩
  have hbl : 0 ≤ zs.getD (zs.length - 1) 0 ∧ zs.getD (zs.length - 1) 0 < 256 := by
    have hm : zs.getD (zs.length - 1) 0 ∈ zs := by
      rw [List.getD_eq_getElem?_getD, List.getElem?_eq_getElem (by omega)]
      exact List.getElem_mem _
    exact hbyt _ hm
  have hm := (markOf_spec hnil hbl hlast).1
  have hm2 : IsMark (rowOf zs) bs.length := by
    refine ⟨by rw [rowOf_length]; omega, hat, ?_⟩
    intro j hj hjl
    rw [hrow, List.append_assoc, List.getD_eq_getElem?_getD, List.getElem?_append_right (by omega)]
    obtain ⟨q, hq⟩ : ∃ q, j - bs.length = q + 1 := ⟨j - bs.length - 1, by omega⟩
    rw [hq]
    simp only [List.singleton_append, List.getElem?_cons_succ, List.getElem?_replicate]
    split <;> rfl
  rw [hm.uniq hm2, hrow, List.append_assoc, List.take_left]
end Go.Proofs.Ytbbldbdmnaielaa
