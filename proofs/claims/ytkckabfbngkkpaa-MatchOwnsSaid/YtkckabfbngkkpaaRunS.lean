/- The steps done: the plain law. -/
import Derived.Test.YtkckabfbngkkpaaLitS
namespace Go.Proofs.Ytkckabfbngkkpaa

/-- what a step refuses as data that cannot be; 'there': so many bytes, the step's literals counted -/
def RunData (q : List Int) (left there : Int) : Prop :=
  q.getD 0 0 < 0 ∨ left < q.getD 0 0 ∨ q.getD 1 0 < 0 ∨ (0 < q.getD 1 0 ∧ (q.getD 2 0 < 1 ∨ there < q.getD 2 0)) ∨ (q.getD 1 0 = 0 ∧ q.getD 2 0 ≠ 0)
instance (q : List Int) (left there : Int) : Decidable (RunData q left there) := by unfold RunData; infer_instance
/-- what a step refuses as too much -/
def RunBig (q : List Int) (there most : Int) : Prop := most < there ∨ most - there < q.getD 1 0
instance (q : List Int) (there most : Int) : Decidable (RunBig q there most) := by unfold RunBig; infer_instance
/-- n bytes more, each from d back -/
def copyS (out : List Int) (d : Nat) : Nat → List Int
  | 0 => out
  | n + 1 => let o := copyS out d n; o ++ [o.getD (o.length - d) 0]
theorem copyS_length (out : List Int) (d n : Nat) : (copyS out d n).length = out.length + n := by
  induction n with
  | zero => rfl
  | succ n ih => simp only [copyS, List.length_append, ih, List.length_singleton]; omega

def runS (most : Int) : List (List Int) → List Int → List Int → List Int × Int
  | [], rest, out => if most - out.length < rest.length then ([], 11) else (out ++ rest, 0)
  | q :: qs, rest, out =>
    if RunData q rest.length (out.length + q.getD 0 0) then ([], 5)
    else if RunBig q (out.length + q.getD 0 0) most then ([], 11)
    else runS most qs (rest.drop (q.getD 0 0).toNat) (copyS (out ++ rest.take (q.getD 0 0).toNat) (q.getD 2 0).toNat (q.getD 1 0).toNat)

theorem runS_end {most : Int} {qs : List (List Int)} {k : Nat} (h : k = qs.length) (rest out : List Int) : runS most (qs.drop k) rest out = if most - out.length < rest.length then ([], 11) else (out ++ rest, 0) := by
  rw [h, List.drop_length]; rfl
theorem runS_data {most : Int} {qs : List (List Int)} {k : Nat} (h : k < qs.length) {rest out : List Int} (hb : RunData (qs.getD k []) rest.length (out.length + (qs.getD k []).getD 0 0)) : runS most (qs.drop k) rest out = ([], 5) := by
  have e : qs.getD k [] = qs[k] := by rw [List.getD_eq_getElem?_getD, List.getElem?_eq_getElem h]; rfl
  rw [e] at hb
  rw [List.drop_eq_getElem_cons h, runS, if_pos hb]
theorem runS_big {most : Int} {qs : List (List Int)} {k : Nat} (h : k < qs.length) {rest out : List Int} (ha : ¬ RunData (qs.getD k []) rest.length (out.length + (qs.getD k []).getD 0 0)) (hb : RunBig (qs.getD k []) (out.length + (qs.getD k []).getD 0 0) most) :
    runS most (qs.drop k) rest out = ([], 11) := by
  have e : qs.getD k [] = qs[k] := by rw [List.getD_eq_getElem?_getD, List.getElem?_eq_getElem h]; rfl
  rw [e] at ha hb
  rw [List.drop_eq_getElem_cons h, runS, if_neg ha, if_pos hb]
theorem runS_ok {most : Int} {qs : List (List Int)} {k : Nat} (h : k < qs.length) {rest out : List Int} (ha : ¬ RunData (qs.getD k []) rest.length (out.length + (qs.getD k []).getD 0 0)) (hb : ¬ RunBig (qs.getD k []) (out.length + (qs.getD k []).getD 0 0) most) :
    runS most (qs.drop k) rest out = runS most (qs.drop (k + 1)) (rest.drop ((qs.getD k []).getD 0 0).toNat) (copyS (out ++ rest.take ((qs.getD k []).getD 0 0).toNat) ((qs.getD k []).getD 2 0).toNat ((qs.getD k []).getD 1 0).toNat) := by
  have e : qs.getD k [] = qs[k] := by rw [List.getD_eq_getElem?_getD, List.getElem?_eq_getElem h]; rfl
  rw [e] at ha hb ⊢
  rw [List.drop_eq_getElem_cons h, runS, if_neg ha, if_neg hb]
end Go.Proofs.Ytkckabfbngkkpaa
