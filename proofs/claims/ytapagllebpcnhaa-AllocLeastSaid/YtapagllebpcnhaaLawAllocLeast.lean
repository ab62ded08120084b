/- 'AllocLeast': for every input the law returns true; each argument reads as before. The frame after the kit's skeleton printer; the walk lies in the text that is imported. -/
import Derived.Test.YtapagllebpcnhaaRows
import Derived.Test.YtapagllebpcnhaaRow
import Derived.Test.YtapagllebpcnhaaLawAllocLeastW
import Derived.Test.YtapagllebpcnhaaRecs
import Derived.WalkKit
import Derived.ProofKit
import Derived.OpenShut
import Derived.ShutString
import Derived.ChangeOld
import Derived.Below
import Derived.SizedLaws
import Derived.JoinedCond
import Derived.Carry
namespace Go.Proofs.Ytapagllebpcnhaa.allocLeast
open Go.ChangeShapes Go.WideShapes Go.ChangeAt Go.RowKit
open Go.ChangeMaps (open_string shut_string)
set_option linter.unusedVariables false

theorem own : ownKnob Try.prog.godebug = none := by kernel_rfl
theorem laidOut : laidOutB Try.prog = true := by kernel_rfl
theorem bytes33 : Try.prog.bytesOf 33 = 16 := by kernel_rfl

theorem contract (H : Type) (enc : TypeId × Value → H) (W : World) (base : Nat) (args : Array Value) (ds gs : List (DataW H)) (before : List MemPlace)
    (hval : ∀ (j : Nat) t v, Try.f6.params[j]? = some t → args[j]? = some v → Value.okWide Try.prog W .any base t v)
    (hW : DataW.Whole enc Try.prog Try.f6.params.toList Rows.allocLeastSpec.vars false W args.toList ds gs before) (hsz0 : (DataW.weightsEach Try.checked.prog (Try.f6.params.toList ++ Rows.allocLeastSpec.plain.varTypes Try.checked.prog) (ds ++ gs)).all (· ≤ reachBytes) = true) :
    Calls Try.prog 6 args W fun e W' => ∃ v, e = .returned v ∧ Rows.allocLeastSpec.post enc Try.prog Try.f6 false true false false W args v W' := by
  have hW' := hW
  obtain ⟨p, q, hA0, hV, rfl, hfz, hnd⟩ := hW
  have hA : DataW.TrodAll enc Try.prog W 0 (fun _ => true) true Try.f6.params.toList args.toList ds p := hA0
  rw [Try.params6] at hA hval
  obtain ⟨v0, vs0, d0, ds0, p0, q0, hargs, rfl, rfl, h0, r0⟩ := trodAll_cons hA
  obtain ⟨rfl, rfl, rfl⟩ := trodAll_nil r0
  obtain rfl : args = #[v0] := by cases args; simp_all
  obtain ⟨rfl, rfl⟩ := trodVars_none hV
  have hsz : (DataW.weightsEach Try.prog [22] [d0]).all (fun x => decide (x ≤ reachBytes)) = true := hsz0
  have k0 := h0
  have lt0 : ∀ x ∈ p0, x.block < W.heap.size := by obtain ⟨m, hm⟩ := k0; exact DataW.trod_lt m _ _ _ hm
  obtain ⟨a0, len0, cap0, rfl⟩ := okWide_slice Try.underlying22 (hval 0 22 v0 rfl rfl)
  obtain ⟨fuel0, hf0⟩ := h0
  obtain ⟨z0, s0, y0⟩ := recs_of_trod (v := .slice a0 len0 cap0) (m := 2) (by decide) Try.underlying22 Try.underlying33 (by kernel_rfl) (by kernel_rfl) (by
    intro j f hj
    match j, hj with
    | 0, hj => cases hj; exact ⟨rfl, by kernel_rfl, Try.underlying3⟩
    | 1, hj => cases hj; exact ⟨rfl, by kernel_rfl, Try.underlying3⟩
    | n + 2, hj => simp at hj) hf0
  have b0 : z0.length * 16 ≤ 140737488351232 := by
    rcases y0 with ⟨rfl, _⟩ | ⟨xs, ys, hd, hl⟩
    · simp
    · have hs := sized_slice hsz (j := 0) (t := 22) (e := 33) (elems := xs) (spare := ys) rfl (by simp [show d0 = _ from hd]) Try.underlying22
      rw [bytes33] at hs
      simp only [reachBytes] at hs
      omega
  clear hA0
  refine (walkAllocLeast s0 (by omega)).mono fun e W' ⟨he, hkeep⟩ => ?_
  subst he
  have bel := Keeps.below hkeep
  exact ⟨_, rfl, _, _, _, [], _, [], hW', trodAll_mk1 (shut_bool Try.underlying4 _), (trodAll_cons_mk (Below.trod laidOut (by kernel_rfl) (of_decide_eq_true (by kernel_rfl)) k0 bel lt0) trodAll_mk0), rfl, bel.frame _, fun h => by cases h⟩

set_option maxRecDepth 100000 in
theorem lifted (os : Os) (started : os.Started) (H : Type) (enc : TypeId × Value → H) :
    ReturnsInHanded {} Try.checked os 6 .any (Rows.allocLeastSpec.pre6 enc Try.prog Try.f6 Rows.allocLeastRow.domain false) (Rows.allocLeastSpec.post enc Try.prog Try.f6 false true false false) := by
  refine returnsInHanded_of_change_sized (C := Try.checked) own started (by kernel_rfl) Try.func6
    (ChangeSpec.witness6 (enc := enc) (C := Try.checked) false ⟨#[], #[.slice none 0 0], []⟩ 8 (by kernel_rfl) (by kernel_rfl) (by kernel_rfl) (by kernel_rfl)) ?_
  intro W base args ds gs before hval hW _ hsz _
  exact contract H enc W base args ds gs before hval hW hsz

theorem proved : Rows.AllocLeastSaid :=
  OpenClaim.holds_of_wide 6 Try.f6 rfl rfl rfl rfl rfl rfl rfl ⟨rfl, rfl, rfl, rfl, rfl⟩ rfl rfl rfl rfl rfl (by kernel_rfl) Try.func6 (by kernel_rfl)
    (of_decide_eq_true (by kernel_rfl)) (by unfold Func.isWrapper; first | (rw [if_pos (by decide +kernel)]; kernel_rfl) | (rw [if_neg (by decide +kernel)]; exact ⟨rfl, rfl⟩))
    (fun os started H enc _ => lifted os started H enc)
#print axioms proved
end Go.Proofs.Ytapagllebpcnhaa.allocLeast
