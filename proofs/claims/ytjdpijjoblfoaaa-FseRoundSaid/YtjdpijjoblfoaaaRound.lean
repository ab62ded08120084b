/- A region of a round of a range over a function that draws its order: by the plain laws of such regions. -/
import Derived.RangeFuncNested
import Derived.RangeFuncCalls
import Derived.OrdersHeld
import Derived.Test.YtjdpijjoblfoaaaOwn
namespace Go.Proofs.Ytjdpijjoblfoaaa
open Go.RowKit

/-- no operation defers -/
def noDefer (ops : Array Oper) : Bool := ops.toList.all fun o => match o.op with | .defer _ => false | _ => true
theorem noDefer_at {ops : Array Oper} (h : noDefer ops = true) {i : Nat} {o : Oper} (ho : ops[i]? = some o) : ∀ c, o.op ≠ .defer c := by
  intro c e
  have h1 := List.all_eq_true.1 h o (by
    rw [← Array.getElem?_toList] at ho
    exact List.mem_of_getElem? ho)
  rw [e] at h1
  cases h1

theorem upon_round {P : Program} {l n : Nat} {o : Oper} {a : Act} {K K' : Act → World → Prop} {Q : Exit → Act → World → Prop} (hK : ∀ a w, K a w → K' a w)
    (r : Result Next) (h : o.upon P a K Q r) : o.uponIn (Fence.wide.inRound l) n P a K' Q r := by
  cases r with
  | ok x w' =>
    cases x with
    | value v => exact hK _ _ h
    | skip => exact hK _ _ h
    | defer d => exact hK _ _ h
    | enter f args =>
      exact ⟨fun h => by simp [Fence.wide] at h, CallsIn.inRound l (callsIn_wide.2 (Calls.mono h (fun e w'' he => by
        cases e
        · exact hK _ _ he
        · exact he
        · exact he)))⟩
    | row r args =>
      exact ⟨fun h => by simp [Fence.wide] at h, fun c cs _ => by
        obtain ⟨v, w', r, s⟩ := h c cs
        exact ⟨v, w', hK _ _ r, stepsIn_wide.2 s⟩⟩
    | _ => exact (h : False).elim
  | halt x w' =>
    cases x with
    | panic v => exact h
    | _ => exact (h : False).elim

theorem wpOps_round {P : Program} {l n : Nat} {ops : Array Oper} {Q : Exit → Act → World → Prop} (hd : noDefer ops = true) (hlo : ¬ LetsOut Q) :
    ∀ (is : List Nat) (a : Act) (w : World), wpOps P ops Q is a w → wpOpsIn (Fence.wide.inRound l) n P ops Q is a w
  | [], _, _, h => h
  | i :: rest, a, w, h => by
    simp only [wpOps, wpOpsIn] at h ⊢
    cases ho : ops[i]? with
    | none =>
      simp only [ho] at h ⊢
      exact wpOps_round hd hlo rest a w h
    | some o =>
      simp only [ho] at h ⊢
      by_cases hw : Region.wanted o (yielded ops a.tmps) = true
      · simp only [hw, if_true] at h ⊢
        rcases h with h | h
        · refine ⟨fun _ _ => trivial, ?_⟩
          rw [Oper.semAt_eq _ _ _ (noDefer_at hd ho)]
          exact upon_round (fun a w hh => wpOps_round hd hlo rest a w hh) _ h
        · exact (hlo h.2).elim
      · simp only [hw, if_false, Bool.false_eq_true] at h ⊢
        exact ⟨fun _ _ => trivial, wpOps_round hd hlo rest _ w h⟩

/-- the region's plain end -/
def Ends (Q : Exit → Act → World → Prop) : Exit → Act → World → Prop := fun e a w => e = .normal ∧ Q .normal a w
theorem ends_no (Q : Exit → Act → World → Prop) : ¬ LetsOut (Ends Q) := fun ⟨_, _, h, _⟩ => by cases h

theorem round_held {P : Program} {S : World → Prop} {l n id : Nat} {ops : Array Oper} {Q : Exit → Act → World → Prop} {a : Act} {w : World} (hm : P.follows .mixedOrders = true) (hd : noDefer ops = true)
    (hS : S w.drew) (h : S w.drew → wpAnyH P .any ops (Ends Q) S ops.size (Array.replicate ops.size false) a w.drew) : (Code.region id ops true).wpIn (Fence.wide.inRound l) n P Q a w := by
  refine wpIn_mono (Q := Ends Q) (wpIn_region_draw fun t => ?_) (fun e a w h => by rw [h.1]; exact h.2)
  simp only [Region.schedule, hm, Bool.true_or, if_true]
  exact wpOps_round hd (ends_no Q) _ _ _ (wpAny_sound ops.size t _ a _ (wpAny_of_held _ _ _ _ (h hS)))
/-- an operation is taken first -/
theorem take_at {P : Program} {S : World → Prop} {Q : Exit → Act → World → Prop} {md : Region.Mode} {l : List Oper} {i : Nat} {oi : Oper} {v : Value} {fuel : Nat} {listed : Array Bool} {a : Act} {w : World} (hi : l[i]? = some oi)
    (hs : Region.noSelect l.toArray = true) (hf : Region.free md l.toArray listed i = true) (hr : (Region.ready md l.toArray listed).contains i = true)
    (hy : Region.wanted oi (yielded l.toArray a.tmps) = true) (hv : ∀ w, S w → (execOp a.eval oi).run P w = .ok (.value v) w) (hS : S w)
    (h : wpAnyH P md l.toArray (Ends Q) S fuel (listed.setIfInBounds i true) (a.put oi.dst v) w) : wpAnyH P md l.toArray (Ends Q) S (fuel + 1) listed a w :=
  wpAnyH_take (by simpa using hi) hs hf hr (fun _ _ _ h => nomatch h.1) (.inl ⟨hy, hv⟩) hS h
/-- the one operation that may come up -/
theorem step_at {P : Program} {S : World → Prop} {Q : Exit → Act → World → Prop} {md : Region.Mode} {l : List Oper} {i : Nat} {oi : Oper} {fuel : Nat} {listed : Array Bool} {a : Act} {w : World} (hi : l[i]? = some oi)
    (hr : Region.ready md l.toArray listed = [i]) (hy : Region.wanted oi (yielded l.toArray a.tmps) = true)
    (h : ∀ K : Act → World → Prop, Hid (∀ a w, S w → (S w → wpAnyH P md l.toArray (Ends Q) S fuel (listed.setIfInBounds i true) a w) → K a w) → oi.wp P a w K (Ends Q)) : wpAnyH P md l.toArray (Ends Q) S (fuel + 1) listed a w :=
  wpAnyH_all hr (by simp) fun j hj => by
    rw [List.mem_singleton] at hj
    subst hj
    unfold wpOp
    rw [show l.toArray[j]? = some oi by simpa using hi]
    simp only [hy, if_true]
    exact .inl (h _ fun a w hs hq => ⟨hs, hq hs⟩)
end Go.Proofs.Ytjdpijjoblfoaaa
