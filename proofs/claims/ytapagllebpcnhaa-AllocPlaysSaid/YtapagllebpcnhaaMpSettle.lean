/- The map of numbers: Settle. -/
import Derived.Test.YtapagllebpcnhaaMpFrees
namespace Go.Proofs.Ytapagllebpcnhaa
open Go.RowKit

/-- the first k, given back, are free -/
def settleK (st : List Int) : Nat → List Int
  | 0 => st
  | k + 1 => if (settleK st k).getD k 0 = 2 then (settleK st k).set k 0 else settleK st k
def settleS (st : List Int) : List Int := settleK st st.length
theorem settleK_length (st : List Int) : ∀ k, (settleK st k).length = st.length
  | 0 => rfl
  | k + 1 => by
    have := settleK_length st k
    simp only [settleK]
    split <;> simp [this]
theorem settleK_get (st : List Int) : ∀ k i, k ≤ st.length → (settleK st k).getD i 0 = if i < k ∧ st.getD i 0 = 2 then 0 else st.getD i 0
  | 0, i, _ => by simp [settleK]
  | k + 1, i, hk => by
    have ih := settleK_get st k
    have hl := settleK_length st k
    have hkk := ih k (by omega)
    rw [if_neg (by omega)] at hkk
    simp only [settleK, hkk]
    split
    case isTrue h2 =>
      rw [set_get _ _ _ _ (by omega)]
      by_cases he : i = k
      · rw [if_pos he, if_pos ⟨by omega, by rw [he]; exact h2⟩]
      · rw [if_neg he, ih i (by omega)]
        by_cases h3 : i < k ∧ st.getD i 0 = 2
        · rw [if_pos h3, if_pos ⟨by omega, h3.2⟩]
        · rw [if_neg h3, if_neg (by omega)]
    case isFalse h2 =>
      rw [ih i (by omega)]
      by_cases h3 : i < k ∧ st.getD i 0 = 2
      · rw [if_pos h3, if_pos ⟨by omega, h3.2⟩]
      · rw [if_neg h3, if_neg]
        intro h4
        by_cases he : i = k
        · rw [he] at h4; exact h2 h4.2
        · omega
theorem settleS_get (st : List Int) {i : Nat} (hi : i < st.length) : (settleS st).getD i 0 = if st.getD i 0 = 2 then 0 else st.getD i 0 := by
  rw [settleS, settleK_get st _ i (Nat.le_refl _)]
  simp [hi]
theorem settleS_length (st : List Int) : (settleS st).length = st.length := settleK_length st _
theorem settleS_cnt2 (st : List Int) : cnt (settleS st) 2 = 0 := cnt_none fun i hi => by
  rw [settleS_length] at hi
  rw [settleS_get st hi]
  split
  · decide
  · assumption

set_option maxRecDepth 100000 in
set_option maxHeartbeats 1000000 in
theorem mapSettle {R : Nat → Prop} {w : World} {b s L : Nat} {st : List Int} {rs C : Nat} (h : MpX R w b s L st rs C) (hC : C ≤ 17592186044100) :
    Calls Try.prog 20 #[.pointer (some ⟨b, 0, none⟩)] w fun e w' => e = .returned (.tuple #[]) ∧ MpX R w' b s L (settleS st) rs C ∧ Fr (fun k => ¬ R k) w w' := by
  obtain ⟨v, q, E, h⟩ := h
  have H := Lib.hid h
  obtain ⟨_, d1, _⟩ := h.cells
  have he := h.end_
  obtain ⟨N, hN⟩ : ∃ N, N = st.length := ⟨_, rfl⟩
  rw [← hN] at d1 he
  have HN := Lib.hid hN
  clear h hN
  go_enter Try.func20, Try.ntmps20
  go_wp2_with fail
  go_loopw [9] (fun iv wr => ∃ (k : Nat) (v' : Value) (q' : List Int) (E' : TypeId), k ≤ N ∧ iv = .int .i64 k ∧ Mp R wr b s L (settleK st k) rs C v' q' E' (cnt st 2) ∧ Fr (fun k => ¬ R k) w wr) (fun iv _ => N - (intOf iv).toNat)
  case atStart => exact ⟨0, v, q, E, by omega, rfl, H.out, Fr.refl _ _⟩
  case round =>
    obtain ⟨k, v', q', E', hk, rfl, hm, hf⟩ := hrel
    have HM := Lib.hid hm
    have HF := Lib.hid hf
    have hln := settleK_length st k
    obtain ⟨d0, _, _, _, _, _, fz⟩ := hm.cells
    have f4 := fz 4
    by_cases hlt : k < N
    case neg =>
      have hkN : k = N := by omega
      have e : Hid (settleK st k = settleS st) := by show _ = _; rw [hkN, HN.out]; rfl
      clear hm hf fz hln hkN d0
      go_wp2_with fail
      go_end0
      go_light
      have f : Fr (fun k => k = b ∨ k = s) wr (wr.setCell ⟨b, 4, none⟩ (.int .i64 0)) := (Fr.refl _ wr).setAt (.inl rfl) 4 _
      refine ⟨rfl, ?_, HF.out.trans (HM.out.notR f) (fun _ _ h => h)⟩
      rw [← e.out]
      have hz : cnt (settleK st k) 2 = 0 := by rw [e.out]; exact settleS_cnt2 st
      exact ⟨v', q', E', HM.out.upd (by rw [heap_set HM.out.heap, hz]; rfl) (HM.out.own.fr ((Fr.refl (fun k => k = b) wr).setAt rfl 4 _) (fun x hx e => by cases hx; exact HM.out.sb e)) f rfl HM.out.val (fun _ _ h => h) HM.out.rsb HM.out.qb⟩
    case pos =>
      obtain ⟨ck, _⟩ := hm.own.at (i := k) (by rw [hln, ← HN.out]; exact hlt)
      have hv := hm.val k (by rw [hln, ← HN.out]; exact hlt)
      have HNX : Hid (settleK st (k + 1) = if (settleK st k).getD k 0 = 2 then (settleK st k).set k 0 else settleK st k) := rfl
      obtain ⟨y, hy⟩ : ∃ y, y = (settleK st k).getD k 0 := ⟨_, rfl⟩
      rw [← hy] at ck hv HNX
      have HY := Lib.hid hy
      have t1 : (0 : Int) ≤ (k : Int) := by omega
      have t2 : (k : Int) < (N : Int) := by omega
      clear hm hf fz hy
      by_cases h2 : y = 2
      · have e : Hid (settleK st (k + 1) = (settleK st k).set k 0) := by show _ = _; rw [HNX.out, if_pos h2]
        have hc2 := cnt_set 2 0 (settleK st k) k (by rw [hln, ← HN.out]; exact hlt)
        rw [← HY.out, h2] at hc2
        simp at hc2
        have hq := HM.out.qb
        have hfc := mapFrees HM.out hC (k := k) (by rw [hln, ← HN.out]; exact hlt) (by rw [← HY.out, h2]; decide) (C' := C) (by omega)
        have HFC := Lib.hid hfc
        clear hc2 hq hfc hln
        subst h2
        go_wp2_with fail
        refine HFC.out.mono ?_
        rintro e6 w6 ⟨rfl, ⟨v6, q6, _, h6⟩, f6⟩
        have H6 := Lib.hid h6
        have F6 := Lib.hid f6
        clear h6 f6
        go_wp2_with fail
        go_roundw
        all_goals go_light
        case rel => exact ⟨k + 1, v6, q6, E', by omega, by go_num, by rw [e.out]; exact H6.out, HF.out.trans F6.out (fun _ _ h => h)⟩
        case measure => simp [intOf]; omega
      · have e : Hid (settleK st (k + 1) = settleK st k) := by show _ = _; rw [HNX.out, if_neg h2]
        have hyb : (y == 2) = false := by simpa using h2
        clear h2 hln
        go_wp2_with fail
        go_roundw
        all_goals go_light
        case rel => exact ⟨k + 1, v', q', E', by omega, by go_num, by rw [e.out]; exact HM.out, HF.out⟩
        case measure => simp [intOf]; omega
end Go.Proofs.Ytapagllebpcnhaa
