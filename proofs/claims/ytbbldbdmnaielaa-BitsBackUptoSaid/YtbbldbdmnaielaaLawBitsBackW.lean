/- 'BitsBack' returns true: the walk. -/
import Derived.Test.YtbbldbdmnaielaaLives
import Derived.Test.YtbbldbdmnaielaaRefBack
namespace Go.Proofs.Ytbbldbdmnaielaa
open Go.RowKit

/-- behind some takes: what is left of the row, and of the reader -/
def BackRel (w : World) (b : Nat) (g : Option Nat) (zs : List Int) (rv : Value) (wr : World) : Prop :=
  ∃ left : Nat, Ints .i64 wr rv ((rowOf zs).take left) ∧ (∀ k, rv.ownBlock = some k → k ≠ b) ∧ Bk wr b g zs left ∧ Keeps w wr

set_option maxRecDepth 100000 in
set_option maxHeartbeats 2000000 in
theorem walkBitsBack {v u : Value} {zs ts : List Int} {w : World} (h : Ints .u8 w v zs) (hz : zs.length ≤ 1048576) (hu : Ints .i64 w u ts) (ht : ts.length ≤ 1048576) :
    Calls Try.prog 8 #[v, u] w fun e w' => e = .returned (.bool true) ∧ Keeps w w' := by
  have HU := Lib.hid hu
  obtain ⟨ua, uc, hue⟩ := hu.form
  subst hue
  obtain ⟨T, hT⟩ : ∃ T, T = ts.length := ⟨_, rfl⟩
  rw [← hT] at ht HU ⊢
  have HT := Lib.hid hT
  clear hu hT
  by_cases hno : zs = [] ∨ zs.getD (zs.length - 1) 0 = 0
  · go_enter Try.func8, Try.ntmps8
    go_wp2_with fail
    refine (newBackNo h hno).mono ?_
    rintro e w1 ⟨rfl, rfl⟩
    go_wp2_with fail
    refine (refMarkedNo h hno).mono ?_
    rintro e w1 ⟨rfl, rfl⟩
    clear hno h
    by_cases hT0 : 0 < T
    all_goals
      go_wp2_with fail
      go_loop [9] (fun i => i = .int .i64 0) (fun _ => 0)
      case atStart => rfl
      case round =>
        subst hrel
        go_wp2_with (go_at_call 13; refine (livesBits _).mono ?_; rintro e w7 ⟨rfl, k7⟩; have K7 := Lib.hid k7; clear k7)
        go_ret
        go_light
        exact ⟨rfl, K7.out⟩
  have hnil : zs ≠ [] := fun h => hno (.inl h)
  have h0 : zs.getD (zs.length - 1) 0 ≠ 0 := fun h => hno (.inr h)
  clear hno
  go_enter Try.func8, Try.ntmps8
  go_wp2_with fail
  refine (newBack h (by omega) hnil h0).mono ?_
  rintro e w1 ⟨b, g, rfl, hb, hg, hbk, k1⟩
  have HBK := Lib.hid hbk
  have HK1 := Lib.hid k1
  have hv1 := h.keeps k1
  clear hbk k1 hg h
  go_wp2_with fail
  refine (refMarked hv1 (by omega) hnil h0).mono ?_
  rintro e w2 ⟨rv, rfl, hint, hblk, k2⟩
  have hrel0 : Hid (BackRel w b g zs rv w2) := ⟨markOf zs, hint, fun k hk h => by
      have h1 := hblk k hk
      have h2 := HBK.out.lt.1
      omega, HBK.out.keeps k2, Fr.keeps HK1.out k2⟩
  clear hint k2 hv1 hblk hnil h0
  go_wp2_with fail
  go_loopw [7, 9] (fun rv i wr => ∃ k : Nat, k ≤ T ∧ i = .int .i64 k ∧ BackRel w b g zs rv wr) (fun _ i _ => T - (intOf i).toNat)
  case atStart => exact ⟨0, by omega, rfl, hrel0.out⟩
  case round =>
    obtain ⟨k, hk, rfl, left, hint, hne, hbk, hkeep⟩ := hrel
    by_cases hlt : k < T
    case neg =>
      have HK := Lib.hid hkeep
      clear hint hbk hkeep hne
      go_wp2_with (go_at_call 13; refine (livesBits _).mono ?_; rintro e w7 ⟨rfl, k7⟩; have K7 := Lib.hid k7; clear k7)
      go_ret
      go_light
      exact ⟨rfl, HK.out.keeps K7.out⟩
    obtain ⟨rva, rvc, hrv⟩ := hint.form
    subst hrv
    have hlz := hbk.2.1
    have hlen : ((rowOf zs).take left).length = left := by rw [List.length_take, rowOf_length]; omega
    have HINT := Lib.hid hint
    have HBK2 := Lib.hid hbk
    have HNE := Lib.hid hne
    have HK := Lib.hid hkeep
    rw [hlen] at HINT HNE ⊢
    have HL := Lib.hid hlen
    have hub := HU.out.keeps hkeep
    obtain ⟨hwf, ua', uc', hue, _, _, _, hc⟩ := hub
    obtain ⟨tb, to, hua, hcell⟩ := hc k (by have := HT.out; omega)
    obtain ⟨rfl, _⟩ : ua = ua' ∧ True := by cases hue; exact ⟨rfl, trivial⟩
    subst hua
    have hti := ints_int hwf (show k < ts.length by have := HT.out; omega)
    obtain ⟨t, hte⟩ : ∃ t, t = ts.getD k 0 := ⟨_, rfl⟩
    rw [← hte] at hti hcell
    clear hte hc hwf hue hlen hint hbk hne hkeep
    obtain ⟨hti0, hti1⟩ := hti
    by_cases hm : mayS t left = 0
    · have ht0 : 0 ≤ t ∧ t ≤ 32 ∧ t ≤ left := by
        unfold mayS at hm
        split at hm
        · omega
        · split at hm <;> omega
      obtain ⟨n, rfl⟩ := Int.eq_ofNat_of_zero_le ht0.1
      have hn32 : n ≤ 32 := by omega
      have hnL : n ≤ left := by omega
      clear hm ht0 hti0 hti1
      go_wp2_with fail
      refine (refTakeBack HINT.out ((rowOf_bin zs).init left) (by rw [HL.out]; omega) hn32 (by rw [HL.out]; omega)).mono ?_
      rintro e w3 ⟨v3, rfl, hi3, hb3, k3⟩
      have hcell3 := k3.cell (fun h => h) hcell
      rw [HL.out] at hi3 ⊢
      rw [List.take_take, Nat.min_eq_left (by omega)] at hi3
      obtain ⟨a3, c3, hv3⟩ := hi3.form
      have hl3 : ((rowOf zs).take (left - n)).length = left - n := by rw [List.length_take, rowOf_length]; omega
      rw [hl3] at hv3
      subst hv3
      have HI3 := Lib.hid hi3
      have HB3 := Lib.hid hb3
      have HK3 := Lib.hid k3
      have hval : ((rowOf zs).take left).drop (left - n) = ((rowOf zs).drop (left - n)).take n := by rw [List.drop_take]; congr 1; omega
      rw [hval]
      clear hi3 hb3 k3 hl3 hcell hval
      go_wp2_with fail
      refine (backTake (HBK2.out.keeps HK3.out) hn32 hnL).mono ?_
      rintro e w4 ⟨rfl, hbk4, f4⟩
      have HBK4 := Lib.hid hbk4
      have HF4 := Lib.hid f4
      have hne1 : (val (((rowOf zs).drop (left - n)).take n) != val (((rowOf zs).drop (left - n)).take n)) = false := by simp
      have hle : (((left - n : Nat) : Int) != ((left - n : Nat) : Int)) = false := by simp
      clear hbk4 f4
      go_wp2_with (go_at_call 33; refine (backLeft HBK4.out).mono ?_; rintro e w5 ⟨rfl, rfl⟩)
      go_roundw
      all_goals go_light
      case rel =>
        refine ⟨k + 1, by omega, by go_num, left - n, ?_, ?_, HBK4.out, ?_⟩
        · exact HI3.out.frB HF4.out (fun j hj h => HNE.out j (by rw [← HB3.out]; exact hj) h)
        · intro j hj
          exact HNE.out j (by rw [← HB3.out]; exact hj)
        · exact (Fr.keeps HK.out HK3.out).trans HF4.out (fun i hi h => by omega)
      case measure => simp [intOf]; omega
    · go_wp2_with fail
      refine (refTakeBackNo HINT.out (by rw [HL.out]; exact hm)).mono ?_
      rintro e w3 ⟨rfl, rfl⟩
      rw [HL.out]
      go_wp2_with fail
      refine (backTakeNo HBK2.out hm).mono ?_
      rintro e w4 ⟨rfl, rfl⟩
      obtain ⟨m, hme⟩ : ∃ m, m = mayS t left := ⟨_, rfl⟩
      rw [← hme]
      have hne1 : (m != m) = false := by simp
      have hle : ((left : Int) != (left : Int)) = false := by simp
      clear hm hme
      go_wp2_with (go_at_call 33; refine (backLeft HBK2.out).mono ?_; rintro e w5 ⟨rfl, rfl⟩)
      go_roundw
      all_goals go_light
      case rel =>
        exact ⟨k + 1, by omega, by go_num, left, HINT.out, HNE.out, HBK2.out, HK.out⟩
      case measure => simp [intOf]; omega
end Go.Proofs.Ytbbldbdmnaielaa
