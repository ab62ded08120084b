/- 'BitsReads' returns true: the walk. -/
import Derived.Test.YtbbldbdmnaielaaLives
import Derived.Test.YtbbldbdmnaielaaRefRow
namespace Go.Proofs.Ytbbldbdmnaielaa
open Go.RowKit

/-- behind some takes: what is left of the row, and where the reader stands -/
def ReadsRel (w : World) (b : Nat) (g : Option Nat) (zs : List Int) (rv : Value) (wr : World) : Prop :=
  ∃ at_ : Nat, Ints .i64 wr rv ((rowOf zs).drop at_) ∧ (∀ k, rv.ownBlock = some k → k ≠ b) ∧ Rd wr b g zs at_ ∧ Keeps w wr

set_option maxRecDepth 100000 in
set_option maxHeartbeats 1000000 in
theorem walkBitsReads {v u : Value} {zs ts : List Int} {w : World} (h : Ints .u8 w v zs) (hz : zs.length ≤ 1048576) (hu : Ints .i64 w u ts) (ht : ts.length ≤ 1048576) :
    Calls Try.prog 7 #[v, u] w fun e w' => e = .returned (.bool true) ∧ Keeps w w' := by
  have HU := Lib.hid hu
  obtain ⟨ua, uc, hue⟩ := hu.form
  have hul := hu.len'
  subst hue
  obtain ⟨T, hT⟩ : ∃ T, T = ts.length := ⟨_, rfl⟩
  rw [← hT] at ht HU ⊢
  have HT := Lib.hid hT
  clear hu hT hul
  go_enter Try.func7, Try.ntmps7
  go_wp2_with fail
  refine (newReader h (by omega)).mono ?_
  rintro e w1 ⟨b, g, rfl, hb, hg, hrd, k1⟩
  have HRD := Lib.hid hrd
  have HK1 := Lib.hid k1
  have HG := Lib.hid hg
  have hv1 := h.keeps k1
  clear hrd k1 hg h
  go_wp2_with fail
  refine (refRow hv1 (by omega)).mono ?_
  rintro e w2 ⟨rv, rfl, hown, k2⟩
  have hrel0 : Hid (ReadsRel w b g zs rv w2) := ⟨0, by simpa using hown.ints, fun k hk h => by
      have h1 := (hown.lt k hk).1
      have h2 := HRD.out.lt.1
      omega, HRD.out.keeps k2, Fr.keeps HK1.out k2⟩
  clear hown k2 hv1
  go_wp2_with fail
  go_loopw [6, 7] (fun rv i wr => ∃ k : Nat, k ≤ T ∧ i = .int .i64 k ∧ ReadsRel w b g zs rv wr) (fun _ i _ => T - (intOf i).toNat)
  case atStart => exact ⟨0, by omega, rfl, hrel0.out⟩
  case round =>
    obtain ⟨k, hk, rfl, at_, hint, hne, hrd, hkeep⟩ := hrel
    by_cases hlt : k < T
    case neg =>
      have HK := Lib.hid hkeep
      clear hint hrd hkeep hne
      go_wp2_with (go_at_call 13; refine (livesBits _).mono ?_; rintro e w7 ⟨rfl, k7⟩; have K7 := Lib.hid k7; clear k7)
      go_ret
      go_light
      exact ⟨rfl, HK.out.keeps K7.out⟩
    obtain ⟨rva, rvc, hrv⟩ := hint.form
    subst hrv
    have hlen : ((rowOf zs).drop at_).length = 8 * zs.length - at_ := by rw [List.length_drop, rowOf_length]
    have hat := hrd.2.1
    have HINT := Lib.hid hint
    have HRD2 := Lib.hid hrd
    have HNE := Lib.hid hne
    have HK := Lib.hid hkeep
    obtain ⟨L, hL⟩ : ∃ L, L = ((rowOf zs).drop at_).length := ⟨_, rfl⟩
    rw [← hL] at hlen HINT HNE ⊢
    have hLZ : (L : Int) = 8 * (zs.length : Int) - at_ := by omega
    have HL := Lib.hid hL
    have HLZ := Lib.hid hLZ
    have hub := HU.out.keeps hkeep
    obtain ⟨hwf, ua', uc', hue, _, _, _, hc⟩ := hub
    obtain ⟨tb, to, hua, hcell⟩ := hc k (by have := HT.out; omega)
    obtain ⟨rfl, _⟩ : ua = ua' ∧ True := by cases hue; exact ⟨rfl, trivial⟩
    subst hua
    have hti := ints_int hwf (show k < ts.length by have := HT.out; omega)
    obtain ⟨t, hte⟩ : ∃ t, t = ts.getD k 0 := ⟨_, rfl⟩
    rw [← hte] at hti hcell
    clear hte hc hwf hue hlen hL hLZ hint hrd hne hkeep
    obtain ⟨hti0, hti1⟩ := hti
    by_cases hm : mayS t L = 0
    · have ht0 : 0 ≤ t ∧ t ≤ 32 ∧ t ≤ L := by
        unfold mayS at hm
        split at hm
        · omega
        · split at hm <;> omega
      obtain ⟨n, rfl⟩ := Int.eq_ofNat_of_zero_le ht0.1
      have hn32 : n ≤ 32 := by omega
      have hnL : n ≤ L := by omega
      clear hm ht0 hti0 hti1
      go_wp2_with fail
      refine (refTake HINT.out ((rowOf_bin zs).tail at_) (by have := HL.out; have := HLZ.out; omega) hn32 (by have := HL.out; omega)).mono ?_
      rintro e w3 ⟨v3, rfl, hi3, hb3, k3⟩
      have hcell3 := k3.cell (fun h => h) hcell
      rw [List.drop_drop] at hi3
      obtain ⟨a3, c3, hv3⟩ := hi3.form
      have hl3 : ((rowOf zs).drop (at_ + n)).length = L - n := by rw [List.length_drop, HL.out, List.length_drop]; omega
      rw [hl3] at hv3
      subst hv3
      have HI3 := Lib.hid hi3
      have HB3 := Lib.hid hb3
      have HK3 := Lib.hid k3
      clear hi3 hb3 k3 hl3 hcell
      go_wp2_with fail
      refine (readerTake (HRD2.out.keeps HK3.out) hn32 (by have := HLZ.out; omega)).mono ?_
      rintro e w4 ⟨rfl, hrd4, f4⟩
      have HRD4 := Lib.hid hrd4
      have HF4 := Lib.hid f4
      have hne1 : (val (((rowOf zs).drop at_).take n) != val (((rowOf zs).drop at_).take n)) = false := by simp
      have hle : ((8 * (zs.length : Int) - ((at_ : Int) + (n : Int))) != ((L - n : Nat) : Int)) = false := by have := HLZ.out; simp; omega
      clear hrd4 f4
      go_wp2_with (go_at_call 28; refine (readerLeft HRD4.out).mono ?_; rintro e w5 ⟨rfl, k5, rfl⟩)
      go_roundw
      all_goals go_light
      case rel =>
        refine ⟨k + 1, by omega, by go_num, at_ + n, ?_, ?_, HRD4.out.keeps ((Fr.refl _ _).drewN _), ?_⟩
        · exact (HI3.out.frB HF4.out (fun j hj h => HNE.out j (by rw [← HB3.out]; exact hj) h)).keeps ((Fr.refl _ _).drewN _)
        · intro j hj
          exact HNE.out j (by rw [← HB3.out]; exact hj)
        · exact ((Fr.keeps HK.out HK3.out).trans HF4.out (fun i hi h => by omega)).drewN _
      case measure => simp [intOf]; omega
    · have hm2 : mayS t (8 * (zs.length : Int) - at_) ≠ 0 := by rw [← HLZ.out]; exact hm
      have hmm := HLZ.out
      go_wp2_with fail
      refine (refTakeNo HINT.out (by rw [← HL.out]; exact hm)).mono ?_
      rintro e w3 ⟨rfl, rfl⟩
      rw [← HL.out]
      go_wp2_with fail
      refine (readerTakeNo HRD2.out hm2).mono ?_
      rintro e w4 ⟨rfl, k4⟩
      rw [← hmm]
      have HRD4 := Lib.hid (HRD2.out.keeps k4)
      have HK4 := Lib.hid k4
      obtain ⟨m, hme⟩ : ∃ m, m = mayS t L := ⟨_, rfl⟩
      rw [← hme]
      have hne1 : (m != m) = false := by simp
      have hle : (8 * (zs.length : Int) - (at_ : Int) != (L : Int)) = false := by simp; omega
      clear k4 hm hm2 hmm hme
      go_wp2_with (go_at_call 28; refine (readerLeft HRD4.out).mono ?_; rintro e w5 ⟨rfl, k5, rfl⟩)
      go_roundw
      all_goals go_light
      case rel =>
        have kk : Keeps wr (w4.drewN k5) := HK4.out.drewN _
        exact ⟨k + 1, by omega, by go_num, at_, HINT.out.keeps kk, HNE.out, HRD2.out.keeps kk, Fr.keeps HK.out kk⟩
      case measure => simp [intOf]; omega
end Go.Proofs.Ytbbldbdmnaielaa
