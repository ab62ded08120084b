/- 'BitsWrites' returns true: the walk. -/
import Derived.Test.YtbbldbdmnaielaaLives
import Derived.Test.YtbbldbdmnaielaaRecs
import Derived.Test.YtbbldbdmnaielaaRefPut
import Derived.Test.YtbbldbdmnaielaaWriterPut
import Derived.Test.YtbbldbdmnaielaaWriterLen
import Derived.Test.YtbbldbdmnaielaaMarked
import Derived.Test.YtbbldbdmnaielaaSame
namespace Go.Proofs.Ytbbldbdmnaielaa
open Go.RowKit

theorem Ints.lt {k : IntKind} {w : World} {v : Value} {zs : List Int} (h : Ints k w v zs) (h0 : 0 < zs.length) : ∀ j, v.ownBlock = some j → j < w.heap.size := by
  obtain ⟨_, a, c, rfl, _, _, _, hc⟩ := h
  obtain ⟨b, off, rfl, hcell⟩ := hc 0 h0
  intro j hj
  cases hj
  exact World.block_lt_of_cell? w _ hcell

/-- the reading of a row and the writer's own lie apart -/
def Apart (w : World) (v : Value) (b : Nat) (g : Option Nat) : Prop := ∀ j, v.ownBlock = some j → j < w.heap.size ∧ j ≠ b ∧ g ≠ some j

def WriteRel (w : World) (b : Nat) (rv : Value) (k : Nat) (wr : World) : Prop :=
  ∃ bs g, Ints .i64 wr rv bs ∧ Wr wr b g bs ∧ bs.length ≤ 32 * k ∧ Keeps w wr ∧ Apart wr rv b g ∧ (∀ j, g = some j → w.heap.size ≤ j)

set_option maxRecDepth 100000 in
set_option maxHeartbeats 4000000 in
theorem walkBitsWrites {v : Value} {ps : List (List Int)} {w : World} (h : Recs 2 w v ps) (hz : ps.length ≤ 1048576) :
    Calls Try.prog 4 #[v] w fun e w' => e = .returned (.bool true) ∧ Keeps w w' := by
  have HL := Lib.hid h
  obtain ⟨_, la, lc, rfl, _, _, _⟩ := h
  obtain ⟨n, hn⟩ : ∃ n, n = ps.length := ⟨_, rfl⟩
  rw [← hn] at hz HL ⊢
  have HN := Lib.hid hn
  clear hn
  go_enter Try.func4, Try.ntmps4
  go_wp2_with fail
  refine (newWriter _).mono ?_
  rintro e w1 ⟨rfl, hw1, k1⟩
  have HW1 := Lib.hid hw1
  have HK1 := Lib.hid k1
  obtain ⟨b, hb⟩ : ∃ b, b = w.heap.size := ⟨_, rfl⟩
  rw [← hb] at HW1 ⊢
  have HB := Lib.hid hb
  clear hw1 k1 hb
  go_wp2_with fail
  go_loopw [4, 5] (fun rv i wr => ∃ k : Nat, k ≤ n ∧ i = .int .i64 k ∧ WriteRel w b rv k wr) (fun _ i _ => n - (intOf i).toNat)
  case atStart => exact ⟨0, by omega, rfl, [], none, (Own.nil .i64 3 0 _).ints, HW1.out, by simp, HK1.out, (by intro j hj; simp [Value.ownBlock] at hj), (by intro j hj; cases hj)⟩
  case round =>
    obtain ⟨k, hk, rfl, bs, g, hint, hwr, hbl, hkeep, hap, hgb⟩ := hrel
    by_cases hlt : k < n
    case neg =>
      have HK := Lib.hid hkeep
      clear hint hwr hkeep hap hgb
      go_wp2_with (go_at_call 13; refine (livesBits _).mono ?_; rintro e w7 ⟨rfl, k7⟩; have K7 := Lib.hid k7; clear k7)
      go_ret
      go_light
      exact ⟨rfl, Fr.keeps HK.out K7.out⟩
    have hl2 := HL.out.keeps hkeep
    have hlw := HL.out
    obtain ⟨_, la', lc', hle, _, _, hc⟩ := hl2
    obtain ⟨_, la2, lc2, hle2, _, _, hc2⟩ := hlw
    have hkl : k < ps.length := by have := HN.out; omega
    obtain ⟨lb, lo, rfl, hcell⟩ := hc k hkl
    obtain ⟨lb2, lo2, rfl, hcell2⟩ := hc2 k hkl
    obtain ⟨rfl, _⟩ : la = some ⟨lb, lo, none⟩ ∧ True := by cases hle; exact ⟨rfl, trivial⟩
    obtain ⟨rfl, rfl⟩ : lb = lb2 ∧ lo = lo2 := by cases hle2; exact ⟨rfl, rfl⟩
    have hlb := World.block_lt_of_cell? w _ (hcell2 0 (by omega))
    have hn0 := hcell 0 (by omega)
    have hx0 := hcell 1 (by omega)
    have hnw := HL.out.wf hkl (j := 0) (by omega)
    have hxw := HL.out.wf hkl (j := 1) (by omega)
    obtain ⟨pn, hpn⟩ : ∃ pn, pn = (ps.getD k []).getD 0 0 := ⟨_, rfl⟩
    obtain ⟨px, hpx⟩ : ∃ px, px = (ps.getD k []).getD 1 0 := ⟨_, rfl⟩
    rw [← hpn] at hn0 hnw
    rw [← hpx] at hx0 hxw
    rw [Nat.add_zero] at hn0
    have HINT := Lib.hid hint
    have HWR := Lib.hid hwr
    have HKP := Lib.hid hkeep
    have HAP := Lib.hid hap
    have HGB := Lib.hid hgb
    have HBL := Lib.hid hbl
    have HLB : Hid (lb < b) := by rw [HB.out]; exact hlb
    clear hcell hcell2 hc hc2 hle hle2 hint hwr hkeep hap hgb hbl hpn hpx hlb
    go_wp2_with fail
    go_region_held3 (fun w' => w'.cell? ⟨lb, lo + k * 2, none⟩ = some (.int .i64 pn) ∧ w'.cell? ⟨lb, lo + k * 2 + 1, none⟩ = some (.int .i64 px)) (first | exact ⟨e0, e1⟩ | go_keep) (first | (go_at_call 15; refine (refPutAny (HINT.out.keeps (by repeat (first | exact Fr.refl _ _ | apply Fr.drew | apply Fr.drewN))) (by have := HBL.out; omega) hnw.2 hxw.2).mono ?_; rintro e w2 ⟨rv2, rfl, hi2, hb2, k2⟩; have e0 := k2.cell (fun h => h) hn0; have e1 := k2.cell (fun h => h) hx0))
    have HI2 := Lib.hid hi2
    have HB2 := Lib.hid hb2
    have HK2 := Lib.hid k2
    have HW2 := Lib.hid (HWR.out.keeps (by exact Fr.keeps (Fr.drew (Fr.refl _ _)) k2) : Wr w2 b g bs)
    clear hi2 hb2 k2 hn0 hx0
    obtain ⟨bs', hbs'⟩ : ∃ bs', bs' = (putRow bs pn px).1 := ⟨_, rfl⟩
    obtain ⟨m, hm⟩ : ∃ m, m = (putRow bs pn px).2 := ⟨_, rfl⟩
    rw [← hbs'] at HI2
    rw [← hm]
    obtain ⟨ra, rc, hrv⟩ := HI2.out.form
    subst hrv
    obtain ⟨L, hL⟩ : ∃ L, L = bs'.length := ⟨_, rfl⟩
    rw [← hL] at HI2 HB2 ⊢
    have hne1 : (m != m) = false := by simp
    have hne2 : ((L : Int) != (L : Int)) = false := by simp
    have HM := Lib.hid hm
    have HBS := Lib.hid hbs'
    have HLL := Lib.hid hL
    have hLb : L ≤ 32 * k + 32 := by have h1 := (putRow_len bs pn px).2; have h2 := HBL.out; rw [hL, hbs']; omega
    have HDIS : Hid (¬ (lb = b ∨ g = some lb)) := fun h => by
      rcases h with h | h
      · have := HLB.out; omega
      · have h1 := HGB.out _ h; have h2 := HLB.out; have h3 := HB.out; omega
    clear hbs' hm hL
    go_wp2_with fail
    go_region_held3 (fun w' => w'.cell? ⟨lb, lo + k * 2, none⟩ = some (.int .i64 pn) ∧ w'.cell? ⟨lb, lo + k * 2 + 1, none⟩ = some (.int .i64 px)) (first | exact ⟨e2, e3⟩ | exact ⟨e0, e1⟩ | go_keep) (first
      | (go_at_call 16; refine (writerPutAny (HW2.out.keeps (by repeat (first | exact Fr.refl _ _ | apply Fr.drew | apply Fr.drewN))) (by have := HBL.out; omega) hnw.2 hxw.2).mono ?_; rintro e w3 ⟨g3, rfl, hw3, hf3, hg3⟩; rw [← HM.out]; have e2 := hf3.cell HDIS.out e0; have e3 := hf3.cell HDIS.out e1)
      | (go_at_call 17; refine (writerLen (hw3.keeps (by repeat (first | exact Fr.refl _ _ | apply Fr.drew | apply Fr.drewN))) (by rw [← HBS.out, ← HLL.out]; omega)).mono ?_; rintro e w4 ⟨rfl, k4⟩; rw [← HBS.out, ← HLL.out]; have e4 := k4.cell (fun h => h) e2; have e5 := k4.cell (fun h => h) e3))
    have hf4 : Fr (fun k => k = b ∨ g = some k) w2 w4 := (((Fr.refl _ w2).drew.trans hf3 (fun _ _ h => h))).keeps k4
    rw [← HBS.out] at hw3
    have hw4 := hw3.keeps k4
    have hs2 := HK2.out.size
    have hs4 := hf4.size
    have hlw2 := HWR.out.lt
    have hlw4 := hw4.lt
    have hap2 : Apart w2 (.slice ra L rc) b g := fun j hj => by
      rcases HB2.out with h1 | h1
      · have h2 := HAP.out j (by rw [← h1]; exact hj)
        exact ⟨Nat.lt_of_lt_of_le h2.1 hs2, h2.2⟩
      · have h2 := h1 j hj
        have h3 : wr.heap.size ≤ j := h2.1
        refine ⟨h2.2, by omega, fun h => ?_⟩
        have := hlw2.2 j h
        omega
    have hap4 : Apart w4 (.slice ra L rc) b g3 := fun j hj => by
      have h2 := hap2 j hj
      refine ⟨Nat.lt_of_lt_of_le h2.1 hs4, h2.2.1, fun h => ?_⟩
      rcases hg3 with h3 | ⟨q, h3, h4⟩
      · exact h2.2.2 (by rw [← h3]; exact h)
      · rw [h3] at h; cases h
        have : w2.heap.size ≤ j := h4
        omega
    have hi4 := HI2.out.frB hf4 (fun j hj h => by
      have h2 := hap2 j hj
      rcases h with h | h
      · exact h2.2.1 h
      · exact h2.2.2 h)
    have hgb4 : ∀ j, g3 = some j → w.heap.size ≤ j := fun j hj => by
      rcases hg3 with h3 | ⟨q, h3, h4⟩
      · exact HGB.out j (by rw [← h3]; exact hj)
      · rw [h3] at hj; cases hj
        have h5 : w2.heap.size ≤ j := h4
        have h6 := HKP.out.size
        have h7 : wr.heap.size ≤ w2.heap.size := hs2
        omega
    have hkp : Keeps w w4 := ((Fr.keeps (Fr.drew HKP.out) HK2.out)).trans hf4 (fun i hi h => by
      rcases h with h | h
      · have := HB.out; omega
      · have := HGB.out i h; omega)
    have HW4 := Lib.hid hw4
    have HI4 := Lib.hid hi4
    have HKP4 := Lib.hid hkp
    have HAP4 : Hid (Apart w4 (.slice ra L rc) b g3) := hap4
    have HGB4 : Hid (∀ j, g3 = some j → w.heap.size ≤ j) := hgb4
    clear e2 e3 e4 e5 e0 e1 hlw4 hlw2 hs2 hs4 hap2 hap4 hgb4 hf4 hw3 hf3 k4 hw4 hi4 hkp hg3
    by_cases hcont : 100 ≤ k ∧ k + 1 < n
    case pos =>
      obtain ⟨hc1, hc2⟩ := hcont
      go_wp2_with fail
      go_roundw
      all_goals go_light
      case rel => exact ⟨k + 1, by omega, by go_num, bs', g3, HI4.out, HW4.out, by rw [← HLL.out]; omega, HKP4.out, HAP4.out, HGB4.out⟩
      case measure => simp [intOf]; omega
    have hor : k < 100 ∨ (100 ≤ k ∧ n ≤ k + 1) := by omega
    clear hcont
    rcases hor with hor | ⟨hor1, hor2⟩
    all_goals
      go_wp2_with (first
        | (at_builtin; refine wpList_ints rfl (.tmp 68) (.tmp 69) rfl elemI (.slice none 0 0) rfl rfl (Own.nil .i64 3 w4.heap.size _) HI4.out (by rw [← HLL.out]; simp; omega) (by simp) ?_; intro v5 w5 hown5 hfr5 hat5; simp only [List.nil_append] at hown5; have H5 := Lib.hid hown5; have F5 : Hid (Keeps w4 w5) := hfr5.mono (fun i hi h => by simp [Value.ownBlock] at h); clear hown5 hfr5 hat5)
        | (at_builtin; refine wpList_int rfl (.tmp 71) (.tmp 72) rfl elemI v5 rfl rfl H5.out (by decide) (by rw [← HLL.out]; omega) F5.out.size ?_; intro v6 w6 hown6 hfr6 hat6; have H6 := Lib.hid hown6; have F6 := Lib.hid hfr6; clear hown6 hfr6 hat6))
      have K6 : Hid (Keeps w4 w6) := F5.out.trans F6.out (fun i hi h => by have := (H5.out.lt i h).1; omega)
      refine (writerBytes (HW4.out.keeps K6.out) (by rw [← HLL.out]; omega)).mono ?_
      rintro e w7 ⟨v7, rfl, hown7, k7⟩
      obtain ⟨a7, c7, hv7⟩ := hown7.form
      obtain ⟨X, hX⟩ : ∃ X, X = (pack bs').length := ⟨_, rfl⟩
      rw [← hX] at hv7
      subst hv7
      have hXb : X ≤ 4 * k + 4 := by rw [hX, pack_length, ← HLL.out]; omega
      have HX := Lib.hid hX
      have H7 := Lib.hid hown7
      have K7 := Lib.hid (K6.out.keeps k7)
      have S67 : Hid (w6.heap.size ≤ w7.heap.size) := k7.size
      have H6b := Lib.hid (H6.out.keeps k7)
      clear hown7 k7 hX
      go_wp2_with fail
      refine (refPack (HI4.out.keeps K7.out) HW4.out.1 (by rw [← HLL.out]; omega)).mono ?_
      rintro e w8 ⟨v8, rfl, hown8, k8⟩
      have H8 := Lib.hid hown8
      have K8 := Lib.hid k8
      clear hown8 k8
      go_wp2_with fail
      refine (refSame (H7.out.ints.keeps K8.out) H8.out.ints).mono ?_
      rintro e w9 ⟨rfl, k9⟩
      have hs1 : decide (pack bs' = pack bs') = true := by simp
      rw [hs1]
      have K9 := Lib.hid (K8.out.keeps k9)
      clear k9
      go_wp2_with fail
      refine (writerMarked (HW4.out.keeps (K7.out.keeps K9.out)) (by rw [← HLL.out]; omega)).mono ?_
      rintro e w10 ⟨v10, rfl, hown10, k10⟩
      have H10 := Lib.hid hown10
      have K10 := Lib.hid (K9.out.keeps k10)
      clear hown10 k10
      go_wp2_with fail
      refine (refPack (H6b.out.ints.keeps K10.out) (HW4.out.1.append (by intro z hz; simp at hz; exact .inr hz)) (by rw [List.length_append, ← HLL.out]; simp; omega)).mono ?_
      rintro e w11 ⟨v11, rfl, hown11, k11⟩
      have H11 := Lib.hid hown11
      have K11 := Lib.hid k11
      clear hown11 k11
      go_wp2_with fail
      refine (refSame (H10.out.ints.keeps K11.out) H11.out.ints).mono ?_
      rintro e w12 ⟨rfl, k12⟩
      have hs2 : decide (pack (bs' ++ [1]) = pack (bs' ++ [1])) = true := by simp
      rw [hs2]
      have K12 := Lib.hid (K10.out.keeps (K11.out.keeps k12))
      clear k12
      go_wp2_with fail
      have HX12 : Hid (Own .u8 5 w6.heap.size w12 (.slice a7 X c7) (pack bs')) := H7.out.keeps K12.out
      have HW12 := Lib.hid (HW4.out.keeps (K7.out.keeps K12.out))
      have HI12 := Lib.hid (HI4.out.keeps (K7.out.keeps K12.out))
      have HP12 := Lib.hid (HKP4.out.keeps (K7.out.keeps K12.out))
      have SZ : Hid (w6.heap.size ≤ w12.heap.size) := Nat.le_trans S67.out K12.out.size
      have S6 : Hid (w4.heap.size ≤ w6.heap.size ∧ w.heap.size ≤ w4.heap.size) := ⟨K6.out.size, HKP4.out.size⟩
      have HFA : Hid ((∀ j, (Value.slice a7 X c7).ownBlock = some j → j ≠ b ∧ g3 ≠ some j ∧ w.heap.size ≤ j) ∧ (∀ x n c, Value.slice ra L rc = .slice (some x) n c → 0 < n → (Value.slice a7 X c7).ownBlock ≠ some x.block)) := by
        have s6 := S6.out
        refine ⟨fun j hj => ?_, fun x n c e h0 h => ?_⟩
        · have h1 := (H7.out.lt j hj).1
          have h2 := HW4.out.lt
          refine ⟨by omega, fun h => ?_, by omega⟩
          have := h2.2 j h
          omega
        · cases e
          have h1 := (H7.out.lt _ h).1
          have h2 := HI4.out.lt (by rw [← HLL.out]; exact h0) x.block rfl
          omega
      go_loopw [12] (fun i wy => ∃ (q : Nat) (xs : List Int), q ≤ X ∧ i = .int .i64 q ∧ Own .u8 5 w6.heap.size wy (.slice a7 X c7) xs ∧ Fr (fun j => (Value.slice a7 X c7).ownBlock = some j) w12 wy) (fun i _ => X - (intOf i).toNat)
      case atStart => exact ⟨0, _, by omega, rfl, HX12.out, Fr.refl _ _⟩
      case round =>
        obtain ⟨q, xs, hq, rfl, hox, hfx⟩ := hrel
        by_cases hlt2 : q < X
        case pos =>
          have hxl : xs.length = X := hox.ints.len.1
          obtain ⟨gm, cm, hvm, _, _, hgm, hgm2⟩ := hox.formNe (by omega)
          rw [hxl] at hvm
          obtain ⟨rfl, rfl⟩ : a7 = some ⟨gm, 0, none⟩ ∧ c7 = cm := by cases hvm; exact ⟨rfl, rfl⟩
          obtain ⟨hcell, hfz⟩ := hox.at (i := q) (by omega)
          obtain ⟨y, hy⟩ : ∃ y, y = xs.getD q 0 := ⟨_, rfl⟩
          rw [← hy] at hcell
          have HOX := Lib.hid hox
          have HFX := Lib.hid hfx
          clear hox hfx hy hxl hvm
          go_wp2_with fail
          go_roundw
          all_goals go_light
          case rel =>
            exact ⟨q + 1, xs.set q 99, by omega, by go_num, HOX.out.set q (by decide), HFX.out.setAt rfl _ _⟩
          case measure => simp [intOf]; omega
        case neg =>
          have hwx := HW12.out.fr hfx (fun h => (HFA.out.1 _ h).1 rfl) (fun j hj h => (HFA.out.1 _ h).2.1 hj)
          have hix := HI12.out.fr hfx HFA.out.2
          have hpx := HP12.out.trans hfx (fun i hi h => by have := (HFA.out.1 i h).2.2; omega)
          have HWX := Lib.hid hwx
          have HIX := Lib.hid hix
          have HPX := Lib.hid hpx
          have HSY : Hid (w12.heap.size ≤ wr.heap.size) := hfx.size
          clear hox hfx hwx hix hpx
          go_wp2_with fail
          go_roundw
          all_goals go_light
          case rel => exact ⟨k + 1, by omega, by go_num, bs', g3, HIX.out, HWX.out, by rw [← HLL.out]; omega, HPX.out, fun j hj => ⟨Nat.lt_of_lt_of_le (HAP4.out j hj).1 (Nat.le_trans (Nat.le_trans S6.out.1 SZ.out) HSY.out), (HAP4.out j hj).2⟩, HGB4.out⟩
          case measure => simp [intOf]; omega
end Go.Proofs.Ytbbldbdmnaielaa
