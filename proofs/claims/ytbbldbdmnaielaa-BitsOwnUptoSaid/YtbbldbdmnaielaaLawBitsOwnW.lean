/- 'BitsOwn' returns true: the walk. -/
import Derived.Test.YtbbldbdmnaielaaLives
import Derived.Test.YtbbldbdmnaielaaTakeRd
import Derived.Test.YtbbldbdmnaielaaTakeRef
import Derived.Test.YtbbldbdmnaielaaTakeBk
namespace Go.Proofs.Ytbbldbdmnaielaa
open Go.RowKit

/-- behind some takes, forward alone -/
def OwnRel (w : World) (b : Nat) (g R0 : Option Nat) (rv : Value) (wr : World) : Prop :=
  ∃ bs, Ints .i64 wr rv bs ∧ rv.ownBlock = R0 ∧ RdRow wr b g bs ∧ bs.length ≤ 9000000000000 ∧ Keeps w wr
/-- behind some takes, forward and backward -/
def OwnRel2 (w : World) (b bb : Nat) (g gb R0 Q0 : Option Nat) (rv qv : Value) (wr : World) : Prop :=
  OwnRel w b g R0 rv wr ∧ ∃ cs, Ints .i64 wr qv cs ∧ qv.ownBlock = Q0 ∧ BkRow wr bb gb cs ∧ cs.length ≤ 9000000000000

set_option maxRecDepth 100000 in
set_option maxHeartbeats 4000000 in
theorem walkBitsOwn {v u : Value} {zs ts : List Int} {w : World} (h : Ints .u8 w v zs) (hz : zs.length ≤ 1048576) (hu : Ints .i64 w u ts) (ht : ts.length ≤ 1048576) :
    Calls Try.prog 9 #[v, u] w fun e w' => e = .returned (.bool true) ∧ Keeps w w' := by
  have HU := Lib.hid hu
  have HV := Lib.hid h
  obtain ⟨ua, uc, hue⟩ := hu.form
  subst hue
  obtain ⟨T, hT⟩ : ∃ T, T = ts.length := ⟨_, rfl⟩
  rw [← hT] at ht HU ⊢
  have HT := Lib.hid hT
  clear hu hT
  go_enter Try.func9, Try.ntmps9
  go_wp2_with (at_builtin; refine wpList_ints rfl (.tmp 24) (.tmp 25) rfl elemB (.slice none 0 0) rfl rfl (Own.nil .u8 5 w.heap.size _) h (by simp; omega) (by omega) ?_; intro v1 w1 hown1 hfr1 hat1; simp only [List.nil_append] at hown1)
  have hk1 : Keeps w w1 := hfr1.mono fun i hi h => by simp [Value.ownBlock] at h
  obtain ⟨a1, c1, hv1⟩ := hown1.form
  obtain ⟨Z, hZ⟩ : ∃ Z, Z = zs.length := ⟨_, rfl⟩
  rw [← hZ] at hv1
  subst hv1
  have HZ := Lib.hid hZ
  have HO1 := Lib.hid hown1
  have HK1 := Lib.hid hk1
  have hZ64 : Z ≤ 1048576 := by omega
  clear hown1 hfr1 hat1 hk1 h hZ
  refine (newReader HO1.out.ints (by omega)).mono ?_
  rintro e w2 ⟨b, g, rfl, hb, hg, hrd, k2⟩
  have HR2 := Lib.hid (RdRow.ofRd hrd)
  have HG := Lib.hid hg
  have HK2 := Lib.hid k2
  clear hrd hg k2
  by_cases hno : zs = [] ∨ zs.getD (zs.length - 1) 0 = 0
  · have HNO := Lib.hid hno
    go_wp2_with fail
    refine (newBackNo (HO1.out.ints.keeps HK2.out) hno).mono ?_
    rintro e w3 ⟨rfl, hw3⟩
    have HK3 : Hid (Keeps w2 w3) := by rw [← hw3]; exact Fr.refl _ _
    have HO3 := Lib.hid ((HO1.out.keeps HK2.out).keeps HK3.out)
    clear hw3 hno
    go_wp2_with fail
    go_loopw [9] (fun i wr => ∃ (k : Nat) (xs : List Int), k ≤ Z ∧ i = .int .i64 k ∧ Own .u8 5 w.heap.size wr (.slice a1 Z c1) xs ∧ Fr (fun j => (Value.slice a1 Z c1).ownBlock = some j) w3 wr) (fun i _ => Z - (intOf i).toNat)
    case atStart => exact ⟨0, zs, by omega, rfl, HO3.out, Fr.refl _ _⟩
    case round =>
      obtain ⟨k, xs, hk, rfl, hox, hfx⟩ := hrel
      by_cases hlt : k < Z
      case pos =>
        have hxl : xs.length = Z := hox.ints.len.1
        obtain ⟨gm, cm, hvm, _, _, hgm, hgm2⟩ := hox.formNe (by omega)
        rw [hxl] at hvm
        obtain ⟨rfl, rfl⟩ : a1 = some ⟨gm, 0, none⟩ ∧ c1 = cm := by cases hvm; exact ⟨rfl, rfl⟩
        obtain ⟨hcell, hfz⟩ := hox.at (i := k) (by omega)
        have hby := ints_byte hox.1 (show k < xs.length by omega)
        obtain ⟨y, hy⟩ : ∃ y, y = xs.getD k 0 := ⟨_, rfl⟩
        rw [← hy] at hcell hby
        have hw8 : IntKind.u8.wrap (y + 1) = (y + 1) % 256 := IntKind.wrap_u8 _
        have HOX := Lib.hid hox
        have HFX := Lib.hid hfx
        clear hox hfx hy hxl hvm
        go_wp2_with fail
        go_roundw
        all_goals go_light
        case rel =>
          exact ⟨k + 1, xs.set k ((y + 1) % 256), by omega, by go_num, HOX.out.set k (WalkArith.wf_u8 (by omega)), HFX.out.setAt rfl _ _⟩
        case measure => simp [intOf]; omega
      case neg =>
        have hrd := HR2.out.keeps HK3.out
        have hrx := hrd.fr hfx (fun h => by have := (HO1.out.lt _ h).2; omega) (fun j hj h => by have h1 := (HO1.out.lt _ h).2; have h2 := HG.out j hj; omega)
        have HRX := Lib.hid hrx
        have hkx : Keeps w wr := (Fr.keeps (Fr.keeps HK1.out HK2.out) HK3.out).trans hfx (fun i hi h => by have := (HO1.out.lt i h).1; omega)
        have HKX := Lib.hid hkx
        have HWS : Hid (w3.heap.size ≤ wr.heap.size) := hfx.size
        clear hox hrd hrx hkx hfx
        go_wp2_with fail
        refine (refRow (HV.out.keeps HKX.out) (by omega)).mono ?_
        rintro e w4 ⟨rv, rfl, hro, k4⟩
        have hrel0 : Hid (OwnRel w b g rv.ownBlock rv w4) := ⟨rowOf zs, hro.ints, rfl, HRX.out.keeps k4, by rw [rowOf_length]; omega, HKX.out.keeps k4⟩
        have HRB : Hid (∀ k, rv.ownBlock = some k → k ≠ b) := fun k hk h => by
          have h1 := (hro.lt k hk).1
          have h2 := HRX.out.lt.1
          omega
        have hv4 := Lib.hid (HV.out.keeps (HKX.out.keeps k4))
        clear hro k4
        go_wp2_with fail
        refine (refMarkedNo hv4.out HNO.out).mono ?_
        rintro e w5 ⟨rfl, rfl⟩
        go_wp2_with fail
        go_loopw [10, 13] (fun rv' i wy => ∃ k : Nat, k ≤ T ∧ i = .int .i64 k ∧ OwnRel w b g rv.ownBlock rv' wy) (fun _ i _ => T - (intOf i).toNat)
        case atStart => exact ⟨0, by omega, rfl, hrel0.out⟩
        case round =>
          obtain ⟨k2, hk2, rfl, bs, hint, hblk, hrr, hbl, hkeep⟩ := hrel
          by_cases hlt2 : k2 < T
          case neg =>
            have HK := Lib.hid hkeep
            clear hint hrr hkeep hblk
            go_wp2_with (go_at_call 13; refine (livesBits _).mono ?_; rintro e w7 ⟨rfl, k7⟩; have K7 := Lib.hid k7; clear k7)
            go_ret
            go_light
            exact ⟨rfl, Fr.keeps HK.out K7.out⟩
          have hub := HU.out.keeps hkeep
          obtain ⟨hwf, ua', uc', hue, _, _, _, hc⟩ := hub
          obtain ⟨tb, to, hua, hcell⟩ := hc k2 (by have := HT.out; omega)
          obtain ⟨rfl, _⟩ : ua = ua' ∧ True := by cases hue; exact ⟨rfl, trivial⟩
          subst hua
          obtain ⟨t, hte⟩ : ∃ t, t = ts.getD k2 0 := ⟨_, rfl⟩
          rw [← hte] at hcell
          have HINT := Lib.hid hint
          have HRR := Lib.hid hrr
          have HBL := Lib.hid hblk
          have HK := Lib.hid hkeep
          clear hte hc hwf hue hint hrr hblk hkeep
          go_wp2_with fail
          refine (refTakeAny HINT.out HRR.out.bin hbl).mono ?_
          rintro e w6 ⟨rv6, rfl, hi6, hb6, k6⟩
          have hcell6 := k6.cell (fun h => h) hcell
          have HI6 := Lib.hid hi6
          have HB6 := Lib.hid hb6
          have HK6 := Lib.hid k6
          clear hi6 hb6 k6 hcell
          go_wp2_with fail
          refine (rdTake (HRR.out.keeps HK6.out)).mono ?_
          rintro e w7 ⟨rfl, hr7, hf7⟩
          have hne1 : ((takeS bs t).1 != (takeS bs t).1) = false := by simp
          have HR7 := Lib.hid hr7
          have HF7 := Lib.hid hf7
          clear hr7 hf7
          go_wp2_with fail
          go_roundw
          all_goals go_light
          case rel =>
            refine ⟨k2 + 1, by omega, by go_num, (takeS bs t).2.1, ?_, by rw [HB6.out]; exact HBL.out, HR7.out, by have := takeS_le bs t; omega, ?_⟩
            · exact HI6.out.frB HF7.out (fun j hj h => HRB.out j (by rw [← HBL.out, ← HB6.out]; exact hj) h)
            · exact (Fr.keeps HK.out HK6.out).trans HF7.out (fun i hi h => by have := HK2.out.size; have := HK1.out.size; omega)
          case measure => simp [intOf]; omega
  · have HNIL : Hid (zs ≠ []) := fun h => hno (.inl h)
    have HZ0 : Hid (zs.getD (zs.length - 1) 0 ≠ 0) := fun h => hno (.inr h)
    clear hno
    go_wp2_with fail
    refine (newBack (HO1.out.ints.keeps HK2.out) (by omega) HNIL.out HZ0.out).mono ?_
    rintro e w3 ⟨bb, gb, rfl, hbb, hgb, hbk, k3⟩
    have HK3 := Lib.hid k3
    have HB3 : Hid (BkRow w3 bb gb ((rowOf zs).take (markOf zs))) := ⟨zs, _, rfl, hbk⟩
    have HGB := Lib.hid hgb
    have HO3 := Lib.hid ((HO1.out.keeps HK2.out).keeps HK3.out)
    clear hgb hbk k3
    go_wp2_with fail
    go_loopw [9] (fun i wr => ∃ (k : Nat) (xs : List Int), k ≤ Z ∧ i = .int .i64 k ∧ Own .u8 5 w.heap.size wr (.slice a1 Z c1) xs ∧ Fr (fun j => (Value.slice a1 Z c1).ownBlock = some j) w3 wr) (fun i _ => Z - (intOf i).toNat)
    case atStart => exact ⟨0, zs, by omega, rfl, HO3.out, Fr.refl _ _⟩
    case round =>
      obtain ⟨k, xs, hk, rfl, hox, hfx⟩ := hrel
      by_cases hlt : k < Z
      case pos =>
        have hxl : xs.length = Z := hox.ints.len.1
        obtain ⟨gm, cm, hvm, _, _, hgm, hgm2⟩ := hox.formNe (by omega)
        rw [hxl] at hvm
        obtain ⟨rfl, rfl⟩ : a1 = some ⟨gm, 0, none⟩ ∧ c1 = cm := by cases hvm; exact ⟨rfl, rfl⟩
        obtain ⟨hcell, hfz⟩ := hox.at (i := k) (by omega)
        have hby := ints_byte hox.1 (show k < xs.length by omega)
        obtain ⟨y, hy⟩ : ∃ y, y = xs.getD k 0 := ⟨_, rfl⟩
        rw [← hy] at hcell hby
        have hw8 : IntKind.u8.wrap (y + 1) = (y + 1) % 256 := IntKind.wrap_u8 _
        have HOX := Lib.hid hox
        have HFX := Lib.hid hfx
        clear hox hfx hy hxl hvm
        go_wp2_with fail
        go_roundw
        all_goals go_light
        case rel =>
          exact ⟨k + 1, xs.set k ((y + 1) % 256), by omega, by go_num, HOX.out.set k (WalkArith.wf_u8 (by omega)), HFX.out.setAt rfl _ _⟩
        case measure => simp [intOf]; omega
      case neg =>
        have hrd := HR2.out.keeps HK3.out
        have hbx := HB3.out.fr hfx (fun h => by have h1 := (HO1.out.lt _ h).2; have h2 := HK2.out.size; omega) (fun j hj h => by have h1 := (HO1.out.lt _ h).2; have h2 := HGB.out j hj; have h3 := HK2.out.size; omega)
        have HBX := Lib.hid hbx
        have hrx := hrd.fr hfx (fun h => by have := (HO1.out.lt _ h).2; omega) (fun j hj h => by have h1 := (HO1.out.lt _ h).2; have h2 := HG.out j hj; omega)
        have HRX := Lib.hid hrx
        have hkx : Keeps w wr := (Fr.keeps (Fr.keeps HK1.out HK2.out) HK3.out).trans hfx (fun i hi h => by have := (HO1.out.lt i h).1; omega)
        have HKX := Lib.hid hkx
        have HWS : Hid (w3.heap.size ≤ wr.heap.size) := hfx.size
        clear hox hrd hrx hkx hfx hbx
        go_wp2_with fail
        refine (refRow (HV.out.keeps HKX.out) (by omega)).mono ?_
        rintro e w4 ⟨rv, rfl, hro, k4⟩
        have HRX4 := Lib.hid (HRX.out.keeps k4)
        have HBX4 := Lib.hid (HBX.out.keeps k4)
        have HRO := Lib.hid hro
        have HK4 := Lib.hid k4
        have HRB : Hid (∀ k, rv.ownBlock = some k → k ≠ b ∧ k ≠ bb) := fun k hk => by
          have h1 := (hro.lt k hk).1
          have h2 := HRX.out.lt.1
          have h3 := HBX.out.lt.1
          omega
        have hv4 := Lib.hid (HV.out.keeps (HKX.out.keeps k4))
        clear hro k4
        go_wp2_with fail
        refine (refMarked hv4.out (by omega) HNIL.out HZ0.out).mono ?_
        rintro e w5 ⟨qv, rfl, hqi, hqb, k5⟩
        have HQB : Hid (∀ k, qv.ownBlock = some k → k ≠ b ∧ k ≠ bb) := fun k hk => by
          have h1 := hqb k hk
          have h2 := HRX4.out.lt.1
          have h3 := HBX4.out.lt.1
          omega
        have hrel0 : Hid (OwnRel2 w b bb g gb rv.ownBlock qv.ownBlock rv qv w5) := ⟨⟨rowOf zs, HRO.out.ints.keeps k5, rfl, HRX4.out.keeps k5, by rw [rowOf_length]; omega, (HKX.out.keeps HK4.out).keeps k5⟩,
          (rowOf zs).take (markOf zs), hqi, rfl, HBX4.out.keeps k5, by rw [List.length_take, rowOf_length]; omega⟩
        have HNE : Hid (b ≠ bb ∧ (∀ k, g = some k → k ≠ bb) ∧ (∀ k, gb = some k → k ≠ b)) := ⟨by have := HR2.out.lt.1; omega, fun k hk => by have := HR2.out.lt.2 k hk; omega, fun k hk => by have := HGB.out k hk; have := HR2.out.lt.1; omega⟩
        clear hqi hqb k5
        go_wp2_with fail
        go_loopw [10, 11, 13] (fun rv' qv' i wy => ∃ k : Nat, k ≤ T ∧ i = .int .i64 k ∧ OwnRel2 w b bb g gb rv.ownBlock qv.ownBlock rv' qv' wy) (fun _ _ i _ => T - (intOf i).toNat)
        case atStart => exact ⟨0, by omega, rfl, hrel0.out⟩
        case round =>
          obtain ⟨k2, hk2, rfl, ⟨bs, hint, hblk, hrr, hbl, hkeep⟩, cs, hcint, hcblk, hcr, hcl⟩ := hrel
          by_cases hlt2 : k2 < T
          case neg =>
            have HK := Lib.hid hkeep
            clear hint hrr hkeep hblk hcint hcblk hcr
            go_wp2_with (go_at_call 13; refine (livesBits _).mono ?_; rintro e w7 ⟨rfl, k7⟩; have K7 := Lib.hid k7; clear k7)
            go_ret
            go_light
            exact ⟨rfl, Fr.keeps HK.out K7.out⟩
          have hub := HU.out.keeps hkeep
          obtain ⟨hwf, ua', uc', hue, _, _, _, hc⟩ := hub
          obtain ⟨tb, to, hua, hcell⟩ := hc k2 (by have := HT.out; omega)
          obtain ⟨rfl, _⟩ : ua = ua' ∧ True := by cases hue; exact ⟨rfl, trivial⟩
          subst hua
          have htb : tb ≠ b ∧ tb ≠ bb := by
            obtain ⟨_, _, _, hue0, _, _, _, hc0⟩ := HU.out
            cases hue0
            obtain ⟨_, _, e0, hcell0⟩ := hc0 k2 (by have := HT.out; omega)
            cases e0
            have h1 := World.block_lt_of_cell? w _ hcell0
            have h2 := HK1.out.size
            have h3 := HK2.out.size
            exact ⟨by simp at h1; omega, by simp at h1; omega⟩
          obtain ⟨t, hte⟩ : ∃ t, t = ts.getD k2 0 := ⟨_, rfl⟩
          rw [← hte] at hcell
          have HINT := Lib.hid hint
          have HRR := Lib.hid hrr
          have HBL := Lib.hid hblk
          have HK := Lib.hid hkeep
          have HCI := Lib.hid hcint
          have HCB := Lib.hid hcblk
          have HCR := Lib.hid hcr
          have HTB := Lib.hid htb
          clear hte hc hwf hue hint hrr hblk hkeep hcint hcblk hcr htb
          go_wp2_with fail
          refine (refTakeAny HINT.out HRR.out.bin hbl).mono ?_
          rintro e w6 ⟨rv6, rfl, hi6, hb6, k6⟩
          have hcell6 := k6.cell (fun h => h) hcell
          have HI6 := Lib.hid hi6
          have HB6 := Lib.hid hb6
          have HK6 := Lib.hid k6
          clear hi6 hb6 k6 hcell
          go_wp2_with fail
          refine (rdTake (HRR.out.keeps HK6.out)).mono ?_
          rintro e w7 ⟨rfl, hr7, hf7⟩
          have hne1 : ((takeS bs t).1 != (takeS bs t).1) = false := by simp
          have hcell7 := hf7.cell HTB.out.1 hcell6
          have HR7 := Lib.hid hr7
          have HF7 := Lib.hid hf7
          clear hr7 hf7 hcell6
          go_wp2_with fail
          refine (refBackAny ((HCI.out.keeps HK6.out).frB HF7.out (fun j hj => (HQB.out j (by rw [← HCB.out]; exact hj)).1)) HCR.out.bin hcl).mono ?_
          rintro e w8 ⟨qv8, rfl, hi8, hb8, k8⟩
          have hcell8 := k8.cell (fun h => h) hcell7
          have HI8 := Lib.hid hi8
          have HB8 := Lib.hid hb8
          have HK8 := Lib.hid k8
          clear hi8 hb8 k8 hcell7
          go_wp2_with fail
          refine (bkTake (((HCR.out.keeps HK6.out).fr HF7.out (fun h => HNE.out.1 h.symm) (fun k hk => HNE.out.2.2 k hk)).keeps HK8.out)).mono ?_
          rintro e w9 ⟨rfl, hr9, hf9⟩
          have hne2 : ((backS cs t).1 != (backS cs t).1) = false := by simp
          have HR9 := Lib.hid hr9
          have HF9 := Lib.hid hf9
          clear hr9 hf9
          go_wp2_with fail
          go_roundw
          all_goals go_light
          case rel =>
            have s1 := HK1.out.size
            have s2 := HK2.out.size
            have kk : Keeps w w9 := ((((Fr.keeps HK.out HK6.out).trans HF7.out (fun i hi h => by omega)).keeps HK8.out)).trans HF9.out (fun i hi h => by omega)
            refine ⟨k2 + 1, by omega, by go_num, ⟨(takeS bs t).2.1, ?_, by rw [HB6.out]; exact HBL.out, ?_, by have := takeS_le bs t; omega, kk⟩, (backS cs t).2.1, ?_, by rw [HB8.out]; exact HCB.out, HR9.out, by have := backS_le cs t; omega⟩
            · exact ((HI6.out.frB HF7.out (fun j hj => (HRB.out j (by rw [← HBL.out, ← HB6.out]; exact hj)).1)).keeps HK8.out).frB HF9.out (fun j hj => (HRB.out j (by rw [← HBL.out, ← HB6.out]; exact hj)).2)
            · exact (HR7.out.keeps HK8.out).fr HF9.out HNE.out.1 (fun k hk => HNE.out.2.1 k hk)
            · exact HI8.out.frB HF9.out (fun j hj => (HQB.out j (by rw [← HCB.out, ← HB8.out]; exact hj)).2)
          case measure => simp [intOf]; omega
end Go.Proofs.Ytbbldbdmnaielaa
