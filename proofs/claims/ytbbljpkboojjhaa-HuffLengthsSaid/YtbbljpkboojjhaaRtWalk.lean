/- The reference's tree, walked. -/
import Derived.Test.YtbbljpkboojjhaaRtTree
namespace Go.Proofs.Ytbbljpkboojjhaa
open Go.RowKit

set_option maxRecDepth 100000 in
set_option maxHeartbeats 8000000 in
theorem refTree {v : Value} {cs : List Int} {w : World} (h : Ints .i64 w v cs) (hcs : CsOk cs) (hpos : 0 < cs.length) :
    Calls Try.prog 22 #[v] w fun e w' => ∃ (x : Value) (y : Int), e = .returned (.tuple #[x, .int .i64 y]) ∧ (y ≤ 11 ↔ maxS (treeS cs) ≤ 11) ∧ Own .i64 3 w.heap.size w' x (treeS cs) ∧ Keeps w w' := by
  have HV := Lib.hid h
  obtain ⟨_, a, cap, rfl, hcap, hmax, _, hc⟩ := h
  have HC := Lib.hid hc
  obtain ⟨N, hN⟩ : ∃ N, N = cs.length := ⟨_, rfl⟩
  have hb := hcs.bound
  have hl := hcs.len
  have HLO := Lib.hid (fun (k : Nat) (hk : k ≤ N) => leafS_ok hb k (by rw [← hN]; exact hk))
  have HTL : Hid ((treeS cs).length = N) := by show _ = _; rw [treeS_length, hN]
  have HCS := Lib.hid hcs
  rw [← hN] at hcap HC HV HLO hl hpos ⊢
  have HN := Lib.hid hN
  have HB := Lib.hid hb
  unfold maxLen at hmax
  have hmk := run_make_row' (P := Try.prog) 22 3 (.int .i64 0) 8 Try.underlying22 infoInt rfl .i64 .i64 N (by omega) (by omega)
  have HOM : Hid (Own .i64 3 w.heap.size (w.alloc (.cells (madeCells #[.int .i64 0] N) 3)) (.slice (some ⟨w.heap.size, 0, none⟩) N N) (List.replicate N 0)) := own_made (by omega) (by decide)
  clear hc hN hb hcs
  go_enter Try.func22, Try.ntmps22
  go_wp2_with fail
  clear hmk
  obtain ⟨w0, hw0⟩ : ∃ w0, w0 = (w.alloc (.cells (madeCells #[.int .i64 0] N) 3)) := ⟨_, rfl⟩
  rw [← hw0]
  obtain ⟨ob, hob⟩ : ∃ ob, ob = w.heap.size := ⟨_, rfl⟩
  rw [← hob] at HOM ⊢
  have HG : Hid (ob = w.heap.size ∧ w0.heap.size = ob + 1) := by
    refine ⟨hob, ?_⟩
    rw [hw0]; simp; omega
  have K0 : Hid (Keeps w w0) := by show Fr _ _ _; rw [hw0]; exact ((Fr.refl _ _).alloc _)
  have HOM0 : Hid (Own .i64 3 ob w0 (.slice (some ⟨ob, 0, none⟩) N N) (List.replicate N 0)) := by show Own _ _ _ _ _ _; rw [hw0]; exact HOM.out
  have HR0 : Hid (RelR w0 ob ob (fun _ => ⟨0, none, 0, 0⟩) (.slice none 0 0) (leafS cs 0)) := ⟨OwnR.nil _ _ _, by simp [Value.ownBlock], by simp [leafS]⟩
  clear hw0 hob
  go_loopw [6, 5] (fun iv lv wr => ∃ (k : Nat) (D : Int → Th), k ≤ N ∧ iv = .int .i64 k ∧ RelR wr ob ob D lv (leafS cs k) ∧ Own .i64 3 ob wr (.slice (some ⟨ob, 0, none⟩) N N) (List.replicate N 0) ∧ Keeps w wr ∧ w0.heap.size ≤ wr.heap.size) (fun iv _ _ => N - (intOf iv).toNat)
  case atStart => exact ⟨0, _, by omega, rfl, HR0.out, HOM0.out, K0.out, Nat.le_refl _⟩
  case round =>
    obtain ⟨k, D, hk, rfl, hrel, hown, hkp, hsz⟩ := hrel
    have HR := Lib.hid hrel
    have HO := Lib.hid hown
    have HK := Lib.hid hkp
    obtain ⟨va, vc, hv⟩ := hrel.own.form
    obtain ⟨L, hL⟩ : ∃ L, L = (leafS cs k).length := ⟨_, rfl⟩
    rw [List.length_map, ← hL] at hv
    subst hv
    have hLl : Hid (L = (leafS cs k).length) := hL
    have hL256 : L ≤ 256 := by have := leafS_le cs k; omega
    clear hrel hown hkp hL
    by_cases hlt : k < N
    case pos =>
      obtain ⟨b, off, hab, ck⟩ := HC.out k hlt
      subst hab
      have ck := HK.out.cell (fun h => h) ck
      have hzb := HB.out k (by rw [← HN.out]; exact hlt)
      obtain ⟨z, hz⟩ : ∃ z, z = cs.getD k 0 := ⟨_, rfl⟩
      rw [← hz] at ck hzb
      have HZ := Lib.hid hz
      have ti1 : (0 : Int) ≤ (k : Int) := by omega
      have ti2 : (k : Int) < (N : Int) := by omega
      clear hz
      by_cases hz0 : 0 < z
      case neg =>
        have td : decide (0 < z) = false := decide_eq_false hz0
        have HLS : Hid (leafS cs (k + 1) = leafS cs k) := by show _ = _; simp only [leafS]; rw [← HZ.out, if_neg hz0]
        go_wp2_with fail
        go_roundw
        all_goals go_light
        case rel => exact ⟨k + 1, D, by omega, by go_num, by rw [HLS.out]; exact HR.out, HO.out, HK.out, hsz⟩
        case measure => simp [intOf]; omega
      case pos =>
        have td : decide (0 < z) = true := decide_eq_true hz0
        have HLS : Hid (leafS cs (k + 1) = leafS cs k ++ [⟨z, (L : Int), [(k : Int)]⟩]) := by show _ = _; simp only [leafS]; rw [← HZ.out, if_pos hz0, hLl.out]
        obtain ⟨W, hok, _, _, _⟩ := HLO.out k hk
        rw [← hLl.out] at hok
        have hkw : (Lit.int .i64 (k : Int)).wf = true := by simp [Lit.wf, IntKind.min, IntKind.max, IntKind.signed, IntKind.bits]; omega
        have HKW := Lib.hid hkw
        have HR1 := Lib.hid ((HR.out.told_new hok ⟨z, some ⟨wr.heap.size, 0, none⟩, 1, 1⟩).keeps ((Fr.refl _ _).alloc (.cells #[.int .i64 (k : Int)] 3)))
        clear hok hkw
        go_wp2_with (at_builtin; go_loud (refine wpList_rthing (w := wr.alloc (.cells #[.int .i64 (k : Int)] 3)) (D := updT D (L : Int) ⟨z, some ⟨wr.heap.size, 0, none⟩, 1, 1⟩) (n := (L : Int)) rfl (.tmp 30) (.tmp 40) rfl elemR (.slice va L vc) rfl (by show Value.slice _ _ _ = Value.slice _ _ _; simp) HR1.out.own (by simp [cellsT, updT]) (by rw [List.length_map, ← hLl.out]; omega) (by have := HG.out; simp; omega) ?_); intro v5 w5 hown5 hfr5 hat5; obtain ⟨a5, c5, hv5⟩ := hown5.form; obtain ⟨n5, hn5⟩ : ∃ n5, n5 = ((leafS cs k).map (fun t => t.nr) ++ [(L : Int)]).length := ⟨_, rfl⟩; rw [← hn5] at hv5; subst hv5; have H5 := Lib.hid hown5; have F5 := Lib.hid hfr5; have A5 := Lib.hid hat5; clear hown5 hfr5 hat5 hn5)
        go_roundw
        all_goals go_light
        case rel =>
          have hlt := HR.out.own.lt
          have hg := HG.out
          have hrel2 := HR1.out.push (t := ⟨z, (L : Int), [(k : Int)]⟩) H5.out F5.out (by
              rcases A5.out with h | h
              · exact .inl h
              · exact .inr (fun j hj => by rw [h] at hj; injection hj with hj; omega)) (by simp; omega) (by simp [updT]) (by simp only [updT, if_true]; exact ints_one HKW.out) (by
            simp only [updT, if_true]
            intro x hx
            injection hx with hx
            subst hx
            refine ⟨by show wr.heap.size ≠ ob; omega, fun h => ?_, by simp⟩
            have h2 : wr.heap.size < wr.heap.size := (hlt _ h).2
            omega)
          have F6 : Fr (fun k => (Value.slice va L vc).ownBlock = some k) wr w5 := ((Fr.refl _ wr).alloc _).trans F5.out fun _ _ h => h
          refine ⟨k + 1, _, by omega, by go_num, by rw [HLS.out]; exact hrel2, HO.out.fr F6 (fun b hb' h => ?_), HK.out.trans F6 (fun i hi h => ?_), Nat.le_trans hsz F6.size⟩
          · injection hb' with hb'
            subst hb'
            exact HR.out.nob h
          · have := (hlt _ h).1
            have := HG.out
            omega
        case measure => simp [intOf]; omega
    case neg =>
      obtain rfl : k = N := by omega
      obtain ⟨W, hok, hW0, hW1, hps⟩ := HLO.out k hk
      rw [← hLl.out] at hok
      have HOK := Lib.hid hok
      have HW : Hid (0 ≤ W ∧ W ≤ 4294967296 * (k : Int)) := ⟨hW0, hW1⟩
      have HPS := Lib.hid hps
      clear hok hW0 hW1 hps
      by_cases hL1 : L = 1
      case pos =>
        subst hL1
        obtain ⟨t0, ht0⟩ : ∃ t0, t0 = (leafS cs k).getD 0 tk0 := ⟨_, rfl⟩
        have hl1 : (leafS cs k).length = 1 := hLl.out.symm
        have hmem : t0 ∈ leafS cs k := by rw [ht0]; exact getD_tk (by omega)
        have hn0 : ((leafS cs k).map fun t => t.nr).getD 0 0 = t0.nr := by rw [nr_getD _ (by omega), ht0]
        obtain ⟨g, c, hv, _, c0, c1, c2, f, hc1⟩ := HR.out.own.at (i := 0) (by rw [List.length_map]; omega)
        rw [List.length_map, hl1] at hv
        cases hv
        rw [hn0] at c2
        have hk2 := HPS.out t0 hmem
        have hpb := (HOK.out.ps t0 hmem).2
        obtain ⟨_, hti, _⟩ := HR.out.told t0 hmem
        obtain ⟨_, a', cap', hv', _, _, _, hcell⟩ := hti
        rw [hk2.1] at hv' hcell
        obtain ⟨g', o', ha', cp⟩ := hcell 0 (by omega)
        injection hv' with e1 e2 e3
        rw [e1, ha', e2, e3] at c2
        obtain ⟨p, hp⟩ : ∃ p : Nat, t0.ps.getD 0 0 = (p : Int) := ⟨(t0.ps.getD 0 0).toNat, by have := hpb _ (getD_in (l := t0.ps) (i := 0) (by omega)); omega⟩
        rw [hp] at cp hk2
        have hpk : p < k := by omega
        obtain ⟨co, fo⟩ := HO.out.at (i := p) (by simp; exact hpk)
        have HTS : Hid (treeS cs = (List.replicate k 0).set p 1) := by
          show _ = _
          unfold treeS
          simp only [← HN.out]
          rw [if_pos hl1, ← ht0, hp]
          rfl
        have HSET := Lib.hid (HO.out.set p (y := 1) (by decide))
        have HM : Hid (maxS (treeS cs) ≤ 11) := by
          show _ ≤ _
          rw [gre_bound (by rw [HTL.out]; exact hpos), HTS.out]
          intro i _
          by_cases e : i = p
          · subst e
            rw [List.getD_eq_getElem?_getD, List.getElem?_set_self (by rw [List.length_replicate]; exact hpk)]
            decide
          · rw [List.getD_eq_getElem?_getD, List.getElem?_set_ne (fun h => e h.symm), List.getElem?_replicate]
            split <;> decide
        have tp1 : (0 : Int) ≤ (p : Int) := by omega
        have tp2 : (p : Int) < (k : Int) := by omega
        simp only [Nat.zero_mul, Nat.zero_add, Nat.add_zero] at c2 cp
        clear e1 e2 e3 ha' hcell hpb hk2 hn0 hmem ht0 hl1 hp hc1 c0 c1 f
        go_wp2_with fail
        go_ret2
        go_light
        refine ⟨_, 1, rfl, ⟨fun _ => HM.out, fun _ => by decide⟩, by rw [HTS.out, ← HG.out.1]; exact HSET.out, ((HK.out.trans ((Fr.refl (fun i => i = ob) wr).setAt rfl p _)) (fun i hi h => ?_))⟩
        have := HG.out
        omega
      case neg =>
        have HTS : Hid (treeS cs = treeN L (leafS cs k) (List.replicate k 0) (L : Int)) := by
          have := treeS_of (cs := cs) (L := L) (by rw [← HN.out]; exact hLl.out) hL1
          rw [← HN.out] at this
          exact this
        have tL1 : ((L : Int) == 1) = false := by simp; omega
        have HLI : Hid ((leafS cs k).length = L) := hLl.out.symm
        go_wp2_with fail
        go_loopg [5, 7] L (fun m lv nv wx => ∃ (nx : Int) (D : Int → Th) (l : List Tk) (o : List Int), m = l.length ∧ nv = .int .i64 nx ∧ RelR wx ob ob D lv l ∧ Own .i64 3 ob wx (.slice (some ⟨ob, 0, none⟩) k k) o ∧ TkOk l nx k L W ∧ nx + (m : Int) = 2 * (L : Int) ∧ (L : Int) ≤ nx ∧ (∀ z ∈ o, 0 ≤ z ∧ z ≤ (nx - (L : Int)) * 256) ∧ o.length = k ∧ treeS cs = treeN m l o nx ∧ Keeps w wx ∧ w0.heap.size ≤ wx.heap.size)
        case atStart => exact ⟨_, _, leafS cs k, List.replicate k 0, HLI.out.symm, rfl, HR.out, HO.out, HOK.out, by omega, by omega, fun z hz => by rw [List.eq_of_mem_replicate hz]; omega, by simp, HTS.out, HK.out, hsz⟩
        case round =>
          obtain ⟨nx, D, l, o, hm, rfl, hq, ho, hok, hnx, hnL, hob, hol, htn, hkp, hsz1⟩ := hrel
          obtain ⟨va, vc, hv⟩ := hq.own.form
          rw [List.length_map, ← hm] at hv
          subst hv
          have HQ := Lib.hid hq
          have HO := Lib.hid ho
          have HOK := Lib.hid hok
          have HOB := Lib.hid hob
          have HOL := Lib.hid hol
          have HTN := Lib.hid htn
          have HK := Lib.hid hkp
          have HM := Lib.hid hm
          clear hq ho hok hob hol htn hkp hm
          by_cases hg1 : 1 < gk
          case neg =>
            have HTO : Hid (treeS cs = o) := by
              show _ = _
              rw [HTN.out]
              match gk, hg1, HM.out with
              | 0, _, _ => rfl
              | 1, _, e => simp only [treeN]; rw [if_pos (by omega)]
              | n + 2, h, _ => omega
            have hbo : ∀ i, i < k → 0 ≤ o.getD i 0 ∧ o.getD i 0 ≤ 1000000 := fun i hi => by
              have := HOB.out _ (getD_in (l := o) (i := i) (by rw [HOL.out]; exact hi))
              omega
            have HBO := Lib.hid hbo
            have HMX : Hid (mxK o k ≤ 11 ↔ maxS (treeS cs) ≤ 11) := by
              show _ ↔ _
              rw [HTO.out, ← HOL.out]
              exact mxK_max (by rw [HOL.out]; exact hpos)
            clear hbo
            go_wp2_with fail
            go_loopw [15, 14] (fun iv mv wx => ∃ j : Nat, j ≤ k ∧ iv = .int .i64 j ∧ mv = .int .i64 (mxK o j) ∧ wx = wr) (fun iv _ _ => k - (intOf iv).toNat)
            case atStart => exact ⟨0, by omega, rfl, rfl, rfl⟩
            case round =>
              obtain ⟨j, hj, rfl, rfl, hww⟩ := hrel
              rw [hww]
              clear hww
              have HSN : Hid (mxK o (j + 1) = if mxK o j < o.getD j 0 then o.getD j 0 else mxK o j) := rfl
              obtain ⟨m, hme⟩ : ∃ m, m = mxK o j := ⟨_, rfl⟩
              rw [← hme] at HSN ⊢
              have HME := Lib.hid hme
              clear hme
              by_cases hlt2 : j < k
              case pos =>
                obtain ⟨cj, _⟩ := HO.out.at (i := j) (by rw [HOL.out]; exact hlt2)
                obtain ⟨z, hz⟩ : ∃ z, z = o.getD j 0 := ⟨_, rfl⟩
                rw [← hz] at cj HSN
                have tj : (j : Int) < (k : Int) := by omega
                clear hz
                by_cases hmz : m < z
                · rw [if_pos hmz] at HSN
                  have td : decide (m < z) = true := decide_eq_true hmz
                  go_wp2_with fail
                  go_roundw
                  all_goals go_light
                  case rel => exact ⟨j + 1, by omega, by go_num, by rw [HSN.out], trivial⟩
                  case measure => simp [intOf]; omega
                · rw [if_neg hmz] at HSN
                  have td : decide (m < z) = false := decide_eq_false hmz
                  go_wp2_with fail
                  go_roundw
                  all_goals go_light
                  case rel => exact ⟨j + 1, by omega, by go_num, by rw [HSN.out], trivial⟩
                  case measure => simp [intOf]; omega
              case neg =>
                obtain rfl : j = k := by omega
                rw [← HME.out] at HMX
                go_wp2_with fail
                go_ret2
                go_light
                exact ⟨_, m, rfl, HMX.out, by rw [HTO.out, ← HG.out.1]; exact HO.out, HK.out⟩
          case pos =>
            obtain ⟨M, rfl⟩ : ∃ M, gk = M + 2 := ⟨gk - 2, by omega⟩
            have hob1 : ob < wr.heap.size := by have := HG.out; omega
            obtain ⟨ta, hta⟩ : ∃ t, t = l.getD (leastT l) tk0 := ⟨_, rfl⟩
            obtain ⟨l1, hl1⟩ : ∃ t, t = l.eraseIdx (leastT l) := ⟨_, rfl⟩
            obtain ⟨tb, htb⟩ : ∃ t, t = l1.getD (leastT l1) tk0 := ⟨_, rfl⟩
            obtain ⟨l2, hl2⟩ : ∃ t, t = l1.eraseIdx (leastT l1) := ⟨_, rfl⟩
            have hm2 : l.length = M + 2 := HM.out.symm
            have e0 : 0 < l.length := by omega
            have e1 := leastT_lt e0
            have hm1 : l1.length = M + 1 := by rw [hl1, List.length_eraseIdx, if_pos e1]; omega
            have e2 := leastT_lt (l := l1) (by omega)
            have hm0 : l2.length = M := by rw [hl2, List.length_eraseIdx, if_pos e2]; omega
            have hok1 := HOK.out.erase e1
            rw [← hl1] at hok1
            have hok2 := hok1.erase e2
            rw [← hl2] at hok2
            have hal : ta ∈ l := by rw [hta]; exact getD_tk e1
            have hbl1 : tb ∈ l1 := by rw [htb]; exact getD_tk e2
            have hbl : tb ∈ l := List.mem_of_mem_eraseIdx (by rw [hl1] at hbl1; exact hbl1)
            have hst := HOK.out.step (by omega) (by omega : 2 ≤ l.length)
            have HST : Hid (stepT l nx = (l2 ++ [⟨ta.wt + tb.wt, nx, ta.ps ++ tb.ps⟩], ta.ps ++ tb.ps)) := by
              show _ = _
              rw [hl2, htb, hl1, hta]; rfl
            rw [HST.out] at hst
            obtain ⟨i, hi⟩ : ∃ i, i = leastT l := ⟨_, rfl⟩
            obtain ⟨j, hj⟩ : ∃ j, j = leastT l1 := ⟨_, rfl⟩
            rw [← hi] at e1 hta hl1
            rw [← hj] at e2 htb hl2
            obtain ⟨xa, hxa⟩ : ∃ x, x = (D ta.nr).a := ⟨_, rfl⟩
            obtain ⟨na, hna⟩ : ∃ x, x = (D ta.nr).l := ⟨_, rfl⟩
            obtain ⟨ca, hca⟩ : ∃ x, x = (D ta.nr).c := ⟨_, rfl⟩
            obtain ⟨xb, hxb⟩ : ∃ x, x = (D tb.nr).a := ⟨_, rfl⟩
            obtain ⟨nb, hnb⟩ : ∃ x, x = (D tb.nr).l := ⟨_, rfl⟩
            obtain ⟨cb, hcb⟩ : ∃ x, x = (D tb.nr).c := ⟨_, rfl⟩
            obtain ⟨wa, hwa⟩ : ∃ x, x = ta.wt := ⟨_, rfl⟩
            obtain ⟨wb, hwb⟩ : ∃ x, x = tb.wt := ⟨_, rfl⟩
            obtain ⟨ra, hra⟩ : ∃ x, x = ta.nr := ⟨_, rfl⟩
            obtain ⟨rb, hrb⟩ : ∃ x, x = tb.nr := ⟨_, rfl⟩
            have HLE : Hid (Calls Try.prog 36 #[.slice va (M + 2) vc] wr fun e w' => e = .returned (.int .i64 i) ∧ Keeps wr w') := by
              rw [hi]
              exact refLeast HQ.out.own e0 (by omega) (fun t ht => (HQ.out.told t ht).1) (fun t ht => by have := HOK.out.nr t ht; omega)
            have HLE2 : Hid (∀ w2 v2 B, OwnR D B w2 v2 (l1.map fun t => t.nr) → Calls Try.prog 36 #[v2] w2 fun e w' => e = .returned (.int .i64 j) ∧ Keeps w2 w') := fun w2 v2 B ho => by
              rw [hj]
              exact refLeast ho (by omega) (by omega) (fun t ht => (HQ.out.told t (List.mem_of_mem_eraseIdx (by rw [hl1] at ht; exact ht))).1) (fun t ht => by have := hok1.nr t ht; omega)
            have hwta := (HQ.out.told ta hal).1
            have hwtb := (HQ.out.told tb hbl).1
            have HIA : Hid (Ints .i64 wr (.slice xa na ca) ta.ps) := by
              have := (HQ.out.told ta hal).2.1
              rw [← hxa, ← hna, ← hca] at this; exact this
            have HIB : Hid (Ints .i64 wr (.slice xb nb cb) tb.ps) := by
              have := (HQ.out.told tb hbl).2.1
              rw [← hxb, ← hnb, ← hcb] at this; exact this
            have HPR : Hid (∀ p ∈ ta.ps ++ tb.ps, 0 ≤ p ∧ p < (k : Int)) := hst.2.1
            have HOS : Hid (TkOk (l2 ++ [⟨wa + wb, nx, ta.ps ++ tb.ps⟩]) (nx + 1) k L W) := by rw [hwa, hwb]; exact hst.1
            have HPL : Hid (0 < ta.ps.length ∧ ta.ps.length ≤ L ∧ tb.ps.length ≤ L ∧ (ta.ps ++ tb.ps).length ≤ L) := by
              have h1 := (HOK.out.ps ta hal).1
              have h2 : (ta.ps ++ tb.ps).length ≤ L := hst.2.2
              rw [List.length_append] at h2
              refine ⟨h1, by omega, by omega, by rw [List.length_append]; omega⟩
            have HWT : Hid (0 < wa ∧ 0 < wb ∧ wa + wb ≤ 1099511627776) := by
              have h1 := HOK.out.wt ta hal
              have h2 := HOK.out.wt tb hbl
              have h3 := HOS.out.weight
              have h4 := TkOk.sum_nonneg (l := l2) (fun t ht => HOS.out.wt t (by simp [ht]))
              simp only [List.map_append, List.sum_append, List.map_cons, List.map_nil, List.sum_cons, List.sum_nil] at h3
              have h5 := HW.out
              refine ⟨by omega, by omega, by omega⟩
            have HOK2 := Lib.hid hok2
            rw [← hwa, ← hwb] at HST
            obtain ⟨ga, c', hv, _, c0, c1, c2, _⟩ := HQ.out.own.at (i := i) (by rw [List.length_map]; omega)
            rw [nr_getD l (by omega), ← hta] at c0 c1 c2
            rw [hwta, ← hwa] at c0
            rw [← hra] at c1
            rw [← hxa, ← hna, ← hca] at c2
            rw [List.length_map, hm2] at hv
            injection hv with hv1 _ hv3
            subst hv1
            subst hv3
            have HER : Hid ((l.map fun t => t.nr).eraseIdx i = l1.map fun t => t.nr) := by show _ = _; rw [map_erase, ← hl1]
            have HER2 : Hid ((l1.map fun t => t.nr).eraseIdx j = l2.map fun t => t.nr) := by show _ = _; rw [map_erase, ← hl2]
            have HIJ : Hid (i < l.length ∧ j < l1.length ∧ l.length = M + 2 ∧ l1.length = M + 1 ∧ l2.length = M) := ⟨e1, e2, hm2, hm1, hm0⟩
            have HL1E : Hid (l1 = l.eraseIdx i ∧ l2 = l1.eraseIdx j) := ⟨hl1, hl2⟩
            have HCB : Hid (∀ (w2 : World) (v2 : Value), OwnR D 0 w2 v2 (l1.map fun t => t.nr) → ∃ g c, v2 = .slice (some ⟨g, 0, none⟩) (M + 1) c ∧ w2.cell? ⟨g, j * 3, none⟩ = some (.int .i64 wb) ∧ w2.cell? ⟨g, j * 3 + 1, none⟩ = some (.int .i64 rb) ∧ w2.cell? ⟨g, j * 3 + 2, none⟩ = some (.slice xb nb cb)) := fun w2 v2 ho => by
              obtain ⟨g, c, hv, _, d0, d1, d2, _⟩ := ho.at (i := j) (by rw [List.length_map]; omega)
              rw [nr_getD l1 (by omega), ← htb] at d0 d1 d2
              rw [hwtb, ← hwb] at d0
              rw [← hrb] at d1
              rw [← hxb, ← hnb, ← hcb] at d2
              rw [List.length_map, hm1] at hv
              exact ⟨g, c, hv, d0, d1, d2⟩
            have hiM : i < M + 2 := by omega
            have hjM : j < M + 1 := by omega
            clear hal hbl1 hbl hst hi hj hta htb hl1 hl2 hxa hna hca hxb hnb hcb hwa hwb hra hrb hwta hwtb hok1 hok2 e0 e1 e2 hm2 hm1 hm0
            have tg1 : (1 : Int) < ((M + 2 : Nat) : Int) := by omega
            have tg2 : (i : Int) < ((M + 2 : Nat) : Int) := by omega
            have tg3 : (j : Int) < ((M + 1 : Nat) : Int) := by omega
            go_wp2_with fail
            refine HLE.out.mono ?_
            rintro e1 w1 ⟨rfl, k1⟩
            have K1 := Lib.hid k1
            have c0 := k1.cell (fun h => h) c0
            have c1 := k1.cell (fun h => h) c1
            have c2 := k1.cell (fun h => h) c2
            clear k1
            go_wp2_with fail
            have k1a : Keeps wr (w1.alloc (.cells #[.int .i64 wa, .int .i64 ra, .slice xa na ca] 71)) := Fr.alloc K1.out _
            refine (refWithout (HQ.out.own.keeps k1a) (i := i) (by rw [List.length_map]; exact HIJ.out.1) (by rw [List.length_map]; have := HIJ.out; omega)).mono ?_
            rw [HER.out]
            rintro e2 w2 ⟨v2, rfl, o2, k2⟩
            obtain ⟨g9, hg9⟩ : ∃ g, g = w1.heap.size := ⟨_, rfl⟩
            rw [← hg9]
            have k12 : Keeps wr w2 := k1a.trans k2 (fun _ _ h => h)
            have r2 : RelR w2 ob ob D v2 l1 := by
              rw [HL1E.out.1]
              refine (HQ.out.keeps k1a).without (by rw [HER.out]; exact o2) k2 (by have := k1a.size; omega) (by have := k1a.size; omega)
            have c90 : w2.cell? ⟨g9, 0, none⟩ = some (.int .i64 wa) := k2.cell (fun h => h) (by rw [hg9]; simp)
            have c92 : w2.cell? ⟨g9, 2, none⟩ = some (.slice xa na ca) := k2.cell (fun h => h) (by rw [hg9]; simp)
            have hg9s : wr.heap.size ≤ g9 := by rw [hg9]; exact K1.out.size
            have HG9 : Hid (wr.heap.size ≤ g9) := hg9s
            have HLE2' := Lib.hid (HLE2.out w2 v2 _ o2)
            obtain ⟨gb, cb2, hv2, d0, d1, d2⟩ := HCB.out w2 v2 (o2.mono (Nat.zero_le _))
            subst hv2
            have HR2 := Lib.hid r2
            have HO2 := Lib.hid o2
            have K2 := Lib.hid k12
            clear k2 k12 k1a hg9 o2 r2 c0 c1 c2 hg9s
            go_wp2_with fail
            refine HLE2'.out.mono ?_
            rintro e3 w3 ⟨rfl, k3⟩
            have K3 := Lib.hid k3
            have d0 := k3.cell (fun h => h) d0
            have d1 := k3.cell (fun h => h) d1
            have d2 := k3.cell (fun h => h) d2
            have c90 := k3.cell (fun h => h) c90
            have c92 := k3.cell (fun h => h) c92
            clear k3
            go_wp2_with fail
            have k3a : Keeps w2 (w3.alloc (.cells #[.int .i64 wb, .int .i64 rb, .slice xb nb cb] 71)) := Fr.alloc K3.out _
            refine (refWithout (HO2.out.keeps k3a) (i := j) (by rw [List.length_map]; exact HIJ.out.2.1) (by rw [List.length_map]; have := HIJ.out; omega)).mono ?_
            rw [HER2.out]
            rintro e4 w4 ⟨v4, rfl, o4, k4⟩
            obtain ⟨g11, hg11⟩ : ∃ g, g = w3.heap.size := ⟨_, rfl⟩
            rw [← hg11]
            have k24 : Keeps w2 w4 := k3a.trans k4 (fun _ _ h => h)
            have hs2 : ob < w2.heap.size := by have := K2.out.size; omega
            have r4 : RelR w4 ob ob D v4 l2 := by
              rw [HL1E.out.2]
              refine (HR2.out.keeps k3a).without (by rw [HER2.out]; exact o4) k4 (by have := k3a.size; omega) (by have := k3a.size; omega)
            have x10 : w4.cell? ⟨g11, 0, none⟩ = some (.int .i64 wb) := k4.cell (fun h => h) (by rw [hg11]; simp)
            have x12 : w4.cell? ⟨g11, 2, none⟩ = some (.slice xb nb cb) := k4.cell (fun h => h) (by rw [hg11]; simp)
            have hg11s : w2.heap.size ≤ g11 := by rw [hg11]; exact K3.out.size
            have kk34 : Keeps w3 w4 := ((Fr.refl (fun _ => False) w3).alloc _).trans k4 (fun _ _ h => h)
            have c90 := kk34.cell (fun h => h) c90
            have c92 := kk34.cell (fun h => h) c92
            obtain ⟨v4a, v4c, hv4⟩ := o4.form
            rw [List.length_map, HIJ.out.2.2.2.2] at hv4
            subst hv4
            have HR4 := Lib.hid r4
            have KR4 : Hid (Keeps wr w4) := K2.out.trans k24 (fun _ _ h => h)
            have HIA4 := Lib.hid (HIA.out.keeps KR4.out)
            have HIB4 := Lib.hid (HIB.out.keeps KR4.out)
            have HG11 : Hid (wr.heap.size ≤ g11 ∧ g9 < w4.heap.size ∧ g11 < w4.heap.size) := ⟨by have := K2.out.size; omega, World.block_lt_of_cell? _ _ c90, World.block_lt_of_cell? _ _ x10⟩
            have hpl := HPL.out
            have HC9 := Lib.hid c90
            have HX1 := Lib.hid x10
            clear k4 k24 k3a hg11 o4 r4 d0 d1 d2 hg11s kk34 hs2
            go_wp2_with (first
              | (at_builtin; go_loud (refine wpList_ints rfl (.tmp 77) (.tmp 79) rfl elemI (.slice none 0 0) rfl rfl (Own.nil .i64 3 w4.heap.size _) HIA4.out (by rw [List.length_nil]; omega) (Nat.le_refl _) ?_); intro v5 w5 hown5 hfr5 hat5; rw [List.nil_append] at hown5; obtain ⟨a5, c5, hv5⟩ := hown5.form; obtain ⟨n5, hn5⟩ : ∃ n5, n5 = ta.ps.length := ⟨_, rfl⟩; rw [← hn5] at hv5; subst hv5; have kk5 := own_nil_keeps hfr5; have H5 := Lib.hid hown5; have K5 := Lib.hid kk5; have c90 := kk5.cell (fun h => h) c90; have x10 := kk5.cell (fun h => h) x10; have x12 := kk5.cell (fun h => h) x12; clear hown5 hfr5 hat5 hn5 kk5)
              | (at_builtin; go_loud (refine wpList_ints rfl (.tmp 81) (.tmp 83) rfl elemI (.slice a5 n5 c5) rfl rfl H5.out (HIB4.out.keeps K5.out) (by omega) K5.out.size ?_); intro v6 w6 hown6 hfr6 hat6; obtain ⟨g3, c3, hv6, _, _, hg3, hg3'⟩ := hown6.formNe (by rw [List.length_append]; omega); obtain ⟨pl, hpl6⟩ : ∃ n, n = (ta.ps ++ tb.ps).length := ⟨_, rfl⟩; rw [← hpl6] at hv6; subst hv6; have kk6 := K5.out.own H5.out (Nat.le_refl _) hfr6; have H6 := Lib.hid hown6; have K6 := Lib.hid kk6; have HPL6 := Lib.hid hpl6; clear hown6 hfr6 hat6 hpl6))
            obtain ⟨ps, hps⟩ : ∃ ps, ps = ta.ps ++ tb.ps := ⟨_, rfl⟩
            rw [← hps] at H6 HPR HPL HOS HST HPL6
            have c90 := K6.out.cell (fun h => h) HC9.out
            have x10 := K6.out.cell (fun h => h) HX1.out
            have HR6 := Lib.hid (HR4.out.keeps K6.out)
            have HO6 : Hid (Own .i64 3 ob w6 (.slice (some ⟨ob, 0, none⟩) k k) o) := HO.out.keeps (KR4.out.trans K6.out (fun _ _ h => h))
            have HK6 : Hid (Keeps w w6) := (HK.out.trans KR4.out (fun _ _ h => h)).trans K6.out (fun _ _ h => h)
            have HPL2 : Hid (pl ≤ L) := by show pl ≤ L; have := HPL.out; have := HPL6.out; omega
            have hw4 : wr.heap.size ≤ w4.heap.size := KR4.out.size
            have hw6 : w4.heap.size ≤ w6.heap.size := K6.out.size
            have hg3b : w4.heap.size ≤ g3 := by have := hg3; omega
            have hg3o : ¬ g3 = ob := by omega
            have h9o : ¬ g9 = ob := by have := HG9.out; omega
            have h11o : ¬ g11 = ob := by have := HG11.out; omega
            have HG3 : Hid (w4.heap.size ≤ g3 ∧ g3 < w6.heap.size) := ⟨hg3b, hg3'⟩
            have HLW : Hid (ob < wr.heap.size ∧ wr.heap.size ≤ w4.heap.size ∧ w4.heap.size ≤ w6.heap.size ∧ w0.heap.size ≤ wr.heap.size) := ⟨hob1, hw4, hw6, hsz1⟩
            have HPSE := Lib.hid hps
            clear hps hg3 hg3' hpl x12 c92 hw4 hw6
            have hplb : pl ≤ L := HPL2.out
            go_loopw [13] (fun iv wx => ∃ (q : Nat) (o' : List Int), q ≤ pl ∧ iv = .int .i64 q ∧ Own .i64 3 ob wx (.slice (some ⟨ob, 0, none⟩) k k) o' ∧ o' = bumpS o (ps.take q) ∧ Fr (fun i => i = ob) w6 wx) (fun iv _ => pl - (intOf iv).toNat)
            case atStart => exact ⟨0, o, by omega, rfl, HO6.out, by simp [bumpS], Fr.refl _ _⟩
            case round =>
              obtain ⟨q, o', hq, rfl, ho', hbo, hfx⟩ := hrel
              have HOx := Lib.hid ho'
              have HBO := Lib.hid hbo
              have HFX := Lib.hid hfx
              have hol' : o'.length = k := by rw [hbo, bumpS_length]; exact HOL.out
              by_cases hlt : q < pl
              case pos =>
                obtain ⟨cj, _⟩ := H6.out.at (i := q) (by rw [← HPL6.out]; exact hlt)
                have cj := hfx.cell (p := ⟨g3, q, none⟩) hg3o cj
                have hmem := getD_in (l := ps) (i := q) (by rw [← HPL6.out]; exact hlt)
                have hr := HPR.out _ hmem
                obtain ⟨p, hp⟩ : ∃ p : Nat, ps.getD q 0 = (p : Int) := ⟨(ps.getD q 0).toNat, by omega⟩
                rw [hp] at cj hr
                have hpk : p < k := by omega
                obtain ⟨co, fo⟩ := ho'.at (i := p) (by omega)
                have hbd := bumpS_bound (ps.take q) o ((nx - (L : Int)) * 256) HOB.out (by omega) (o'.getD p 0) (by rw [← hbo]; exact getD_in (by omega))
                obtain ⟨z, hz⟩ : ∃ z, z = o'.getD p 0 := ⟨_, rfl⟩
                rw [← hz] at co hbd
                have hzb : 0 ≤ z ∧ z ≤ 1000000 := by
                  have h1 := HPL2.out
                  simp only [List.length_take] at hbd
                  omega
                have HSET := Lib.hid (ho'.set p (y := z + 1) (by simp [Lit.wf, IntKind.min, IntKind.max, IntKind.signed, IntKind.bits]; omega))
                have HNX : Hid (o'.set p (z + 1) = bumpS o (ps.take (q + 1))) := by
                  show _ = _
                  rw [bumpS_take (by rw [← HPL6.out]; exact hlt), ← hbo, hp, hz]; rfl
                have ti1 : (q : Int) < (pl : Int) := by omega
                have ti2 : (p : Int) < (k : Int) := by omega
                clear ho' hbo hfx hmem hr hp hbd hz
                go_wp2_with fail
                go_roundw
                all_goals go_light
                case rel => exact ⟨q + 1, _, by omega, by go_num, HSET.out, HNX.out, HFX.out.setAt rfl p _⟩
                case measure => simp [intOf]; omega
              case neg =>
                obtain rfl : q = pl := by omega
                have HBO2 : Hid (o' = bumpS o ps) := by
                  show _ = _
                  rw [hbo, HPL6.out, List.take_length]
                have c90 := hfx.cell (p := ⟨g9, 0, none⟩) h9o c90
                have x10 := hfx.cell (p := ⟨g11, 0, none⟩) h11o x10
                have hsx := hfx.size
                have hwt := HWT.out
                have HRx : Hid (RelR wr ob ob D (.slice v4a M v4c) l2) := HR6.out.fr hfx (fun b h e => HR6.out.nob (by rw [e] at h; exact h)) (fun b e => .inl e)
                have HIx := Lib.hid (H6.out.ints.fr hfx (fun x n c e _ => by injection e with e1; injection e1 with e1; subst e1; exact hg3o))
                have HKx : Hid (Keeps w wr) := HK6.out.trans hfx (fun i hi h => by have h : i = ob := h; have := HG.out; omega)
                have HRN := Lib.hid (HRx.out.told_new HOK2.out ⟨wa + wb, some ⟨g3, 0, none⟩, q, c3⟩)
                have hobx : ob ≤ wr.heap.size := by have := HLW.out; omega
                have HMM : Hid ((l2.map fun t => t.nr).length = M) := by show _ = _; rw [List.length_map]; exact HIJ.out.2.2.2.2
                clear ho' hbo hfx
                go_wp2_with (at_builtin; go_loud (refine wpList_rthing (w := wr) (D := updT D nx ⟨wa + wb, some ⟨g3, 0, none⟩, q, c3⟩) (n := nx) rfl (.tmp 100) (.tmp 109) rfl elemR (.slice v4a M v4c) rfl (by show Value.slice _ _ _ = Value.slice _ _ _; simp) HRN.out.own (by simp [cellsT, updT]) (by rw [HMM.out]; omega) hobx ?_); intro v7 w7 hown7 hfr7 hat7; obtain ⟨a7, c7, hv7⟩ := hown7.form; rw [List.length_append, HMM.out, List.length_singleton] at hv7; subst hv7; have H7 := Lib.hid hown7; have F7 := Lib.hid hfr7; have A7 := Lib.hid hat7; clear hown7 hfr7 hat7)
                go_roundg (M + 1)
                case measure => omega
                case rel =>
                  have hlw := HLW.out
                  have hg3x := HG3.out
                  have hlt7 := HRx.out.own.lt
                  have hlen : (bumpS o ps).length = k := by rw [bumpS_length]; exact HOL.out
                  have h4lt := HR4.out.own.lt
                  have hrel2 := HRN.out.push (t := ⟨wa + wb, nx, ps⟩) H7.out F7.out (by
                      rcases A7.out with h | h
                      · exact .inl h
                      · exact .inr (fun j hj => by rw [h] at hj; injection hj with hj; omega)) (by omega) (by simp [updT]) (by
                        simp only [updT, if_true]
                        exact HIx.out) (by
                    simp only [updT, if_true]
                    intro x hx
                    injection hx with hx
                    subst hx
                    refine ⟨hg3o, fun h => ?_, ?_⟩
                    · have h2 := (h4lt _ h).2
                      have h2 : g3 < w4.heap.size := h2
                      omega
                    · show g3 < wr.heap.size
                      omega)
                  refine ⟨nx + 1, _, l2 ++ [⟨wa + wb, nx, ps⟩], bumpS o ps, ?_, by go_num, hrel2, ?_, HOS.out, by omega, by omega, fun z hz => ?_, hlen, ?_, HKx.out.trans F7.out (fun i hi h => by have := (hlt7 i h).1; have := HG.out; omega), ?_⟩
                  · rw [List.length_append, HIJ.out.2.2.2.2]; rfl
                  · have h1 := HOx.out.fr F7.out (fun b hb' h => by injection hb' with hb'; subst hb'; exact HRx.out.nob h)
                    rw [HBO2.out] at h1
                    exact h1
                  · have h1 := bumpS_bound ps o ((nx - (L : Int)) * 256) HOB.out (by omega) z hz
                    have h2 := HPL2.out
                    rw [← HPL6.out] at h1
                    omega
                  · rw [HTN.out]
                    simp only [treeN]
                    rw [if_neg (by have := HM.out; omega), HST.out]
                  · have h1 := F7.out.size
                    omega
end Go.Proofs.Ytbbljpkboojjhaa
