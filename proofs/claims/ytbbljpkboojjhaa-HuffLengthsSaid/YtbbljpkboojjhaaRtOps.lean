/- The reference's least and without. -/
import Derived.Test.YtbbljpkboojjhaaRtRow
import Derived.BigQuiet
namespace Go.Proofs.Ytbbljpkboojjhaa
open Go.RowKit

theorem nr_getD (l : List Tk) {i : Nat} (h : i < l.length) : (l.map fun t => t.nr).getD i 0 = (l.getD i tk0).nr := by
  simp [List.getD_eq_getElem?_getD, h]

set_option maxRecDepth 100000 in
set_option maxHeartbeats 2000000 in
theorem refLeast {D : Int → Th} {B : Nat} {w : World} {v : Value} {l : List Tk} (h : OwnR D B w v (l.map fun t => t.nr)) (h0 : 0 < l.length) (hl : l.length ≤ 1000) (hw : ∀ t ∈ l, (D t.nr).wt = t.wt) (hn : ∀ t ∈ l, 0 ≤ t.nr ∧ t.nr < 1024) :
    Calls Try.prog 36 #[v] w fun e w' => e = .returned (.int .i64 (leastT l)) ∧ Keeps w w' := by
  have HO := Lib.hid h
  obtain ⟨a, c, hv⟩ := h.form
  obtain ⟨N, hN⟩ : ∃ N, N = l.length := ⟨_, rfl⟩
  rw [List.length_map, ← hN] at hv
  subst hv
  have HN := Lib.hid hN
  have HW := Lib.hid hw
  have HNR := Lib.hid hn
  have HL : Hid (leastT l = leastK l N) := by show _ = _; rw [hN]; rfl
  rw [← hN] at h0 hl
  have HAT : Hid (∀ i, i < N → ∃ g, a = some ⟨g, 0, none⟩ ∧ w.cell? ⟨g, i * 3, none⟩ = some (.int .i64 (l.getD i tk0).wt) ∧ w.cell? ⟨g, i * 3 + 1, none⟩ = some (.int .i64 (l.getD i tk0).nr)) := fun i hi => by
    obtain ⟨g, c', hv, _, c0, c1, _⟩ := HO.out.at (i := i) (by rw [List.length_map, ← HN.out]; exact hi)
    rw [nr_getD l (by rw [← HN.out]; exact hi)] at c0 c1
    rw [HW.out _ (getD_tk (by rw [← HN.out]; exact hi))] at c0
    injection hv with e1
    exact ⟨g, e1, c0, c1⟩
  clear h hw hn hN
  go_enter Try.func36, Try.ntmps36
  go_wp2_with fail
  go_loopw [4, 3] (fun iv mv wr => ∃ k : Nat, 1 ≤ k ∧ k ≤ N ∧ iv = .int .i64 k ∧ mv = .int .i64 (leastK l k : Nat) ∧ Keeps w wr) (fun iv _ _ => N - (intOf iv).toNat)
  case atStart => exact ⟨1, by omega, by omega, rfl, rfl, Fr.refl _ _⟩
  case round =>
    obtain ⟨k, hk1, hk, rfl, rfl, hkp⟩ := hrel
    have HK := Lib.hid hkp
    by_cases hlt : k < N
    case neg =>
      obtain rfl : k = N := by omega
      rw [← HL.out]
      clear hkp
      go_wp2_with fail
      go_ret
      go_light
      exact ⟨rfl, HK.out⟩
    case pos =>
      obtain ⟨j, rfl⟩ : ∃ j, k = j + 1 := ⟨k - 1, by omega⟩
      have hm := leastK_lt l (j + 1) (by omega)
      have HST : Hid (leastK l (j + 1 + 1) = if keyK (l.getD (j + 1) tk0) < keyK (l.getD (leastK l (j + 1)) tk0) then j + 1 else leastK l (j + 1)) := rfl
      obtain ⟨m, hme⟩ : ∃ m, m = leastK l (j + 1) := ⟨_, rfl⟩
      rw [← hme] at hm HST ⊢
      obtain ⟨g, e1, c0, c1⟩ := HAT.out (j + 1) hlt
      obtain ⟨g', e2, d0, d1⟩ := HAT.out m (by omega)
      subst e1
      injection e2 with e2
      injection e2 with e2
      subst e2
      have c0 := hkp.cell (fun h => h) c0
      have c1 := hkp.cell (fun h => h) c1
      have d0 := hkp.cell (fun h => h) d0
      have d1 := hkp.cell (fun h => h) d1
      have n1 := HNR.out _ (getD_tk (l := l) (i := j + 1) (by rw [← HN.out]; exact hlt))
      have n2 := HNR.out _ (getD_tk (l := l) (i := m) (by rw [← HN.out]; omega))
      unfold keyK at HST
      obtain ⟨x, hx⟩ : ∃ x, x = (l.getD (j + 1) tk0).wt := ⟨_, rfl⟩
      obtain ⟨y, hy⟩ : ∃ y, y = (l.getD m tk0).wt := ⟨_, rfl⟩
      obtain ⟨p, hp⟩ : ∃ p, p = (l.getD (j + 1) tk0).nr := ⟨_, rfl⟩
      obtain ⟨q, hq⟩ : ∃ q, q = (l.getD m tk0).nr := ⟨_, rfl⟩
      rw [← hx] at c0 HST
      rw [← hy] at d0 HST
      rw [← hp] at c1 n1 HST
      rw [← hq] at d1 n2 HST
      have ti1 : ((j + 1 : Nat) : Int) < (N : Int) := by omega
      have ti2 : (m : Int) < (N : Int) := by omega
      clear hme hx hy hp hq hkp
      by_cases hxy : x < y
      · have td : decide (x < y) = true := decide_eq_true hxy
        rw [if_pos (by omega)] at HST
        go_wp2_with fail
        go_quiet (fail)
        go_wp2_with fail
        go_roundw
        all_goals go_light
        case rel => exact ⟨j + 1 + 1, by omega, by omega, by go_num, by rw [HST.out]; first | done | go_num, HK.out.drewN _⟩
        case measure => simp [intOf]; omega
      · have td : decide (x < y) = false := decide_eq_false hxy
        by_cases hxe : x = y
        · subst hxe
          by_cases hpq : p < q
          · have te : decide (p < q) = true := decide_eq_true hpq
            rw [if_pos (by omega)] at HST
            go_wp2_with fail
            go_quiet (fail)
            go_wp2_with fail
            go_roundw
            all_goals go_light
            case rel => exact ⟨j + 1 + 1, by omega, by omega, by go_num, by rw [HST.out]; first | done | go_num, HK.out.drewN _⟩
            case measure => simp [intOf]; omega
          · have te : decide (p < q) = false := decide_eq_false hpq
            rw [if_neg (by omega)] at HST
            go_wp2_with fail
            go_quiet (fail)
            go_wp2_with fail
            go_roundw
            all_goals go_light
            case rel => exact ⟨j + 1 + 1, by omega, by omega, by go_num, by rw [HST.out]; first | done | go_num, HK.out.drewN _⟩
            case measure => simp [intOf]; omega
        · have te : (x == y) = false := by simp; exact hxe
          rw [if_neg (by omega)] at HST
          go_wp2_with fail
          go_quiet (fail)
          go_wp2_with fail
          go_roundw
          all_goals go_light
          case rel => exact ⟨j + 1 + 1, by omega, by omega, by go_num, by rw [HST.out]; first | done | go_num, HK.out.drewN _⟩
          case measure => simp [intOf]; omega

theorem take_erase {q : List Int} {i k : Nat} (hk : k < q.length) (hi : i < q.length) : (if i < k + 1 then (q.take (k + 1)).eraseIdx i else q.take (k + 1)) = (if k = i then (if i < k then (q.take k).eraseIdx i else q.take k) else (if i < k then (q.take k).eraseIdx i else q.take k) ++ [q.getD k 0]) := by
  have ht : q.take (k + 1) = q.take k ++ [q.getD k 0] := by rw [List.take_add_one, List.getElem?_eq_getElem hk, List.getD_eq_getElem?_getD, List.getElem?_eq_getElem hk]; rfl
  have hl : (q.take k).length = k := by rw [List.length_take]; omega
  by_cases e : k = i
  · subst e
    rw [if_pos (by omega), if_pos rfl, if_neg (by omega), ht, List.eraseIdx_append_of_length_le (by omega), hl, Nat.sub_self]
    simp
  · rw [if_neg e]
    by_cases h : i < k
    · rw [if_pos (by omega), if_pos h, ht, List.eraseIdx_append_of_lt_length (by omega)]
    · rw [if_neg (by omega), if_neg h, ht]

set_option maxRecDepth 100000 in
set_option maxHeartbeats 2000000 in
theorem refWithout {D : Int → Th} {B i : Nat} {w : World} {v : Value} {q : List Int} (h : OwnR D B w v q) (hi : i < q.length) (hl : q.length ≤ 1000) :
    Calls Try.prog 37 #[v, .int .i64 i] w fun e w' => ∃ v', e = .returned v' ∧ OwnR D w.heap.size w' v' (q.eraseIdx i) ∧ Keeps w w' := by
  have HO := Lib.hid h
  obtain ⟨a, c, hv⟩ := h.form
  obtain ⟨N, hN⟩ : ∃ N, N = q.length := ⟨_, rfl⟩
  rw [← hN] at hv hi hl
  subst hv
  have HN := Lib.hid hN
  have HAT : Hid (∀ k, k < N → ∃ g, a = some ⟨g, 0, none⟩ ∧ w.cell? ⟨g, k * 3, none⟩ = some (.int .i64 (D (q.getD k 0)).wt) ∧ w.cell? ⟨g, k * 3 + 1, none⟩ = some (.int .i64 (q.getD k 0)) ∧ w.cell? ⟨g, k * 3 + 2, none⟩ = some (.slice (D (q.getD k 0)).a (D (q.getD k 0)).l (D (q.getD k 0)).c)) := fun k hk => by
    obtain ⟨g, c', hv, _, c0, c1, c2, _⟩ := HO.out.at (i := k) (by rw [← HN.out]; exact hk)
    injection hv with e1
    exact ⟨g, e1, c0, c1, c2⟩
  have HALL : Hid ((if i < N then (q.take N).eraseIdx i else q.take N) = q.eraseIdx i) := by show _ = _; rw [if_pos hi, hN, List.take_length]
  clear h hN
  go_enter Try.func37, Try.ntmps37
  go_wp2_with fail
  go_loopw [6, 5] (fun iv ov wr => ∃ k : Nat, k ≤ N ∧ iv = .int .i64 k ∧ OwnR D w.heap.size wr ov (if i < k then (q.take k).eraseIdx i else q.take k) ∧ Keeps w wr) (fun iv _ _ => N - (intOf iv).toNat)
  case atStart => exact ⟨0, by omega, rfl, by rw [if_neg (by omega), List.take_zero]; exact OwnR.nil _ _ _, Fr.refl _ _⟩
  case round =>
    obtain ⟨k, hk, rfl, hown, hkp⟩ := hrel
    have HK := Lib.hid hkp
    have HOW := Lib.hid hown
    by_cases hlt : k < N
    case neg =>
      obtain rfl : k = N := by omega
      rw [HALL.out] at HOW hown
      obtain ⟨oa, oc, hov⟩ := hown.form
      obtain ⟨ol, hol⟩ : ∃ n, n = (q.eraseIdx i).length := ⟨_, rfl⟩
      rw [← hol] at hov
      subst hov
      clear hown hkp hol
      go_wp2_with fail
      go_ret
      go_light
      exact ⟨_, rfl, HOW.out, HK.out⟩
    case pos =>
      have HST := Lib.hid (take_erase (q := q) (i := i) (k := k) (by rw [← HN.out]; exact hlt) (by rw [← HN.out]; exact hi))
      obtain ⟨r, hr⟩ : ∃ r, r = (if i < k then (q.take k).eraseIdx i else q.take k) := ⟨_, rfl⟩
      rw [← hr] at HST HOW hown
      have hrl : r.length ≤ N := by
        rw [hr]
        split
        · have := List.length_eraseIdx_le (q.take k) i; rw [List.length_take] at this; omega
        · rw [List.length_take]; omega
      have HRL := Lib.hid hrl
      obtain ⟨oa, oc, hov⟩ := hown.form
      obtain ⟨rl, hrle⟩ : ∃ n, n = r.length := ⟨_, rfl⟩
      rw [← hrle] at hov
      subst hov
      have HRE := Lib.hid hrle
      have hsz := hkp.size
      clear hr hrl hrle
      by_cases hki : k = i
      · subst hki
        rw [if_pos rfl] at HST
        clear hown hkp
        go_wp2_with fail
        go_roundw
        all_goals go_light
        case rel => exact ⟨k + 1, by omega, by go_num, by rw [HST.out]; exact HOW.out, HK.out⟩
        case measure => simp [intOf]; omega
      · rw [if_neg hki] at HST
        have tk : ((k : Int) != (i : Int)) = true := by simp; omega
        have tk2 : ¬ (k : Int) = (i : Int) := by omega
        obtain ⟨g, e1, c0, c1, c2⟩ := HAT.out k hlt
        subst e1
        have c0 := hkp.cell (fun h => h) c0
        have c1 := hkp.cell (fun h => h) c1
        have c2 := hkp.cell (fun h => h) c2
        have HOW1 := Lib.hid HOW.out
        obtain ⟨n, hn⟩ : ∃ n, n = q.getD k 0 := ⟨_, rfl⟩
        rw [← hn] at c0 c1 c2 HST
        have ti1 : (k : Int) < (N : Int) := by omega
        clear hown hkp hn
        go_wp2_with (at_builtin; go_loud (refine wpList_rthing (D := D) (n := n) rfl (.tmp 16) (.tmp 21) rfl elemR (.slice oa rl oc) rfl (by show Value.slice _ _ _ = Value.slice _ _ _; simp) HOW.out (by simp [cellsT]) (by have h1 := HRL.out; omega) hsz ?_); intro v5 w5 hown5 hfr5 hat5; have H5 := Lib.hid hown5; have F5 := Lib.hid hfr5; clear hown5 hfr5 hat5)
        go_roundw
        all_goals go_light
        case rel => exact ⟨k + 1, by omega, by go_num, by rw [HST.out]; exact H5.out, HK.out.trans F5.out (fun j hj h => by have := (HOW.out.lt j h).1; omega)⟩
        case measure => simp [intOf]; omega
end Go.Proofs.Ytbbljpkboojjhaa
