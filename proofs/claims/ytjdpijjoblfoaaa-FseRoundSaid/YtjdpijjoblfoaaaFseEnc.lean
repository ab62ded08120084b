/- fse's Encode. -/
import Derived.Test.YtjdpijjoblfoaaaBackward
import Derived.Test.YtjdpijjoblfoaaaFseSym
import Derived.Test.YtjdpijjoblfoaaaMade
import Derived.Test.YtjdpijjoblfoaaaFseP
import Derived.Test.YtjdpijjoblfoaaaTab
import Derived.Test.YtjdpijjoblfoaaaWriterPut
import Derived.Test.YtjdpijjoblfoaaaMarked
namespace Go.Proofs.Ytjdpijjoblfoaaa
open Go.RowKit Go.Shelf

attribute [local go_sem] Oper.semAt_some

theorem pow_10 {k : Nat} (h : k ≤ 10) : 1 ≤ (2 : Int) ^ k ∧ (2 : Int) ^ k ≤ 1024 := by
  have : k = 0 ∨ k = 1 ∨ k = 2 ∨ k = 3 ∨ k = 4 ∨ k = 5 ∨ k = 6 ∨ k = 7 ∨ k = 8 ∨ k = 9 ∨ k = 10 := by omega
  rcases this with rfl | rfl | rfl | rfl | rfl | rfl | rfl | rfl | rfl | rfl | rfl <;> decide
theorem and_10 {k : Nat} {y : Int} (h : k ≤ 10) (h0 : 0 ≤ y) (h1 : y < 1024) : bits .and .i64 y (IntKind.i64.wrap (IntKind.i64.wrap (2 ^ k) - 1)) = y % 2 ^ k := by
  have := pow_10 h
  rw [wraps_i64 (2 ^ k) (by omega) (by omega), wraps_i64 (2 ^ k - 1) (by omega) (by omega)]
  exact bits_mask .i64 63 (by decide) wraps_i64 k (by omega) y h0 (by omega)
theorem posP_lt (P : List Int) (s : Int) : ∀ (k i : Nat), 0 ≤ (posP P s k).getD i 0 ∧ ((posP P s k).getD i 0 < k ∨ (posP P s k).getD i 0 = 0)
  | 0, i => by simp [posP]
  | k + 1, i => by
    have h := posP_lt P s k i
    simp only [posP]
    split
    · by_cases hi : i < (posP P s k).length
      · rw [List.getD_eq_getElem?_getD, List.getElem?_append_left hi, ← List.getD_eq_getElem?_getD]; omega
      · rw [List.getD_eq_getElem?_getD, List.getElem?_append_right (by omega)]
        by_cases h2 : i = (posP P s k).length
        · subst h2; (simp; try omega)
        · rw [List.getElem?_eq_none (by simp; omega)]; simp
    · omega

theorem keepsFrom_fr {B : Nat} {R : Nat → Prop} {W W' : World} (f : Fr R W W') (hc : ∀ k, R k → ∀ o, W.heap[k]? = some o → o.isCells = true) : KeepsFrom B W W' :=
  ⟨f.size, fun k o _ hk ho => f.heap (fun hR => by have := hc k hR o hk; rw [ho] at this; cases this) hk⟩
theorem Wr.isCells {w : World} {b : Nat} {g : Option Nat} {rs : List Int} (h : Wr w b g rs) (k : Nat) (hk : k = b ∨ g = some k) (o : Obj) (ho : w.heap[k]? = some o) : o.isCells = true := by
  obtain ⟨_, _, v, E, hv, h4, h5⟩ := h
  rcases hk with rfl | hk
  · rw [h4] at ho; cases ho; rfl
  · rcases h5.2.2 with ⟨rfl, _⟩ | ⟨g', cap, cur, rfl, _, hg, _⟩
    · rw [← hv] at hk; cases hk
    · rw [← hv] at hk
      cases hk
      rw [hg] at ho
      cases ho
      rfl
theorem shrN_spec (f : Int) (hf : 1 ≤ f) : ∀ (n : Nat) (y : Int), f ≤ y → y < 2 * f * 2 ^ n →
    (∀ k, k < shrN n y f → 2 * f ≤ y / 2 ^ k) ∧ y / 2 ^ shrN n y f < 2 * f ∧ shrN n y f ≤ n ∧ f ≤ y / 2 ^ shrN n y f
  | 0, y, h1, h2 => by simp [shrN] at h2 ⊢; omega
  | n + 1, y, h1, h2 => by
    simp only [shrN]
    by_cases hy : 2 * f ≤ y
    · rw [if_pos hy]
      have h3 : y / 2 < 2 * f * 2 ^ n := by
        rw [Int.pow_succ, ← Int.mul_assoc] at h2
        omega
      obtain ⟨g1, g2, g3, g4⟩ := shrN_spec f hf n (y / 2) (by omega) h3
      have e : ∀ k, y / 2 ^ (k + 1) = y / 2 / 2 ^ k := fun k => by rw [Int.pow_succ, Int.mul_comm, Int.ediv_ediv_of_nonneg (by omega)]
      refine ⟨fun k hk => ?_, by rw [e]; exact g2, by omega, by rw [e]; exact g4⟩
      cases k with
      | zero => simpa using hy
      | succ k => rw [e]; exact g1 k (by omega)
    · rw [if_neg hy]
      exact ⟨fun k hk => by omega, by simp; omega, by omega, by simp; omega⟩

theorem dn_reverse {N : Nat} {ls : List Int} (hN : N = ls.length) {ys : List (Fin N)} (h : Dn N N ys) : ys.map (fun j => ls.getD j.val 0) = ls.reverse := by
  have e : ys.map (fun j => ls.getD j.val 0) = (ys.map (·.val)).map (fun i => ls.getD i 0) := by rw [List.map_map]; rfl
  rw [e, h, List.map_map]
  apply List.ext_getElem
  · simp [hN]
  · intro i h1 h2
    simp only [List.length_map, List.length_range] at h1
    simp only [List.getElem_map, List.getElem_range, Function.comp, List.getElem_reverse]
    rw [List.getD_eq_getElem?_getD, List.getElem?_eq_getElem (by omega)]
    simp [hN]

theorem toMarks {n : Nat} {P : Program} {fn : Func} {R : Ending → World → Prop} {a : Act} {w : World} (h : bodyPost P fn R .ret a w) : bodyPostM Fence.wide n P fn R .ret a w := by
  obtain ⟨hd, v, h1, h2⟩ := h
  show LeavesInM Fence.wide n P fn a.tmps R a.defers .returning w
  rw [hd]
  exact ⟨v, h1, h2⟩

set_option maxRecDepth 100000 in
set_option maxHeartbeats 4000000 in
theorem fseEncode {v u : Value} {zs ls : List Int} {log : Int} {w : World} (h : Ints .i64 w v zs) (hu : Ints .i64 w u ls) (hw : -9223372036854775808 ≤ log ∧ log ≤ 9223372036854775807) :
    Calls Try.prog 14 #[v, .int .i64 log, u] w fun e w' => ∃ x, e = .returned (.tuple #[x, .int .i64 (encS zs log ls).2]) ∧ Own .u8 5 w.heap.size w' x (encS zs log ls).1 ∧ Keeps w w' := by
  have HV := Lib.hid h
  have HU := Lib.hid hu
  obtain ⟨va, vc, rfl⟩ := h.form
  obtain ⟨ua, uc, rfl⟩ := hu.form
  obtain ⟨K, hK⟩ : ∃ K, K = zs.length := ⟨_, rfl⟩
  obtain ⟨N, hN⟩ : ∃ N, N = ls.length := ⟨_, rfl⟩
  rw [← hK] at HV ⊢
  rw [← hN] at HU ⊢
  have HK := Lib.hid hK
  have HN := Lib.hid hN
  have hcu : N ≤ uc ∧ uc ≤ 9223372036854775807 := by
    obtain ⟨_, a', c', e, h1, h2, _⟩ := hu
    injection e with _ e2 e3
    unfold maxLen at h2
    omega
  clear h hu hK hN
  obtain ⟨r, hr⟩ : ∃ r, r = encS zs log ls := ⟨_, rfl⟩
  rw [← hr]
  have HR := Lib.hid hr
  clear hr
  refine (callsIn_wide (n := 5)).1 (callsIn_of_wp_marks Try.func14 rfl trivial (wpIn_wide.2 ?_) rfl)
  simp only [Try.ntmps14, List.size_toArray, List.length_cons, List.length_nil, Nat.reduceAdd, Nat.reduceSub, Array.replicate_succ, Array.replicate_zero, List.push_toArray, List.append_toArray, List.nil_append, List.cons_append]
  have kb : Keeps w (w.alloc (.cells #[.slice va K vc] 22)) := (Fr.refl _ _).alloc _
  have hv1 := HV.out.keeps kb
  have hu1 := HU.out.keeps kb
  have c0 : (w.alloc (.cells #[.slice va K vc] 22)).cell? ⟨w.heap.size, 0, none⟩ = some (.slice va K vc) := by rw [World.cell?_alloc_new]; rfl
  have KB := Lib.hid kb
  have HV1 := Lib.hid hv1
  have HU1 := Lib.hid hu1
  have C0 := Lib.hid c0
  have hmy := fseMay (log := log) HV1.out hw
  have hsc := symContains HV1.out c0 HU1.out
  clear kb hv1 hu1
  by_cases hm : ShMay zs log
  case neg =>
    rw [decide_eq_false hm] at hmy
    have e : Hid (r = ([], 4)) := by show _ = _; rw [HR.out, encS, if_neg hm]
    have HMY := Lib.hid hmy
    clear hmy hsc hm
    go_wp2_with fail
    refine HMY.out.mono ?_
    rintro e0 w1 ⟨rfl, hw1⟩
    rw [hw1]
    clear hw1
    go_wp2_with fail
    refine toMarks ?_
    go_ret2
    go_light
    exact ⟨_, by rw [e.out]; rfl, by rw [e.out]; exact Own.nil _ _ _ _, KB.out⟩
  case pos =>
    rw [decide_eq_true hm] at hmy
    have HMY := Lib.hid hmy
    have HM := Lib.hid hm
    clear hmy hm
    by_cases hlong : 65536 < N
    case pos =>
      have e : Hid (r = ([], 1)) := by show _ = _; rw [HR.out, encS, if_pos HM.out, if_neg (fun h => by have := HN.out; omega)]
      clear hsc
      go_wp2_with fail
      refine HMY.out.mono ?_
      rintro e0 w1 ⟨rfl, hw1⟩
      rw [hw1]
      clear hw1
      go_wp2_with fail
      refine toMarks ?_
      go_ret2
      go_light
      exact ⟨_, by rw [e.out]; rfl, by rw [e.out]; exact Own.nil _ _ _ _, KB.out⟩
    case neg =>
      have t1 : decide (65536 < (N : Int)) = false := by simp; omega
      have hbb : ls.all (okSym zs) = true ∨ ls.all (okSym zs) = false := by cases ls.all (okSym zs) <;> simp
      rcases hbb with hok | hok
      case inr =>
        rw [hok] at hsc
        have e : Hid (r = ([], 1)) := by show _ = _; rw [HR.out, encS, if_pos HM.out, if_neg (fun h => by rw [hok] at h; cases h.2)]
        have HSC := Lib.hid hsc
        clear hsc hok
        go_wp2_with fail
        refine HMY.out.mono ?_
        rintro e0 w1 ⟨rfl, hw1⟩
        rw [hw1]
        clear hw1
        go_wp2_with fail
        refine HSC.out.mono ?_
        rintro e0 w1 ⟨rfl, hw1⟩
        rw [hw1]
        clear hw1
        go_wp2_with fail
        refine toMarks ?_
        go_ret2
        go_light
        exact ⟨_, by rw [e.out]; rfl, by rw [e.out]; exact Own.nil _ _ _ _, KB.out⟩
      case inl =>
        rw [hok] at hsc
        have e : Hid (r = (pack (encRow log.toNat zs ls ++ [1]), 0)) := by show _ = _; rw [HR.out, encS, if_pos HM.out, if_pos ⟨by have := HN.out; omega, hok⟩]
        have HSC := Lib.hid hsc
        have HOK := Lib.hid hok
        clear hsc hok
        go_wp2_with fail
        refine HMY.out.mono ?_
        rintro e0 w1 ⟨rfl, hw1⟩
        rw [hw1]
        clear hw1
        go_wp2_with fail
        refine HSC.out.mono ?_
        rintro e0 w1 ⟨rfl, hw1⟩
        rw [hw1]
        clear hw1
        go_wp2_with fail
        refine (madeTab HV1.out HM.out).mono ?_
        rintro e0 w2 ⟨T, rfl, htab, k2⟩
        obtain ⟨lo, hlo⟩ : ∃ lo, lo = (w.alloc (.cells #[.slice va K vc] 22)).heap.size := ⟨_, rfl⟩
        rw [← hlo] at htab
        have HTAB := Lib.hid htab
        clear hlo
        have K2 : Hid (Keeps w w2) := KB.out.keeps k2
        have hws : w.heap.size < w2.heap.size := by have := k2.size; simp at this; omega
        have c0 := k2.cell (fun h => h) c0
        have HV2 := Lib.hid (HV1.out.keeps k2)
        have HU2 := Lib.hid (HU1.out.keeps k2)
        clear htab k2
        go_wp2_with fail
        refine (newWriter _).mono ?_
        rintro e0 w3 ⟨rfl, hwr, k3⟩
        have hz3 := hwr.lt.1
        have hh8 := k3.heap (fun h => h) (heap_alloc_new w2 (.cells #[.pointer (some ⟨T, 0, none⟩)] 46))
        have K3 : Hid (Keeps w2 w3) := ((Fr.refl _ _).alloc _).keeps k3
        have HWR := Lib.hid hwr
        have H8 := Lib.hid hh8
        have c8 := cell_of_row w3 _ 0 _ _ (0, 0) hh8
        simp at c8
        have cS := (HTAB.out.keeps K3.out).size
        obtain ⟨S, hS⟩ : ∃ S, S = 2 ^ log.toNat := ⟨_, rfl⟩
        rw [← hS] at HTAB cS
        have HS := Lib.hid hS
        have hl8 : w2.heap.size < w3.heap.size := (Array.getElem?_eq_some_iff.1 H8.out).1
        have hlT : T < w3.heap.size := by have := HTAB.out.lt; omega
        clear hwr k3 hh8 hS
        go_wp2_with fail
        have HUL : Hid (∀ x, x ∈ ls → okSym zs x = true) := fun x hx => List.all_eq_true.1 HOK.out x hx
        have HS32 : Hid (32 ≤ S ∧ S ≤ 512) := by show _ ∧ _; rw [HS.out]; exact pow_logN ⟨HM.out.1, HM.out.2.1⟩
        have HPL : Hid (∀ j, j < K → (posP (symP S zs) j S).length = (zs.getD j 0).toNat) := fun j hj => by rw [HS.out]; exact posP_share HM.out (by rw [← HK.out]; exact hj)
        refine (backward0 _ _ _ _).mono ?_
        rintro e0 w4 ⟨rfl, hw4⟩
        have hsz4 : w4.heap.size = w3.heap.size + 3 := by rw [hw4]; simp
        have k4 : Keeps w3 w4 := by rw [hw4]; exact (((Fr.refl _ _).alloc _).alloc _).alloc _
        have cs4 : w4.heap[w3.heap.size + 1]? = some (.cells #[.int .i64 (S : Int)] 3 (0, 0)) := by
          rw [hw4]
          have h1 := heap_alloc_new (w3.alloc (.cells #[.pointer (some ⟨w2.heap.size + 1, 0, none⟩)] 48)) (.cells #[.int .i64 (S : Int)] 3)
          simp only [World.size_alloc] at h1
          exact (Below.heap_alloc _ _ _ (by simp)).trans h1
        have cb4 : w4.cell? ⟨w3.heap.size, 0, none⟩ = some (.pointer (some ⟨w2.heap.size + 1, 0, none⟩)) := by
          have h1 := heap_alloc_new w3 (.cells #[.pointer (some ⟨w2.heap.size + 1, 0, none⟩)] 48)
          have k : Keeps (w3.alloc (.cells #[.pointer (some ⟨w2.heap.size + 1, 0, none⟩)] 48)) w4 := by rw [hw4]; exact ((Fr.refl _ _).alloc _).alloc _
          exact k.cell (fun h => h) (by rw [cell_of_row _ _ 0 _ _ _ h1]; rfl)
        have ci4 : w4.cell? ⟨w3.heap.size + 2, 0, none⟩ = some (.slice ua N uc) := by
          rw [hw4]
          have h1 := heap_alloc_new ((w3.alloc (.cells #[.pointer (some ⟨w2.heap.size + 1, 0, none⟩)] 48)).alloc (.cells #[.int .i64 (S : Int)] 3)) (.cells #[.slice ua N uc] 22)
          simp only [World.size_alloc] at h1
          rw [cell_of_row _ _ 0 _ _ _ h1]
          rfl
        obtain ⟨Rw, hRw⟩ : ∃ Rw : Nat → Prop, Rw = fun k => w2.heap.size < k ∧ k ≠ w3.heap.size ∧ k ≠ w3.heap.size + 2 := ⟨_, rfl⟩
        have nRw : ∀ k, k ≤ w2.heap.size → ¬ Rw k := by rw [hRw]; intro k hk h; omega
        go_wp2_with fail
        rw [← hw4]
        clear hw4
        refine (wpIn_wide (n := 5)).1 ?_
        refine' wpIn_rangeFunc_ownG rfl (by omega) (gf := 48) (lb := #[.pointer (some ⟨w3.heap.size + 2, 0, none⟩)]) rfl trivial (enters_of Try.func48 (by kernel_rfl) rfl)
          (backward_stops 4 (by omega) (w3.heap.size + 2) N uc ua ls HN.out (by omega) Rw (by rw [hRw]; exact fun h => h.2.2 rfl) w4 (HU2.out.keeps (K3.out.keeps k4)) (fun h0 x hx => nRw x.block (by have := HU.out.blk h0 x hx; omega)) ci4)
          (fun h k => h.trans k (fun _ _ h => h)) ?hkb (Below.refl _ _) (fun _ => rfl)
          (fun pre W => ∃ g x row, Hid ((pre.map (fun j => ls.getD j.val 0)).foldl (encStep S zs) ((S : Int), []) = (x, row)) ∧ (S : Int) ≤ x ∧ x < 2 * (S : Int) ∧ row.length ≤ 10 * pre.length ∧ W.heap[w3.heap.size + 1]? = some (.cells #[.int .i64 x] 3 (0, 0)) ∧ Wr W (w2.heap.size + 1) g row ∧ (∀ k, g = some k → Rw k ∧ k ≠ w3.heap.size + 1) ∧ Fr Rw w4 W)
          (fun _ _ _ => False) ?hown (fun _ _ _ _ _ hs _ _ => hs) ?hstart _ ?assign ?body ?done ?stop
        case assign =>
          intro l x W K hK
          gi_wp2
          exact hK
        case body =>
          rintro l pre x W ⟨g, y, row, HE, hy1, hy2, hrl, hst, hwr, hg, hfr⟩ hlen
          obtain ⟨j, hj, hjK, hf0⟩ : ∃ j : Nat, ls.getD x.val 0 = (j : Int) ∧ j < K ∧ zs.getD j 0 ≠ 0 := by
            have h1 := HUL.out _ (getD_mem (zs := ls) (k := x.val) (by rw [← HN.out]; exact x.isLt))
            have h2 := of_decide_eq_true h1
            exact ⟨(ls.getD x.val 0).toNat, by omega, by rw [HK.out]; omega, h2.2.2⟩
          have hj64 : (j : Int) < 64 := by have := HM.out.2.2.2.1; have := HK.out; omega
          have hjK' : (j : Int) < (K : Int) := by omega
          have FR := Lib.hid hfr
          have HWR := Lib.hid hwr
          have HG := Lib.hid hg
          have hts := cell_of_row W _ 0 _ _ (0, 0) hst
          simp at hts
          have fts := frozen_no hst 0
          have hb : W.cell? ⟨w3.heap.size, 0, none⟩ = some (.pointer (some ⟨w2.heap.size + 1, 0, none⟩)) := hfr.cell (by rw [hRw]; exact fun h => h.2.1 rfl) cb4
          obtain ⟨b, off, hva, hcf⟩ : ∃ b off, va = some ⟨b, off, none⟩ ∧ W.cell? ⟨b, off + j, none⟩ = some (.int .i64 (zs.getD j 0)) := by
            have h1 := (HV2.out.keeps (K3.out.keeps k4)).fr hfr ?hvf
            case hvf => exact fun x n c e h0 => nRw x.block (by cases e; have := HV.out.blk h0 x rfl; omega)
            obtain ⟨_, a', c', e, _, _, _, hcc⟩ := h1
            injection e with e1
            subst e1
            exact hcc j (by rw [← HK.out]; exact hjK)
          have csh4 : w4.cell? ⟨w.heap.size, 0, none⟩ = some (.slice va K vc) := k4.cell (fun h => h) (K3.out.cell (fun h => h) c0)
          have hsh : W.cell? ⟨w.heap.size, 0, none⟩ = some (.slice va K vc) := hfr.cell (nRw w.heap.size (by omega)) csh4
          subst hva
          have hbw : b < w.heap.size := HV.out.blk (by omega) ⟨b, off, none⟩ rfl
          have nbb : ¬ (b = w2.heap.size + 1 ∨ g = some b) := fun h => by
            rcases h with h | h
            · omega
            · have := (hg _ h).1; rw [hRw] at this; omega
          obtain ⟨f, hf⟩ : ∃ f, f = zs.getD j 0 := ⟨_, rfl⟩
          rw [← hf] at hcf hf0
          have hfb : 1 ≤ f ∧ f ≤ 512 ∧ f ≤ S := by
            have h1 := sum_ge HM.out.2.2.2.2.2.1 (i := j)
            have h2 := HM.out.2.2.2.2.2.1 _ (getD_mem (k := j) (by rw [← HK.out]; exact hjK))
            have h3 := HM.out.2.2.2.2.2.2
            have h4 := HS32.out
            have h5 : (S : Int) = 2 ^ log.toNat := by rw [HS.out]; simp
            rw [← hf] at h1 h2
            omega
          obtain ⟨n1, hn1⟩ : ∃ n1, n1 = shrN 10 y f := ⟨_, rfl⟩
          have hnn : (∀ k, k < n1 → 2 * f ≤ y / 2 ^ k) ∧ y / 2 ^ n1 < 2 * f ∧ n1 ≤ 10 ∧ f ≤ y / 2 ^ n1 := by rw [hn1]; exact shrN_spec f hfb.1 10 y (by omega) (by have := HS32.out; omega)
          have HNN := Lib.hid hnn
          have hyb : 32 ≤ y ∧ y < 1024 := by have := HS32.out; omega
          have hj2' := hj
          have hj2 : ls[x.val]?.getD 0 = (j : Int) := by rw [← List.getD_eq_getElem?_getD]; exact hj
          try dsimp only
          rw [hj2]
          have hw2 : IntKind.i64.wrap (2 * f) = 2 * f := wraps_i64 _ (by omega) (by omega)
          have HF := Lib.hid hf
          have HN1 := Lib.hid hn1
          have hn10 := hnn.2.2.1
          clear hfr hwr hg hj hf hn1 hnn
          gi_wp2
          gi_loopw [13] (fun nv wr => ∃ k m : Nat, k ≤ n1 ∧ nv = .int .i64 k ∧ wr = W.drewN m) (fun nv _ => n1 - (intOf nv).toNat)
          case atStart => exact ⟨0, 0, by omega, rfl, rfl⟩
          case round =>
            obtain ⟨k, m, hk, rfl, rfl⟩ := hrel
            gi_wp2
            refine round_held (S := fun w' => w'.cell? ⟨w3.heap.size + 1, 0, none⟩ = some (.int .i64 y) ∧ w'.cell? ⟨w.heap.size, 0, none⟩ = some (.slice (some ⟨b, off, none⟩) K vc) ∧ w'.cell? ⟨b, off + j, none⟩ = some (.int .i64 f)) (by kernel_rfl) (by kernel_rfl) ⟨hts, hsh, hcf⟩ (fun hHeld => ?_)
            refine take_at (i := 0) (v := ?v0) rfl (by kernel_rfl) (by kernel_rfl) (by kernel_rfl) (by rfl) ?hy0 (by assumption) ?rest0
            case hy0 => (intro w1 hSw; (try dsimp only at hSw); go_simp; try with_reducible rfl)
            try simp only [Act.put, List.setIfInBounds_toArray, List.set_cons_zero, List.set_cons_succ]
            refine take_at (i := 1) (v := ?v1) rfl (by kernel_rfl) (by kernel_rfl) (by kernel_rfl) (by rfl) ?hy1 (by assumption) ?rest1
            case hy1 => (intro w1 hSw; (try dsimp only at hSw); go_simp; try with_reducible rfl)
            try simp only [Act.put, List.setIfInBounds_toArray, List.set_cons_zero, List.set_cons_succ]
            refine take_at (i := 2) (v := ?v2) rfl (by kernel_rfl) (by kernel_rfl) (by kernel_rfl) (by rfl) ?hy2 (by assumption) ?rest2
            case hy2 => (intro w1 hSw; (try dsimp only at hSw); go_simp; try with_reducible rfl)
            try simp only [Act.put, List.setIfInBounds_toArray, List.set_cons_zero, List.set_cons_succ]
            refine take_at (i := 3) (v := ?v3) rfl (by kernel_rfl) (by kernel_rfl) (by kernel_rfl) (by rfl) ?hy3 (by assumption) ?rest3
            case hy3 => (intro w1 hSw; (try dsimp only at hSw); go_simp; try with_reducible rfl)
            try simp only [Act.put, List.setIfInBounds_toArray, List.set_cons_zero, List.set_cons_succ]
            refine take_at (i := 4) (v := ?v4) rfl (by kernel_rfl) (by kernel_rfl) (by kernel_rfl) (by rfl) ?hy4 (by assumption) ?rest4
            case hy4 => (intro w1 hSw; (try dsimp only at hSw); go_simp; try with_reducible rfl)
            try simp only [Act.put, List.setIfInBounds_toArray, List.set_cons_zero, List.set_cons_succ]
            refine take_at (i := 5) (v := ?v5) rfl (by kernel_rfl) (by kernel_rfl) (by kernel_rfl) (by rfl) ?hy5 (by assumption) ?rest5
            case hy5 => (intro w1 hSw; (try dsimp only at hSw); go_simp; try with_reducible rfl)
            try simp only [Act.put, List.setIfInBounds_toArray, List.set_cons_zero, List.set_cons_succ]
            refine take_at (i := 6) (v := ?v6) rfl (by kernel_rfl) (by kernel_rfl) (by kernel_rfl) (by rfl) ?hy6 (by assumption) ?rest6
            case hy6 => (intro w1 hSw; (try dsimp only at hSw); go_simp; try with_reducible rfl)
            try simp only [Act.put, List.setIfInBounds_toArray, List.set_cons_zero, List.set_cons_succ]
            refine take_at (i := 7) (v := ?v7) rfl (by kernel_rfl) (by kernel_rfl) (by kernel_rfl) (by rfl) ?hy7 (by assumption) ?rest7
            case hy7 => (intro w1 hSw; (try dsimp only at hSw); go_simp; try with_reducible rfl)
            try simp only [Act.put, List.setIfInBounds_toArray, List.set_cons_zero, List.set_cons_succ]
            refine take_at (i := 8) (v := ?v8) rfl (by kernel_rfl) (by kernel_rfl) (by kernel_rfl) (by rfl) ?hy8 (by assumption) ?rest8
            case hy8 => (intro w1 hSw; (try dsimp only at hSw); go_simp; try with_reducible rfl)
            try simp only [Act.put, List.setIfInBounds_toArray, List.set_cons_zero, List.set_cons_succ]
            refine wpAnyH_done (by kernel_rfl) ⟨rfl, ?_⟩ _
            by_cases hkn : k < n1
            case pos =>
              have hck := HNN.out.1 k hkn
              gi_wp2
              go_roundw
              all_goals go_light
              case rel => exact ⟨k + 1, m + 1, by omega, by go_num, rfl⟩
              case measure => simp [intOf]; omega
            case neg =>
              have hkn2 : k = n1 := by omega
              subst hkn2
              have hck := HNN.out.2.1
              have hmod : 0 ≤ y % 2 ^ k ∧ y % 2 ^ k < 2 ^ k := ⟨Int.emod_nonneg _ (by have := pow_10 hn10; omega), Int.emod_lt_of_pos _ (by have := pow_10 hn10; omega)⟩
              have hand : bits .and .i64 y (IntKind.i64.wrap (IntKind.i64.wrap (2 ^ k) - 1)) = y % 2 ^ k := and_10 hn10 (by omega) (by omega)
              gi_wp2
              refine round_held (S := fun w' => w'.cell? ⟨w3.heap.size, 0, none⟩ = some (.pointer (some ⟨w2.heap.size + 1, 0, none⟩)) ∧ w'.cell? ⟨w3.heap.size + 1, 0, none⟩ = some (.int .i64 y)) (by kernel_rfl) (by kernel_rfl) ⟨hb, hts⟩ (fun hHeld2 => ?_)
              refine take_at (i := 0) (v := ?vb0) rfl (by kernel_rfl) (by kernel_rfl) (by kernel_rfl) (by rfl) ?hyb0 (by assumption) ?restb0
              case hyb0 => (intro w1 hSw; (try dsimp only at hSw); go_simp; try with_reducible rfl)
              try simp only [Act.put, List.setIfInBounds_toArray, List.set_cons_zero, List.set_cons_succ]
              refine take_at (i := 1) (v := ?vb1) rfl (by kernel_rfl) (by kernel_rfl) (by kernel_rfl) (by rfl) ?hyb1 (by assumption) ?restb1
              case hyb1 => (intro w1 hSw; (try dsimp only at hSw); go_simp; try with_reducible rfl)
              try simp only [Act.put, List.setIfInBounds_toArray, List.set_cons_zero, List.set_cons_succ]
              refine take_at (i := 2) (v := ?vb2) rfl (by kernel_rfl) (by kernel_rfl) (by kernel_rfl) (by rfl) ?hyb2 (by assumption) ?restb2
              case hyb2 => (intro w1 hSw; (try dsimp only at hSw); go_simp; try with_reducible rfl)
              try simp only [Act.put, List.setIfInBounds_toArray, List.set_cons_zero, List.set_cons_succ]
              refine take_at (i := 3) (v := ?vb3) rfl (by kernel_rfl) (by kernel_rfl) (by kernel_rfl) (by rfl) ?hyb3 (by assumption) ?restb3
              case hyb3 => (intro w1 hSw; (try dsimp only at hSw); go_simp; try with_reducible rfl)
              try simp only [Act.put, List.setIfInBounds_toArray, List.set_cons_zero, List.set_cons_succ]
              refine take_at (i := 4) (v := ?vb4) rfl (by kernel_rfl) (by kernel_rfl) (by kernel_rfl) (by rfl) ?hyb4 (by assumption) ?restb4
              case hyb4 => (intro w1 hSw; (try dsimp only at hSw); go_simp; try with_reducible rfl)
              try simp only [Act.put, List.setIfInBounds_toArray, List.set_cons_zero, List.set_cons_succ]
              refine take_at (i := 5) (v := ?vb5) rfl (by kernel_rfl) (by kernel_rfl) (by kernel_rfl) (by rfl) ?hyb5 (by assumption) ?restb5
              case hyb5 => (intro w1 hSw; (try dsimp only at hSw); go_simp; try with_reducible rfl)
              try simp only [Act.put, List.setIfInBounds_toArray, List.set_cons_zero, List.set_cons_succ]
              refine take_at (i := 6) (v := ?vb6) rfl (by kernel_rfl) (by kernel_rfl) (by kernel_rfl) (by rfl) ?hyb6 (by assumption) ?restb6
              case hyb6 => (intro w1 hSw; (try dsimp only at hSw); go_simp; try with_reducible rfl)
              try simp only [Act.put, List.setIfInBounds_toArray, List.set_cons_zero, List.set_cons_succ]
              refine step_at (i := 7) rfl (by kernel_rfl) (by rfl) (fun K13 hK => ?_)
              go_simp
              refine (writerPut (n := k) (HWR.out.keeps ((Fr.refl _ _).drewN _)) (by omega) (by omega) hmod.1 hmod.2).mono ?_
              rintro e5 W5 ⟨g5, rfl, hwr5, hfr5, hg5⟩
              have hfr5' : Fr (fun i => i = w2.heap.size + 1 ∨ g = some i) W W5 := Fr.trans (S := fun i => i = w2.heap.size + 1 ∨ g = some i) ((Fr.refl _ _).drewN _) hfr5 (fun _ _ h => h)
              have n9 : ¬ (w3.heap.size = w2.heap.size + 1 ∨ g = some w3.heap.size) := fun h => by
                rcases h with h | h
                · have := hz3; simp at this; omega
                · have := (HG.out _ h).1; rw [hRw] at this; exact this.2.1 rfl
              have n10 : ¬ (w3.heap.size + 1 = w2.heap.size + 1 ∨ g = some (w3.heap.size + 1)) := fun h => by
                rcases h with h | h
                · omega
                · exact (HG.out _ h).2 rfl
              have hb5 := hfr5'.cell (p := ⟨w3.heap.size, 0, none⟩) n9 hb
              have hst5 := hfr5'.heap n10 hst
              have hts5 := hfr5'.cell (p := ⟨w3.heap.size + 1, 0, none⟩) n10 hts
              have fts5 := frozen_no hst5 0
              have HF5 : Fr Rw w4 W5 := FR.out.trans hfr5' (fun i _ h => by
                rcases h with h | h
                · rw [h, hRw]; simp at hz3; omega
                · exact (HG.out _ h).1)
              refine hK.out _ _ ⟨hb5, hts5⟩ (fun hHeld3 => wpAnyH_done (by kernel_rfl) ⟨rfl, ?_⟩ _)
              have htab5 : Tab W5 T lo w2.heap.size zs S := ((HTAB.out.keeps K3.out).keeps k4).fr HF5 (fun i h => by rw [hRw] at h; omega)
              have cS5 := htab5.size
              obtain ⟨pa, pc, cp5, hpi, hpl⟩ := htab5.to j (by rw [← HK.out]; exact hjK)
              have hpn := HPL.out j hjK
              rw [hpn, ← HF.out] at cp5 hpi
              obtain ⟨i, hi⟩ : ∃ i : Nat, y / 2 ^ k - f = (i : Int) := ⟨(y / 2 ^ k - f).toNat, by have := HNN.out.2.2.2; omega⟩
              have hif : i < f.toNat := by have := HNN.out.2.1; omega
              have hif' : (i : Int) < f := by omega
              obtain ⟨pb, po, hpa, cpi⟩ : ∃ pb po, pa = some ⟨pb, po, none⟩ ∧ W5.cell? ⟨pb, po + i, none⟩ = some (.int .i64 ((posP (symP S zs) j S).getD i 0)) := by
                obtain ⟨_, a', c', e, _, _, _, hcc⟩ := hpi
                injection e with e1
                subst e1
                exact hcc i (by rw [hpn, ← HF.out]; exact hif)
              subst hpa
              have hpb := (hpl _ rfl).2
              obtain ⟨pn, hpnf⟩ : ∃ pn, pn = f.toNat := ⟨_, rfl⟩
              rw [← hpnf] at cp5
              have hif2 : (i : Int) < (pn : Int) := by omega
              clear hpnf
              have hpv := posP_lt (symP S zs) j S i
              obtain ⟨pv, hpve⟩ : ∃ pv, pv = (posP (symP S zs) j S).getD i 0 := ⟨_, rfl⟩
              rw [← hpve] at cpi hpv
              have HPV := Lib.hid hpve
              have c85 := HF5.cell (p := ⟨w2.heap.size, 0, none⟩) (nRw w2.heap.size (by omega)) (k4.cell (fun h => h) c8)
              have csh5 := HF5.cell (p := ⟨w.heap.size, 0, none⟩) (nRw w.heap.size (by omega)) csh4
              have hcf5 : W5.cell? ⟨b, off + j, none⟩ = some (.int .i64 f) := hfr5'.cell (p := ⟨b, off + j, none⟩) nbb hcf
              have hsub : IntKind.i64.wrap (y / 2 ^ k - f) = (i : Int) := by rw [wraps_i64 _ (by omega) (by omega)]; exact hi
              have hwsp : IntKind.i64.wrap ((S : Int) + pv) = (S : Int) + pv := wraps_i64 _ (by omega) (by have := HS32.out; omega)
              have HWR5 := Lib.hid hwr5
              have HI := Lib.hid hi
              clear hpi hpl hpn hif hwr5 hfr5 hK hHeld hHeld2 hHeld3 hi hpve
              gi_wp2
              refine round_held (S := fun w' => w'.cell? ⟨w2.heap.size, 0, none⟩ = some (.pointer (some ⟨T, 0, none⟩)) ∧ w'.cell? ⟨T, 1600, none⟩ = some (.int .i64 (S : Int)) ∧ w'.cell? ⟨T, 1536 + j, none⟩ = some (.slice (some ⟨pb, po, none⟩) pn pc) ∧ w'.cell? ⟨w.heap.size, 0, none⟩ = some (.slice (some ⟨b, off, none⟩) K vc) ∧ w'.cell? ⟨b, off + j, none⟩ = some (.int .i64 f) ∧ w'.cell? ⟨pb, po + i, none⟩ = some (.int .i64 pv)) (by kernel_rfl) (by kernel_rfl) ⟨c85, cS5, cp5, csh5, hcf5, cpi⟩ (fun hHeld4 => ?_)
              refine take_at (i := 0) (v := ?vc0) rfl (by kernel_rfl) (by kernel_rfl) (by kernel_rfl) (by rfl) ?hyc0 (by assumption) ?restc0
              case hyc0 => (intro w1 hSw; (try dsimp only at hSw); go_simp; try with_reducible rfl)
              try simp only [Act.put, List.setIfInBounds_toArray, List.set_cons_zero, List.set_cons_succ]
              refine take_at (i := 1) (v := ?vc1) rfl (by kernel_rfl) (by kernel_rfl) (by kernel_rfl) (by rfl) ?hyc1 (by assumption) ?restc1
              case hyc1 => (intro w1 hSw; (try dsimp only at hSw); go_simp; try with_reducible rfl)
              try simp only [Act.put, List.setIfInBounds_toArray, List.set_cons_zero, List.set_cons_succ]
              refine take_at (i := 2) (v := ?vc2) rfl (by kernel_rfl) (by kernel_rfl) (by kernel_rfl) (by rfl) ?hyc2 (by assumption) ?restc2
              case hyc2 => (intro w1 hSw; (try dsimp only at hSw); go_simp; try with_reducible rfl)
              try simp only [Act.put, List.setIfInBounds_toArray, List.set_cons_zero, List.set_cons_succ]
              refine take_at (i := 3) (v := ?vc3) rfl (by kernel_rfl) (by kernel_rfl) (by kernel_rfl) (by rfl) ?hyc3 (by assumption) ?restc3
              case hyc3 => (intro w1 hSw; (try dsimp only at hSw); go_simp; try with_reducible rfl)
              try simp only [Act.put, List.setIfInBounds_toArray, List.set_cons_zero, List.set_cons_succ]
              refine take_at (i := 4) (v := ?vc4) rfl (by kernel_rfl) (by kernel_rfl) (by kernel_rfl) (by rfl) ?hyc4 (by assumption) ?restc4
              case hyc4 => (intro w1 hSw; (try dsimp only at hSw); go_simp; try with_reducible rfl)
              try simp only [Act.put, List.setIfInBounds_toArray, List.set_cons_zero, List.set_cons_succ]
              refine take_at (i := 5) (v := ?vc5) rfl (by kernel_rfl) (by kernel_rfl) (by kernel_rfl) (by rfl) ?hyc5 (by assumption) ?restc5
              case hyc5 => (intro w1 hSw; (try dsimp only at hSw); go_simp; try with_reducible rfl)
              try simp only [Act.put, List.setIfInBounds_toArray, List.set_cons_zero, List.set_cons_succ]
              refine take_at (i := 6) (v := ?vc6) rfl (by kernel_rfl) (by kernel_rfl) (by kernel_rfl) (by rfl) ?hyc6 (by assumption) ?restc6
              case hyc6 => (intro w1 hSw; (try dsimp only at hSw); go_simp; try with_reducible rfl)
              try simp only [Act.put, List.setIfInBounds_toArray, List.set_cons_zero, List.set_cons_succ]
              refine take_at (i := 7) (v := ?vc7) rfl (by kernel_rfl) (by kernel_rfl) (by kernel_rfl) (by rfl) ?hyc7 (by assumption) ?restc7
              case hyc7 => (intro w1 hSw; (try dsimp only at hSw); go_simp; try with_reducible rfl)
              try simp only [Act.put, List.setIfInBounds_toArray, List.set_cons_zero, List.set_cons_succ]
              refine take_at (i := 8) (v := ?vc8) rfl (by kernel_rfl) (by kernel_rfl) (by kernel_rfl) (by rfl) ?hyc8 (by assumption) ?restc8
              case hyc8 => (intro w1 hSw; (try dsimp only at hSw); go_simp; try with_reducible rfl)
              try simp only [Act.put, List.setIfInBounds_toArray, List.set_cons_zero, List.set_cons_succ]
              refine take_at (i := 9) (v := ?vc9) rfl (by kernel_rfl) (by kernel_rfl) (by kernel_rfl) (by rfl) ?hyc9 (by assumption) ?restc9
              case hyc9 => (intro w1 hSw; (try dsimp only at hSw); go_simp; try with_reducible rfl)
              try simp only [Act.put, List.setIfInBounds_toArray, List.set_cons_zero, List.set_cons_succ]
              refine take_at (i := 11) (v := ?vc11) rfl (by kernel_rfl) (by kernel_rfl) (by kernel_rfl) (by rfl) ?hyc11 (by assumption) ?restc11
              case hyc11 => (intro w1 hSw; (try dsimp only at hSw); go_simp; try with_reducible rfl)
              try simp only [Act.put, List.setIfInBounds_toArray, List.set_cons_zero, List.set_cons_succ]
              refine take_at (i := 13) (v := ?vc13) rfl (by kernel_rfl) (by kernel_rfl) (by kernel_rfl) (by rfl) ?hyc13 (by assumption) ?restc13
              case hyc13 => (intro w1 hSw; (try dsimp only at hSw); go_simp; try with_reducible rfl)
              try simp only [Act.put, List.setIfInBounds_toArray, List.set_cons_zero, List.set_cons_succ]
              refine take_at (i := 14) (v := ?vc14) rfl (by kernel_rfl) (by kernel_rfl) (by kernel_rfl) (by rfl) ?hyc14 (by assumption) ?restc14
              case hyc14 => (intro w1 hSw; (try dsimp only at hSw); go_simp; try with_reducible rfl)
              try simp only [Act.put, List.setIfInBounds_toArray, List.set_cons_zero, List.set_cons_succ]
              refine take_at (i := 15) (v := ?vc15) rfl (by kernel_rfl) (by kernel_rfl) (by kernel_rfl) (by rfl) ?hyc15 (by assumption) ?restc15
              case hyc15 => (intro w1 hSw; (try dsimp only at hSw); go_simp; try with_reducible rfl)
              try simp only [Act.put, List.setIfInBounds_toArray, List.set_cons_zero, List.set_cons_succ]
              refine take_at (i := 16) (v := ?vc16) rfl (by kernel_rfl) (by kernel_rfl) (by kernel_rfl) (by rfl) ?hyc16 (by assumption) ?restc16
              case hyc16 => (intro w1 hSw; (try dsimp only at hSw); go_simp; try with_reducible rfl)
              try simp only [Act.put, List.setIfInBounds_toArray, List.set_cons_zero, List.set_cons_succ]
              refine step_at (i := 10) rfl (by kernel_rfl) (by rfl) (fun K14 hK => ?_)
              go_simp
              refine hK.out _ _ hHeld4 (fun hHeld5 => ?_)
              try simp only [Act.put, List.setIfInBounds_toArray, List.set_cons_zero, List.set_cons_succ]
              refine take_at (i := 12) (v := ?vc12) rfl (by kernel_rfl) (by kernel_rfl) (by kernel_rfl) (by rfl) ?hyc12 (by assumption) ?restc12
              case hyc12 => (intro w1 hSw; (try dsimp only at hSw); go_simp; try with_reducible rfl)
              try simp only [Act.put, List.setIfInBounds_toArray, List.set_cons_zero, List.set_cons_succ]
              refine take_at (i := 17) (v := ?vc17) rfl (by kernel_rfl) (by kernel_rfl) (by kernel_rfl) (by rfl) ?hyc17 (by assumption) ?restc17
              case hyc17 => (intro w1 hSw; (try dsimp only at hSw); go_simp; try with_reducible rfl)
              try simp only [Act.put, List.setIfInBounds_toArray, List.set_cons_zero, List.set_cons_succ]
              refine take_at (i := 18) (v := ?vc18) rfl (by kernel_rfl) (by kernel_rfl) (by kernel_rfl) (by rfl) ?hyc18 (by assumption) ?restc18
              case hyc18 => (intro w1 hSw; (try dsimp only at hSw); go_simp; try with_reducible rfl)
              try simp only [Act.put, List.setIfInBounds_toArray, List.set_cons_zero, List.set_cons_succ]
              refine take_at (i := 19) (v := ?vc19) rfl (by kernel_rfl) (by kernel_rfl) (by kernel_rfl) (by rfl) ?hyc19 (by assumption) ?restc19
              case hyc19 => (intro w1 hSw; (try dsimp only at hSw); go_simp; try with_reducible rfl)
              try simp only [Act.put, List.setIfInBounds_toArray, List.set_cons_zero, List.set_cons_succ]
              refine take_at (i := 20) (v := ?vc20) rfl (by kernel_rfl) (by kernel_rfl) (by kernel_rfl) (by rfl) ?hyc20 (by assumption) ?restc20
              case hyc20 => (intro w1 hSw; (try dsimp only at hSw); go_simp; try with_reducible rfl)
              try simp only [Act.put, List.setIfInBounds_toArray, List.set_cons_zero, List.set_cons_succ]
              refine step_at (i := 21) rfl (by kernel_rfl) (by rfl) (fun K15 hK2 => ?_)
              go_simp
              have fsu : ∀ u, Fr (fun i => i = w3.heap.size + 1) W5 (W5.drew.setCell ⟨w3.heap.size + 1, 0, none⟩ u) := fun u => ((Fr.refl (fun i => i = w3.heap.size + 1) W5).drew).setAt rfl 0 u
              refine hK2.out _ _ ⟨(fsu _).cell (p := ⟨w2.heap.size, 0, none⟩) (fun h => by have h : w2.heap.size = w3.heap.size + 1 := h; omega) c85, (fsu _).cell (p := ⟨T, 1600, none⟩) (fun h => by have h : T = w3.heap.size + 1 := h; omega) cS5, (fsu _).cell (p := ⟨T, 1536 + j, none⟩) (fun h => by have h : T = w3.heap.size + 1 := h; omega) cp5, (fsu _).cell (p := ⟨w.heap.size, 0, none⟩) (fun h => by have h : w.heap.size = w3.heap.size + 1 := h; omega) csh5, (fsu _).cell (p := ⟨b, off + j, none⟩) (fun h => by have h : b = w3.heap.size + 1 := h; omega) hcf5, (fsu _).cell (p := ⟨pb, po + i, none⟩) (fun h => by have h : pb = w3.heap.size + 1 := h; omega) cpi⟩ (fun hHeld6 => wpAnyH_done (by kernel_rfl) ⟨rfl, ?_⟩ _)
              clear hK hK2 hHeld4 hHeld5 hHeld6
              gi_wp2
              have nst : Rw (w3.heap.size + 1) := by rw [hRw]; omega
              have hfW6 : ∀ u, Fr (fun i => (i = w2.heap.size + 1 ∨ g = some i) ∨ i = w3.heap.size + 1) W (W5.drew.setCell ⟨w3.heap.size + 1, 0, none⟩ u) := fun u => (hfr5'.mono (fun i _ h => .inl h)).trans (fsu u) (fun i _ h => .inr h)
              have hRall : ∀ i, ((i = w2.heap.size + 1 ∨ g = some i) ∨ i = w3.heap.size + 1) → Rw i := fun i h => by
                rcases h with (h | h) | h
                · rw [h, hRw]; simp at hz3; omega
                · exact (HG.out _ h).1
                · rw [h]; exact nst
              have hstl : w3.heap.size + 1 < W.heap.size := (Array.getElem?_eq_some_iff.1 hst).1
              have hW4 := FR.out.size
              have hg5' : ∀ k, g5 = some k → Rw k ∧ k ≠ w3.heap.size + 1 := fun k' hk' => by
                rcases hg5 with h | ⟨q, h, hq⟩
                · exact HG.out k' (by rw [← h]; exact hk')
                · rw [h] at hk'
                  cases hk'
                  have hq' : W.heap.size ≤ k' := hq
                  rw [hRw]
                  omega
              refine ⟨keepsFrom_fr (hfW6 _) (fun i h o ho => ?_), (hfW6 _).mono (fun i _ h => hRall i h), g5, (S : Int) + pv, row ++ bitsOf k (y % 2 ^ k), ?_, by omega, ?_, ?_, ?_, HWR5.out.fr (fsu _) (fun h => by have h : w2.heap.size + 1 = w3.heap.size + 1 := h; omega) (fun q hq h => (hg5' q hq).2 h), hg5', HF5.trans (fsu _) (fun i _ h => by rw [h]; exact nst)⟩
              · rcases h with h | h
                · exact HWR.out.isCells i h o ho
                · rw [h, hst] at ho; cases ho; rfl
              · show _ = _
                rw [List.map_append, List.foldl_append, HE.out]
                simp only [List.map_cons, List.map_nil, List.foldl_cons, List.foldl_nil]
                rw [hj2']
                unfold encStep
                simp only [Int.toNat_natCast]
                rw [← HF.out, ← HN1.out, HI.out, Int.toNat_natCast, ← HPV.out]
              · have := HS32.out; omega
              · rw [List.length_append, List.length_append, bitsOf_length, List.length_singleton]; omega
              · have h9 : (W5.setCell ⟨w3.heap.size + 1, 0, none⟩ (.int .i64 ((S : Int) + pv))).heap[w3.heap.size + 1]? = some (.cells #[.int .i64 ((S : Int) + pv)] 3 (0, 0)) := by have := heap_set hst5 0 (.int .i64 ((S : Int) + pv)); simpa using this
                exact h9
        case hkb =>
          intro W l o o' hl ho _ _
          exact (Fr.refl Rw W).grown (grownBy_putObj' W l o') (fun k e _ => by cases e; rw [hRw]; omega)
        case hown =>
          intro pre W W' rw' hs hgw hr
          obtain ⟨g, y, row, HE, hy1, hy2, hrl, hst, hwr, hg, hfr⟩ := hs
          have hf : Fr (fun k => rw' = some k) W W' := (Fr.refl _ W).grown hgw (fun k e _ => e)
          have hno : ∀ k o, W.heap[k]? = some o → o.isCells = true → ¬ rw' = some k := fun k o ho hc e => by
            obtain ⟨_, o', ho', hc'⟩ := hr k e
            rw [ho] at ho'
            cases ho'
            rw [hc] at hc'
            cases hc'
          refine ⟨g, y, row, HE, hy1, hy2, hrl, hf.heap (hno _ _ hst rfl) hst, hwr.fr hf (fun e => ?_) (fun k hk e => ?_), hg, hfr.trans hf (fun i hi e => ?_)⟩
          · obtain ⟨o, ho⟩ : ∃ o, W.heap[w2.heap.size + 1]? = some o := ⟨_, Array.getElem?_eq_getElem hwr.lt.1⟩
            exact hno _ o ho (hwr.isCells _ (.inl rfl) o ho) e
          · obtain ⟨o, ho⟩ : ∃ o, W.heap[k]? = some o := ⟨_, Array.getElem?_eq_getElem (hwr.lt.2 k hk)⟩
            exact hno _ o ho (hwr.isCells _ (.inr hk) o ho) e
          · have := (hr i e).1; omega
        case hstart =>
          have hw0 := HWR.out.keeps k4
          rw [World.size_alloc] at hw0
          exact ⟨none, S, [], rfl, by omega, by have := HS32.out; omega, by simp, cs4, hw0, (fun k h => by cases h), Fr.refl _ _⟩
        case done =>
          rintro D ys W hD hdn ⟨g, y, row, HE, hy1, hy2, hrl, hst, hwr, hg, hfr⟩ hK
          have hts := cell_of_row W _ 0 _ _ (0, 0) hst
          simp at hts
          have hb := hfr.cell (p := ⟨w3.heap.size, 0, none⟩) (by rw [hRw]; exact fun h => h.2.1 rfl) cb4
          have c8W := hfr.cell (p := ⟨w2.heap.size, 0, none⟩) (nRw w2.heap.size (by omega)) (k4.cell (fun h => h) c8)
          have cSW := (((HTAB.out.keeps K3.out).keeps k4).fr hfr (fun i h => by rw [hRw] at h; omega)).size
          have n9 : ¬ (w3.heap.size = w2.heap.size + 1 ∨ g = some w3.heap.size) := fun h => by
            rcases h with h | h
            · have := hz3; simp at this; omega
            · have := (hg _ h).1; rw [hRw] at this; exact this.2.1 rfl
          have hlen : ys.length = N := hdn.length
          have hrow := dn_reverse HN.out hdn
          obtain ⟨lg, rfl⟩ : ∃ lg : Nat, log = (lg : Int) := ⟨log.toNat, by have := HM.out.1; omega⟩
          have hlg : lg ≤ 9 := by have := HM.out.2.1; omega
          have HSL : Hid (S = 2 ^ lg) := by show _ = _; rw [HS.out, Int.toNat_natCast]
          have hyS : 0 ≤ y - (S : Int) ∧ y - (S : Int) < 2 ^ lg := by
            have h5 : (S : Int) = 2 ^ lg := by rw [HSL.out]; simp
            omega
          have hwy : IntKind.i64.wrap (y - (S : Int)) = y - (S : Int) := wraps_i64 _ (by omega) (by have := HS32.out; omega)
          have HEND : Hid (pack (encRow lg zs ls ++ [1]) = pack (row ++ bitsOf lg (y - (S : Int)) ++ [1])) := by
            show _ = _
            have h5 : (S : Int) = 2 ^ lg := by rw [HSL.out]; simp
            have h6 : encAll (2 ^ lg) zs ls = (y, row) := by
              unfold encAll
              rw [← hrow, ← HSL.out]
              exact HE.out
            unfold encRow
            rw [h6, h5]
          have HWR2 := Lib.hid hwr
          have HKD := Lib.hid hK
          have FRW := Lib.hid hfr
          have m10 : ¬ (w3.heap.size + 1 = w2.heap.size + 1 ∨ g = some (w3.heap.size + 1)) := fun h => by
            rcases h with h | h
            · omega
            · exact (hg _ h).2 rfl
          have m8 : ¬ (w2.heap.size = w2.heap.size + 1 ∨ g = some w2.heap.size) := fun h => by
            rcases h with h | h
            · omega
            · exact nRw _ (Nat.le_refl _) (hg _ h).1
          have mT : ¬ (T = w2.heap.size + 1 ∨ g = some T) := fun h => by
            have := HTAB.out.lt
            rcases h with h | h
            · omega
            · exact nRw _ (by omega) (hg _ h).1
          have HG2 := Lib.hid hg
          have HMS := Lib.hid (⟨n9, m10, m8, mT⟩ : _ ∧ _ ∧ _ ∧ _)
          have hrl2 : row.length ≤ 1000000 := by omega
          clear hwr hK hfr hdn hrow HE n9 m10 m8 mT hg hrl hst
          go_wp2_with fail
          go_region_held3 (fun w' => w'.cell? ⟨w3.heap.size, 0, none⟩ = some (.pointer (some ⟨w2.heap.size + 1, 0, none⟩)) ∧ w'.cell? ⟨w3.heap.size + 1, 0, none⟩ = some (.int .i64 y) ∧ w'.cell? ⟨w2.heap.size, 0, none⟩ = some (.pointer (some ⟨T, 0, none⟩)) ∧ w'.cell? ⟨T, 1600, none⟩ = some (.int .i64 (S : Int)))
            (first | exact ⟨hb, hts, c8W, cSW⟩ | exact ⟨e1, e2, e3, e4⟩ | go_keep)
            (first
            | (go_at_call 32; refine (writerPut (n := lg) (HWR2.out.keeps (by repeat (first | exact Fr.refl _ _ | apply Fr.drew | apply Fr.drewN))) (by omega) (by omega) hyS.1 hyS.2).mono ?_; rintro e5 W5 ⟨g5, rfl, hwr5, hfr5, hg5⟩; have e1 := hfr5.cell (p := ⟨w3.heap.size, 0, none⟩) HMS.out.1 hb; have e2 := hfr5.cell (p := ⟨w3.heap.size + 1, 0, none⟩) HMS.out.2.1 hts; have e3 := hfr5.cell (p := ⟨w2.heap.size, 0, none⟩) HMS.out.2.2.1 c8W; have e4 := hfr5.cell (p := ⟨T, 1600, none⟩) HMS.out.2.2.2 cSW))
          have hfrW : Fr (fun i => i = w2.heap.size + 1 ∨ g = some i) W W5 := Fr.trans (S := fun i => i = w2.heap.size + 1 ∨ g = some i) (by repeat (first | exact Fr.refl _ _ | apply Fr.drew | apply Fr.drewN)) hfr5 (fun _ _ h => h)
          have hD5 : W5.heap[D]? = some (.deferred (some [])) := hfrW.heap (fun h => by have := HWR2.out.isCells D h _ HKD.out; cases this) HKD.out
          have HD5 := Lib.hid hD5
          have HWR5 := Lib.hid hwr5
          have HFW := Lib.hid hfrW
          clear hD5 hwr5 hfrW hfr5 hg5
          go_wp2_with fail
          refine (writerMarked HWR5.out (by rw [List.length_append, bitsOf_length]; omega)).mono ?_
          rintro e6 W6 ⟨x, rfl, hox, k6⟩
          have HOX := Lib.hid hox
          have HK6 := Lib.hid k6
          have HD6 := Lib.hid (HK6.out.heap (fun h => h) HD5.out)
          obtain ⟨xa, xc, rfl⟩ := hox.form
          obtain ⟨xl, hxl⟩ : ∃ xl, xl = (pack (row ++ bitsOf lg (y - (S : Int)) ++ [1])).length := ⟨_, rfl⟩
          rw [← hxl] at HOX ⊢
          clear hox k6 hxl
          go_wp2_with fail
          refine ⟨by simp, .inl ⟨_, _, rfl, run_takeDeferred HD6.out, ?_⟩⟩
          have hDl : D < W5.heap.size := (Array.getElem?_eq_some_iff.1 HD5.out).1
          have f7 : ∀ o, Fr (fun k => k = D) W6 (W6.putObj D o) := fun o => (Fr.refl _ W6).grown (grownBy_putObj' W6 D o) (fun k e _ => by cases e; rfl)
          refine ⟨_, results_tmp2 rfl _ _ _, ?_⟩
          have hkeep : ∀ o, Keeps w (W6.putObj D o) := fun o => by
            have g1 : Keeps w w4 := K2.out.keeps (K3.out.keeps k4)
            have g2 : Keeps w W := g1.trans FRW.out (fun i hi h => nRw i (by omega) h)
            have g3 : Keeps w W5 := g2.trans HFW.out (fun i hi h => by
              rcases h with h | h
              · omega
              · exact nRw i (by omega) (HG2.out i h).1)
            exact (g3.keeps HK6.out).trans (f7 o) (fun i hi h => by have h : i = D := h; omega)
          refine ⟨_, by rw [e.out]; rfl, ?_, hkeep _⟩
          rw [e.out]
          have h8 := (HOX.out.fr (f7 (.deferred none)) (fun b hb h => by have h : b = D := h; have := (HOX.out.lt b hb).1; omega)).mono (B' := w.heap.size) (by have := (hkeep (.deferred none)).size; simp at this; have := FRW.out.size; have := HFW.out.size; have := k4.size; have := K3.out.size; omega)
          rw [show (pack (encRow (lg : Int).toNat zs ls ++ [1]), (0 : Int)).1 = pack (row ++ bitsOf lg (y - (S : Int)) ++ [1]) from HEND.out]
          exact h8
        case stop =>
          rintro D c pre W _ _ h _
          exact h.elim
end Go.Proofs.Ytjdpijjoblfoaaa
