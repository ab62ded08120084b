/- huff's tree: the lengths by one tree. -/
import Derived.Test.YtbbljpkboojjhaaTreeQ
import Derived.Deep.CutRange
import Derived.Deep.LoopGhost
import Derived.Deep.RegionWith
import Derived.Deep.OwnRows
import Derived.BigQuiet
namespace Go.Proofs.Ytbbljpkboojjhaa
open Go.RowKit

theorem infoInt : (Try.prog.info? 3).map (fun i => (i.zero, i.size, i.bytes)) = some (some (.int .i64 0), 1, 8) := by kernel_rfl
theorem own_made {k : IntKind} {E : TypeId} {w : World} {N : Nat} (hN : N ≤ 1000000000) (hz : (Lit.int k 0).wf = true) : Own k E w.heap.size (w.alloc (.cells (madeCells #[.int k 0] N) E)) (.slice (some ⟨w.heap.size, 0, none⟩) N N) (List.replicate N 0) := by
  refine ⟨fun z hz' => by rw [List.eq_of_mem_replicate hz']; exact hz, by simp, .inr ⟨w.heap.size, N, madeCells #[.int k 0] N, by simp, Nat.le_refl _, heap_alloc_new w _, by simp, by unfold maxLen; omega, by simp [madeCells], ?_⟩⟩
  simp only [List.length_replicate, Nat.mul_one]
  apply List.ext_getElem?
  intro i
  by_cases hi : i < N
  · simp [madeCells, hi, Nat.mod_one]
  · simp [madeCells, hi]

/-- the things of the first k counts may be -/
theorem leafS_ok {cs : List Int} (hb : ∀ i, i < cs.length → 0 ≤ cs.getD i 0 ∧ cs.getD i 0 ≤ 4294967296) : ∀ k, k ≤ cs.length → ∃ W, TkOk (leafS cs k) ((leafS cs k).length : Int) cs.length (leafS cs k).length W ∧ 0 ≤ W ∧ W ≤ 4294967296 * (k : Int) ∧ ∀ t ∈ leafS cs k, t.ps.length = 1 ∧ t.ps.getD 0 0 < (k : Int)
  | 0, _ => ⟨0, ⟨by simp [leafS], by simp [leafS], by simp [leafS], rfl, rfl, by simp [leafS, cntL]⟩, by omega, by omega, by simp [leafS]⟩
  | k + 1, hk => by
    obtain ⟨W, h, h0, h1, h2⟩ := leafS_ok hb k (by omega)
    have hc := hb k (by omega)
    simp only [leafS]
    by_cases hp : 0 < cs.getD k 0
    · rw [if_pos hp]
      refine ⟨W + cs.getD k 0, ⟨fun t ht => ?_, fun t ht => ?_, fun t ht => ?_, ?_, ?_, fun s => ?_⟩, by omega, by omega, fun t ht => ?_⟩
      · rcases List.mem_append.1 ht with ht | ht
        · exact h.wt t ht
        · simp at ht; subst ht; exact hp
      · rcases List.mem_append.1 ht with ht | ht
        · have := h.nr t ht
          simp only [List.length_append, List.length_singleton]
          omega
        · simp at ht; subst ht
          simp only [List.length_append, List.length_singleton]
          omega
      · rcases List.mem_append.1 ht with ht | ht
        · exact h.ps t ht
        · simp at ht; subst ht
          refine ⟨by simp, fun p hp => ?_⟩
          simp at hp
          omega
      · have := h.bytes
        simp only [List.map_append, List.sum_append, List.map_cons, List.map_nil, List.sum_cons, List.sum_nil, List.length_append, List.length_singleton]
        omega
      · have := h.weight
        simp only [List.map_append, List.sum_append, List.map_cons, List.map_nil, List.sum_cons, List.sum_nil]
        omega
      · have g1 := h.once s
        simp only [List.map_append, cntL_append, List.map_cons, List.map_nil, cntL_cons]
        by_cases e : ((leafS cs k).length : Int) = s
        · have : cntL ((leafS cs k).map fun t => t.nr) s = 0 := by
            rcases Nat.eq_zero_or_pos (cntL ((leafS cs k).map fun t => t.nr) s) with h' | h'
            · exact h'
            · obtain ⟨t, ht, e'⟩ := List.mem_map.1 (cntL_pos.1 h')
              have := h.nr t ht
              have e' : t.nr = s := e'
              omega
          rw [this]
          simp [cntL, e]
        · rw [if_neg e]
          simp only [cntL, List.filter_nil, List.length_nil]
          exact g1
      · rcases List.mem_append.1 ht with ht | ht
        · have := h2 t ht; omega
        · simp at ht; subst ht
          simp; omega
    · rw [if_neg hp]
      exact ⟨W, h, h0, by omega, fun t ht => by have := h2 t ht; omega⟩

theorem push_here {D : Int → Th} {w w5 : World} {b off : Nat} {v v5 : Value} {q' : List Int} (H5 : OwnT D 0 w5 v5 q') (F5 : Fr (fun j => v.ownBlock = some j) w w5) (A5 : v5.ownBlock = v.ownBlock ∨ v5.ownBlock = some (w.heap.size + 1)) (HB : v.ownBlock ≠ some b) (hbl : b < w.heap.size) :
    ThAt D w (w5.setCell ⟨b, off, none⟩ v5) b off v v5 q' := by
  have hb5 : v5.ownBlock ≠ some b := fun h => by
    rcases A5 with h5 | h5
    · exact HB (h5.symm.trans h)
    · rw [h5] at h
      injection h
      omega
  refine ⟨H5.fr ((Fr.refl (fun k => k = b) w5).setAt rfl off _) (fun k hk h => hb5 (by rw [hk]; exact congrArg some h)), fun cs E h => heap_set (F5.heap (fun h => HB h) h) off _, ?_, ?_⟩
  · exact (((Fr.refl (fun k => k = b ∨ v.ownBlock = some k) w).trans F5 (fun i _ h => .inr h)).setAt (.inl rfl) off _)
  · rcases A5 with h5 | h5
    · exact .inl h5
    · refine .inr fun k hk => ?_
      rw [h5] at hk
      injection hk
      omega

def zeroAt (w : World) (g : Nat) : Prop := w.cell? ⟨g, 0, none⟩ = some (.int .i64 0) ∧ w.cell? ⟨g, 1, none⟩ = some (.int .i64 0) ∧ w.cell? ⟨g, 2, none⟩ = some (.slice none 0 0) ∧
  w.frozen? ⟨g, 0, none⟩ = false ∧ w.frozen? ⟨g, 1, none⟩ = false ∧ w.frozen? ⟨g, 2, none⟩ = false
theorem TkOk.sum_nonneg {l : List Tk} (h : ∀ t ∈ l, 0 < t.wt) : 0 ≤ (l.map fun t => t.wt).sum := by
  induction l with
  | nil => simp
  | cons x l ih =>
    have := h x (by simp)
    have := ih (fun t ht => h t (by simp [ht]))
    simp; omega
theorem zeroFr {S : Nat → Prop} {w w' : World} (f : Fr S w w') (g : Nat) (hs : ¬ S g) (hg : g < w.heap.size) (h : zeroAt w g) : zeroAt w' g := by
  obtain ⟨h0, h1, h2, h3, h4, h5⟩ := h
  exact ⟨f.cell hs h0, f.cell hs h1, f.cell hs h2, (f.frozen (p := ⟨g, 0, none⟩) hs hg).trans h3, (f.frozen (p := ⟨g, 1, none⟩) hs hg).trans h4, (f.frozen (p := ⟨g, 2, none⟩) hs hg).trans h5⟩

theorem zeroFrK {S : Nat → Prop} {w w' : World} {G : Prop} (f : Fr S w w') (g : Nat) (hs : ¬ S g) (hg : g < w.heap.size) (h : zeroAt w g) (k : zeroAt w' g → g < w'.heap.size → G) : G := k (zeroFr f g hs hg h) (Nat.lt_of_lt_of_le hg f.size)

theorem frSet1 {C ob : Nat} {a w : World} {b : Nat} (hb : C ≤ b) (h : Fr (fun k => C ≤ k ∨ k = ob) a w) (i : Nat) (u : Value) : Fr (fun k => C ≤ k ∨ k = ob) a (w.setCell ⟨b, i, none⟩ u) := h.setAt (.inl hb) i u
theorem frSet2 {S : Nat → Prop} {wr w : World} {b : Nat} (hb : wr.heap.size ≤ b) (h : Fr S wr w) (i : Nat) (u : Value) : Fr S wr (w.setCell ⟨b, i, none⟩ u) := h.setCell (p := ⟨b, i, none⟩) (fun h => by have h : b < wr.heap.size := h; omega) u

set_option maxRecDepth 100000 in
set_option maxHeartbeats 40000000 in
theorem huffTree {v : Value} {cs : List Int} {w : World} (h : Ints .i64 w v cs) (hl : cs.length ≤ 256) (hb : ∀ i, i < cs.length → 0 ≤ cs.getD i 0 ∧ cs.getD i 0 ≤ 4294967296) :
    Calls Try.prog 21 #[v] w fun e w' => ∃ x, e = .returned x ∧ Own .i64 3 w.heap.size w' x (treeS cs) ∧ Keeps w w' := by
  have HV := Lib.hid h
  obtain ⟨_, a, cap, rfl, hcap, hmax, _, hc⟩ := h
  have HC := Lib.hid hc
  obtain ⟨N, hN⟩ : ∃ N, N = cs.length := ⟨_, rfl⟩
  have HLO := Lib.hid (fun (k : Nat) (hk : k ≤ N) => leafS_ok hb k (by rw [← hN]; exact hk))
  rw [← hN] at hcap HC HV HLO hl ⊢
  have HN := Lib.hid hN
  have HB := Lib.hid hb
  unfold maxLen at hmax
  have hmk := run_make_row' (P := Try.prog) 22 3 (.int .i64 0) 8 Try.underlying22 infoInt rfl .i64 .i64 N (by omega) (by omega)
  have HOM : Hid (Own .i64 3 w.heap.size (w.alloc (.cells (madeCells #[.int .i64 0] N) 3)) (.slice (some ⟨w.heap.size, 0, none⟩) N N) (List.replicate N 0)) := own_made (by omega) (by decide)
  clear hc hN hb
  go_enter Try.func21, Try.ntmps21
  go_wp2_with fail
  clear hmk
  obtain ⟨w0, hw0⟩ : ∃ w0, w0 = (w.alloc (.cells (madeCells #[.int .i64 0] N) 3)).alloc (.cells #[.slice none 0 0] 61) := ⟨_, rfl⟩
  rw [← hw0]
  obtain ⟨hb, hhb⟩ : ∃ hb, hb = w.heap.size + 1 := ⟨_, rfl⟩
  rw [← hhb]
  obtain ⟨ob, hob⟩ : ∃ ob, ob = w.heap.size := ⟨_, rfl⟩
  rw [← hob] at HOM ⊢
  have HG : Hid (hb = ob + 1 ∧ ob = w.heap.size ∧ w0.heap.size = ob + 2) := by
    refine ⟨by omega, hob, ?_⟩
    rw [hw0]; simp; omega
  have K0 : Hid (Keeps w w0) := by show Fr _ _ _; rw [hw0]; exact ((Fr.refl _ _).alloc _).alloc _
  have HOM0 : Hid (Own .i64 3 ob w0 (.slice (some ⟨ob, 0, none⟩) N N) (List.replicate N 0)) := by show Own _ _ _ _ _ _; rw [hw0]; exact HOM.out.keeps ((Fr.refl _ _).alloc _)
  have HR0 : Hid (Rel w0 ob hb ob (fun _ => ⟨0, none, 0, 0⟩) (.slice none 0 0) [] (leafS cs 0)) := by
    refine ⟨?_, OwnT.nil _ _ _, by simp [Value.ownBlock], by simp [Value.ownBlock], by simp [Value.ownBlock], rfl, SameN.refl _, by simp [leafS]⟩
    have h1 : hb = (w.alloc (.cells (madeCells #[.int .i64 0] N) 3)).heap.size := by simp; omega
    rw [hw0, h1]
    exact heap_alloc_new _ _
  clear hw0 hhb hob
  go_loopw [18] (fun iv wr => ∃ (k : Nat) (D : Int → Th) (v : Value) (q : List Int), k ≤ N ∧ iv = .int .i64 k ∧ Rel wr ob hb ob D v q (leafS cs k) ∧ Own .i64 3 ob wr (.slice (some ⟨ob, 0, none⟩) N N) (List.replicate N 0) ∧ Keeps w wr ∧ w0.heap.size ≤ wr.heap.size) (fun iv _ => N - (intOf iv).toNat)
  case atStart => exact ⟨0, _, _, _, by omega, rfl, HR0.out, HOM0.out, K0.out, Nat.le_refl _⟩
  case round =>
    obtain ⟨k, D, v, q, hk, rfl, hrel, hown, hkp, hsz⟩ := hrel
    have HR := Lib.hid hrel
    have HO := Lib.hid hown
    have HK := Lib.hid hkp
    have chd := cell_of_row wr hb 0 _ _ (0, 0) hrel.head
    have fhd := frozen_no hrel.head 0
    simp at chd
    obtain ⟨va, vc, hv⟩ := hrel.own.form
    obtain ⟨L, hL⟩ : ∃ L, L = q.length := ⟨_, rfl⟩
    rw [← hL] at hv
    subst hv
    have HL := Lib.hid hL
    have hLl : Hid (L = (leafS cs k).length) := by show _ = _; rw [hL]; exact hrel.len
    have hL256 : L ≤ 256 := by have := leafS_le cs k; have := hLl.out; omega
    clear hrel hown hkp hL
    by_cases hlt : k < N
    case pos =>
      obtain ⟨b, off, hab, ck⟩ := HC.out k hlt
      subst hab
      have ck := HK.out.cell (fun h => h) ck
      have hzb := HB.out k (by rw [← HN.out]; exact hlt)
      obtain ⟨z, hz⟩ : ∃ z, z = cs.getD k 0 := ⟨_, rfl⟩
      rw [← hz] at ck hzb
      have HZ := Lib.hid hz
      have ti1 : (0 : Int) ≤ (k : Int) := by omega
      have ti2 : (k : Int) < (N : Int) := by omega
      clear hz
      by_cases hz0 : 0 < z
      case neg =>
        have td : decide (0 < z) = false := decide_eq_false hz0
        have HLS : Hid (leafS cs (k + 1) = leafS cs k) := by show _ = _; simp only [leafS]; rw [← HZ.out, if_neg hz0]
        go_wp2_with fail
        go_roundw
        all_goals go_light
        case rel => exact ⟨k + 1, D, _, q, by omega, by go_num, by rw [HLS.out]; exact HR.out, HO.out, HK.out, hsz⟩
        case measure => simp [intOf]; omega
      case pos =>
        have td : decide (0 < z) = true := decide_eq_true hz0
        have HLS : Hid (leafS cs (k + 1) = leafS cs k ++ [⟨z, (L : Int), [(k : Int)]⟩]) := by show _ = _; simp only [leafS]; rw [← HZ.out, if_pos hz0, hLl.out]
        obtain ⟨W, hok, _, _, _⟩ := HLO.out k hk
        rw [← hLl.out] at hok
        have HOK := Lib.hid hok
        have hkw : (Lit.int .i64 (k : Int)).wf = true := by simp [Lit.wf, IntKind.min, IntKind.max, IntKind.signed, IntKind.bits]; omega
        have HKW := Lib.hid hkw
        have HR1 := Lib.hid ((HR.out.told_new hok ⟨z, some ⟨wr.heap.size, 0, none⟩, 1, 1⟩).1.keeps ((Fr.refl _ _).alloc (.cells #[.int .i64 (k : Int)] 3)))
        have hbl : hb < wr.heap.size := by have := HG.out; omega
        have HNE : Hid ((Value.slice va L vc).ownBlock ≠ some hb) := HR.out.ne
        clear hok hkw
        go_wp2_with (at_builtin; go_loud (refine wpList_thing (w := wr.alloc (.cells #[.int .i64 (k : Int)] 3)) (D := updT D (L : Int) ⟨z, some ⟨wr.heap.size, 0, none⟩, 1, 1⟩) (n := (L : Int)) rfl (.tmp 25) (.tmp 32) rfl elemT (.slice va L vc) rfl (by show Value.slice _ _ _ = Value.slice _ _ _; simp) HR1.out.own (by simp [cellsT, updT]) (by rw [← HL.out]; omega) (Nat.zero_le _) ?_); intro v5 w5 hown5 hfr5 hat5; obtain ⟨a5, c5, hv5⟩ := hown5.form; obtain ⟨n5, hn5⟩ : ∃ n5, n5 = (q ++ [(L : Int)]).length := ⟨_, rfl⟩; rw [← hn5] at hv5; subst hv5; have cp5 := hfr5.cell (p := ⟨hb, 0, none⟩) (fun h => HNE.out h) (((Fr.refl (fun _ => False) _).alloc _).cell (fun h => h) chd); have fp5 := (hfr5.frozen (p := ⟨hb, 0, none⟩) (fun h => HNE.out h) (by simp; omega)).trans (((Fr.refl (fun _ => False) wr).alloc _).frozen (fun h => h) hbl |>.trans fhd); have H5 := Lib.hid hown5; have F5 := Lib.hid hfr5; have A5 := Lib.hid hat5; clear hown5 hfr5 hat5 hn5)
        go_roundw
        all_goals go_light
        case rel =>
          have hsz1 : hb < (wr.alloc (.cells #[.int .i64 (k : Int)] 3)).heap.size := by simp; omega
          have HT := push_here (off := 0) H5.out F5.out A5.out HNE.out hsz1
          have hlt := HR.out.own.lt
          have hg := HG.out
          have hrel2 := HR1.out.push (t := ⟨z, (L : Int), [(k : Int)]⟩) HT (by simp) (SameN.refl _) (by simp; omega) (by simp; omega) (by simp [updT]) (by simp only [updT, if_true]; exact ints_one HKW.out) (by
            simp only [updT, if_true]
            intro x hx
            injection hx with hx
            subst hx
            refine ⟨by show wr.heap.size ≠ hb; omega, by show wr.heap.size ≠ ob; omega, fun h => ?_, by simp⟩
            have h2 : wr.heap.size < wr.heap.size := (hlt _ h).2
            omega)
          have F6 : Fr (fun k => k = hb ∨ (Value.slice va L vc).ownBlock = some k) wr (w5.setCell ⟨hb, 0, none⟩ (.slice a5 n5 c5)) := ((Fr.refl _ wr).alloc _).trans HT.fr fun _ _ h => h
          refine ⟨k + 1, _, _, _, by omega, by go_num, by rw [HLS.out]; exact hrel2, HO.out.fr F6 (fun b hb' h => ?_), HK.out.trans F6 (fun i hi h => ?_), Nat.le_trans hsz F6.size⟩
          · injection hb' with hb'
            subst hb'
            rcases h with h | h
            · have h : ob = hb := h
              have := HG.out; omega
            · exact HR.out.nob h
          · rcases h with h | h
            · have := HG.out; omega
            · have := HR.out.low _ h
              have := HG.out
              omega
        case measure => simp [intOf]; omega
    case neg =>
      obtain rfl : k = N := by omega
      obtain ⟨W, hok, hW0, hW1, hps⟩ := HLO.out k hk
      rw [← hLl.out] at hok
      have HOK := Lib.hid hok
      have HW : Hid (0 ≤ W ∧ W ≤ 4294967296 * (k : Int)) := ⟨hW0, hW1⟩
      have HPS := Lib.hid hps
      clear hok hW0 hW1 hps
      by_cases hL1 : L = 1
      case pos =>
        subst hL1
        obtain ⟨t0, ht0⟩ : ∃ t0, t0 = (leafS cs k).getD 0 tk0 := ⟨_, rfl⟩
        have hl1 : (leafS cs k).length = 1 := hLl.out.symm
        have hmem : t0 ∈ leafS cs k := by rw [ht0]; exact getD_tk (by omega)
        have hq1 : q.length = 1 := HL.out.symm
        have hn0 : q.getD 0 0 = t0.nr := by
          obtain ⟨t, ht, e⟩ := List.mem_map.1 (HR.out.same.mem.1 (getD_in (l := q) (i := 0) (by omega)))
          obtain ⟨i, hi, rfl⟩ := List.mem_iff_getElem.1 ht
          obtain rfl : i = 0 := by omega
          rw [ht0, ← e, List.getD_eq_getElem?_getD, List.getElem?_eq_getElem hi]
          rfl
        obtain ⟨g, c, hv, _, c0, c1, c2, f, hc1⟩ := HR.out.own.at (i := 0) (by omega)
        rw [hq1] at hv
        cases hv
        rw [hn0] at c2
        have hk2 := HPS.out t0 hmem
        have hpb := (HOK.out.ps t0 hmem).2
        obtain ⟨_, hti, _⟩ := HR.out.told t0 hmem
        obtain ⟨_, a', cap', hv', _, _, _, hcell⟩ := hti
        rw [hk2.1] at hv' hcell
        obtain ⟨g', o', ha', cp⟩ := hcell 0 (by omega)
        injection hv' with e1 e2 e3
        rw [e1, ha', e2, e3] at c2
        obtain ⟨p, hp⟩ : ∃ p : Nat, t0.ps.getD 0 0 = (p : Int) := ⟨(t0.ps.getD 0 0).toNat, by have := hpb _ (getD_in (l := t0.ps) (i := 0) (by omega)); omega⟩
        rw [hp] at cp hk2
        have hpk : p < k := by omega
        obtain ⟨co, fo⟩ := HO.out.at (i := p) (by simp; exact hpk)
        have HTS : Hid (treeS cs = (List.replicate k 0).set p 1) := by
          show _ = _
          unfold treeS
          simp only [← HN.out]
          rw [if_pos hl1, ← ht0, hp]
          rfl
        have HSET := Lib.hid (HO.out.set p (y := 1) (by decide))
        have tp1 : (0 : Int) ≤ (p : Int) := by omega
        have tp2 : (p : Int) < (k : Int) := by omega
        simp only [Nat.zero_mul, Nat.zero_add, Nat.add_zero] at c2 cp
        clear e1 e2 e3 ha' hcell hpb hk2 hn0 hmem ht0 hl1 hq1 hp hc1 c0 c1 f
        go_wp2_with fail
        go_ret
        go_light
        refine ⟨_, rfl, by rw [HTS.out, ← HG.out.2.1]; exact HSET.out, ((HK.out.trans ((Fr.refl (fun i => i = ob) wr).setAt rfl p _)) (fun i hi h => ?_))⟩
        have := HG.out
        omega
      case neg =>
        have HTS : Hid (treeS cs = treeN L (leafS cs k) (List.replicate k 0) (L : Int)) := by
          show _ = _
          unfold treeS
          simp only [← HN.out]
          rw [if_neg (by rw [← hLl.out]; exact hL1), ← hLl.out]
        have tL1 : ((L : Int) == 1) = false := by simp; omega
        go_wp2_with fail
        refine (initQ (hb := hb) HR.out HOK.out (by omega) (by rw [← hLl.out]; omega)).mono ?_
        rintro e1 w1 ⟨rfl, ⟨q1, hq1⟩, hf1⟩
        have hown1 : Own .i64 3 ob w1 (.slice (some ⟨ob, 0, none⟩) k k) (List.replicate k 0) := HO.out.fr hf1 (fun b hb' h => by injection hb' with hb'; subst hb'; exact HR.out.nob h)
        have hk1 : Keeps w w1 := HK.out.trans hf1 (fun i hi h => by have := HR.out.low _ h; have := HG.out; omega)
        have hs1 := Nat.le_trans hsz hf1.size
        have HQ1 := Lib.hid hq1
        have HO1 := Lib.hid hown1
        have HK1 := Lib.hid hk1
        have HLI : Hid ((leafS cs k).length = L) := hLl.out.symm
        clear hq1 hown1 hk1 hf1 chd fhd
        go_wp2_with fail
        go_loopg [7] L (fun m nv wx => ∃ (nx : Int) (D : Int → Th) (v : Value) (q : List Int) (l : List Tk) (o : List Int), m = l.length ∧ nv = .int .i64 nx ∧ Que wx hb ob D v q l ∧ Own .i64 3 ob wx (.slice (some ⟨ob, 0, none⟩) k k) o ∧ TkOk l nx k L W ∧ nx + (m : Int) = 2 * (L : Int) ∧ (L : Int) ≤ nx ∧ (∀ z ∈ o, 0 ≤ z ∧ z ≤ (nx - (L : Int)) * 256) ∧ o.length = k ∧ treeS cs = treeN m l o nx ∧ Keeps w wx ∧ w0.heap.size ≤ wx.heap.size)
        case atStart => exact ⟨_, _, _, q1, leafS cs k, List.replicate k 0, HLI.out.symm, rfl, HQ1.out, HO1.out, HOK.out, by omega, by omega, fun z hz => by rw [List.eq_of_mem_replicate hz]; omega, by simp, HTS.out, HK1.out, hs1⟩
        case round =>
          obtain ⟨nx, D, v, q, l, o, hm, rfl, hq, ho, hok, hnx, hnL, hob, hol, htn, hkp, hsz1⟩ := hrel
          have chd := cell_of_row wr hb 0 _ _ (0, 0) hq.rel.head
          have fhd := frozen_no hq.rel.head 0
          simp at chd
          obtain ⟨va, vc, hv⟩ := hq.rel.own.form
          have hql := hq.rel.len
          rw [hql, ← hm] at hv
          subst hv
          have HQ := Lib.hid hq
          have HO := Lib.hid ho
          have HOK := Lib.hid hok
          have HOB := Lib.hid hob
          have HOL := Lib.hid hol
          have HTN := Lib.hid htn
          have HK := Lib.hid hkp
          have HM := Lib.hid hm
          clear hq ho hok hob hol htn hkp hql hm
          by_cases hg1 : 1 < gk
          case neg =>
            have HTO : Hid (treeS cs = o) := by
              show _ = _
              rw [HTN.out]
              match gk, hg1, HM.out with
              | 0, _, _ => rfl
              | 1, _, e => simp only [treeN]; rw [if_pos (by omega)]
              | n + 2, h, _ => omega
            go_wp2_with fail
            go_ret
            go_light
            exact ⟨_, rfl, by rw [HTO.out, ← HG.out.2.1]; exact HO.out, HK.out⟩
          case pos =>
            obtain ⟨M, rfl⟩ : ∃ M, gk = M + 2 := ⟨gk - 2, by omega⟩
            have hob1 : ob < wr.heap.size := by have := HG.out; omega
            have hlow := HQ.out.rel.low_
            obtain ⟨ta, hta⟩ : ∃ t, t = l.getD (leastT l) tk0 := ⟨_, rfl⟩
            obtain ⟨l1, hl1⟩ : ∃ t, t = l.eraseIdx (leastT l) := ⟨_, rfl⟩
            obtain ⟨tb, htb⟩ : ∃ t, t = l1.getD (leastT l1) tk0 := ⟨_, rfl⟩
            obtain ⟨l2, hl2⟩ : ∃ t, t = l1.eraseIdx (leastT l1) := ⟨_, rfl⟩
            have e0 : 0 < l.length := by have := HM.out; omega
            have e1 := leastT_lt e0
            have el1 : l1.length + 1 = l.length := by rw [hl1, List.length_eraseIdx, if_pos e1]; omega
            have hok1 := HOK.out.erase e1
            rw [← hl1] at hok1
            obtain ⟨xa, hxa⟩ : ∃ x, x = (D ta.nr).a := ⟨_, rfl⟩
            obtain ⟨na, hna⟩ : ∃ x, x = (D ta.nr).l := ⟨_, rfl⟩
            obtain ⟨ca, hca⟩ : ∃ x, x = (D ta.nr).c := ⟨_, rfl⟩
            obtain ⟨xb, hxb⟩ : ∃ x, x = (D tb.nr).a := ⟨_, rfl⟩
            obtain ⟨nb, hnb⟩ : ∃ x, x = (D tb.nr).l := ⟨_, rfl⟩
            obtain ⟨cb, hcb⟩ : ∃ x, x = (D tb.nr).c := ⟨_, rfl⟩
            obtain ⟨wa, hwa⟩ : ∃ x, x = ta.wt := ⟨_, rfl⟩
            obtain ⟨wb, hwb⟩ : ∃ x, x = tb.wt := ⟨_, rfl⟩
            obtain ⟨ra, hra⟩ : ∃ x, x = ta.nr := ⟨_, rfl⟩
            obtain ⟨rb, hrb⟩ : ∃ x, x = tb.nr := ⟨_, rfl⟩
            obtain ⟨S, hS⟩ : ∃ S : Nat → Prop, S = fun k => k = hb ∨ (Value.slice va (M + 2) vc).ownBlock = some k := ⟨_, rfl⟩
            have HSl : Hid (∀ k, S k → k < wr.heap.size) := by
              intro k hk
              rw [hS] at hk
              rcases hk with rfl | hk
              · exact hlow.1
              · exact hlow.2.1 k hk
            have HP1 : Hid (∀ wx, Keeps wr wx → Calls Try.prog 33 #[.iface 65 (.pointer (some ⟨hb, 0, none⟩))] wx fun e w' => e = .returned (.iface 63 (.agg #[.int .i64 wa, .int .i64 ra, .slice xa na ca])) ∧ (∃ q', Que w' hb ob D (.slice va (M + 1) vc) q' l1) ∧ Fr S wx w') := by
              intro wx hk
              rw [hwa, hra, hxa, hna, hca, hl1, hta, hS]
              exact popQ ⟨HQ.out.rel.keeps hk, HQ.out.heap⟩ HOK.out (by omega) (by omega) (Nat.lt_of_lt_of_le hob1 hk.size)
            have HP2 : Hid (∀ w1 wx q1, Que w1 hb ob D (.slice va (M + 1) vc) q1 l1 → Keeps w1 wx → ob < w1.heap.size → Calls Try.prog 33 #[.iface 65 (.pointer (some ⟨hb, 0, none⟩))] wx fun e w' => e = .returned (.iface 63 (.agg #[.int .i64 wb, .int .i64 rb, .slice xb nb cb])) ∧ (∃ q', Que w' hb ob D (.slice va M vc) q' l2) ∧ Fr S wx w') := by
              intro w1 wx q1 hq1 hk hob2
              rw [hwb, hrb, hxb, hnb, hcb, hl2, htb, hS, ownBlock_len va (M + 2) vc (M + 1) vc]
              exact popQ ⟨hq1.rel.keeps hk, hq1.heap⟩ hok1 (by omega) (by omega) (Nat.lt_of_lt_of_le hob2 hk.size)
            have HHB : Hid (¬ S ob) := by
              show ¬ S ob
              rw [hS]
              rintro (h | h)
              · have := HG.out; omega
              · exact HQ.out.rel.nob h
            have HE : Hid (l1 = l.eraseIdx (leastT l) ∧ ta = l.getD (leastT l) tk0 ∧ tb = l1.getD (leastT l1) tk0 ∧ l2 = l1.eraseIdx (leastT l1) ∧ xa = (D ta.nr).a ∧ na = (D ta.nr).l ∧ ca = (D ta.nr).c ∧ xb = (D tb.nr).a ∧ nb = (D tb.nr).l ∧ cb = (D tb.nr).c ∧ wa = ta.wt ∧ wb = tb.wt ∧ ra = ta.nr ∧ rb = tb.nr) := ⟨hl1, hta, htb, hl2, hxa, hna, hca, hxb, hnb, hcb, hwa, hwb, hra, hrb⟩
            have HLOW : Hid (LowQ wr.heap.size hb D (.slice va M vc) l2) := by
              refine ⟨hlow.1, fun k hk => hlow.2.1 k (by rw [ownBlock_len va (M + 2) vc M vc]; exact hk), fun t ht x hx => hlow.2.2 t ?_ x hx⟩
              rw [hl2] at ht
              have h1 := List.mem_of_mem_eraseIdx ht
              rw [hl1] at h1
              exact List.mem_of_mem_eraseIdx h1
            have HHO : Hid (hb ≠ ob) := by have := HG.out; show hb ≠ ob; omega
            have HSW : Hid (∀ k, S k → w.heap.size ≤ k) := by
              intro k hk
              rw [hS] at hk
              rcases hk with rfl | hk
              · have := HG.out; omega
              · have := HQ.out.rel.low k hk; have := HG.out; omega
            have hm2 : l.length = M + 2 := HM.out.symm
            have hm1 : l1.length = M + 1 := by omega
            have hal : ta ∈ l := by rw [hta]; exact getD_tk e1
            have hbl1 : tb ∈ l1 := by rw [htb]; exact getD_tk (leastT_lt (by omega))
            have hbl : tb ∈ l := List.mem_of_mem_eraseIdx (by rw [hl1] at hbl1; exact hbl1)
            have hnot : ∀ t ∈ l, ∀ x, (D t.nr).a = some x → ¬ S x.block := fun t ht x hx h => by
              have h3 := (HQ.out.rel.told t ht).2.2 x hx
              rw [hS] at h
              rcases h with h | h
              · exact h3.1 h
              · exact h3.2.2.1 h
            have HNA : Hid (∀ x, xa = some x → ¬ S x.block) := fun x hx => hnot ta hal x (by rw [← hxa]; exact hx)
            have HNB : Hid (∀ x, xb = some x → ¬ S x.block) := fun x hx => hnot tb hbl x (by rw [← hxb]; exact hx)
            have HIA : Hid (Ints .i64 wr (.slice xa na ca) ta.ps) := by
              have := (HQ.out.rel.told ta hal).2.1
              rw [← hxa, ← hna, ← hca] at this; exact this
            have HIB : Hid (Ints .i64 wr (.slice xb nb cb) tb.ps) := by
              have := (HQ.out.rel.told tb hbl).2.1
              rw [← hxb, ← hnb, ← hcb] at this; exact this
            have hst := HOK.out.step (by omega) (by omega : 2 ≤ l.length)
            have HST : Hid (stepT l nx = (l2 ++ [⟨wa + wb, nx, ta.ps ++ tb.ps⟩], ta.ps ++ tb.ps)) := by
              show _ = _
              rw [hl2, htb, hl1, hta, hwa, hwb, htb, hl1, hta]; rfl
            rw [HST.out] at hst
            have HOS : Hid (TkOk (l2 ++ [⟨wa + wb, nx, ta.ps ++ tb.ps⟩]) (nx + 1) k L W) := hst.1
            have HPR : Hid (∀ p ∈ ta.ps ++ tb.ps, 0 ≤ p ∧ p < (k : Int)) := hst.2.1
            have HPL : Hid (0 < ta.ps.length ∧ ta.ps.length ≤ L ∧ tb.ps.length ≤ L ∧ (ta.ps ++ tb.ps).length ≤ L) := by
              have h1 := (HOK.out.ps ta hal).1
              have h2 : (ta.ps ++ tb.ps).length ≤ L := hst.2.2
              rw [List.length_append] at h2
              refine ⟨h1, by omega, by omega, by rw [List.length_append]; omega⟩
            have HWT : Hid (0 < wa ∧ 0 < wb ∧ wa + wb ≤ 1099511627776) := by
              have h1 := HOK.out.wt ta hal
              have h2 := HOK.out.wt tb hbl
              have h3 := HOS.out.weight
              have h4 := TkOk.sum_nonneg (l := l2) (fun t ht => HOS.out.wt t (by simp [ht]))
              simp only [List.map_append, List.sum_append, List.map_cons, List.map_nil, List.sum_cons, List.sum_nil] at h3
              have h5 := HW.out
              refine ⟨by omega, by omega, by omega⟩
            have el2 : l2.length + 1 = l1.length := by rw [hl2, List.length_eraseIdx, if_pos (leastT_lt (by omega))]; omega
            have HL2 : Hid (l2.length = M) := by show _ = _; omega
            have HO2 := Lib.hid (hok1.erase (leastT_lt (l := l1) (by omega)))
            rw [← hl2] at HO2
            clear hnot hal hbl1 hbl hst el2 hm1 hm2
            have HOB1 := Lib.hid hob1
            have HSS := Lib.hid hS
            clear hlow hta htb hl2 hxa hna hca hxb hnb hcb hwa hwb hra hrb e0 e1 el1 hok1 hl1 hS hob1
            have tg1 : (1 : Int) < ((M + 2 : Nat) : Int) := by omega
            go_wp2_with fail
            go_cut [8, 9] from 51 to 91 (fun p8 p9 wx => ∃ g8 g9 q2, p8 = .pointer (some ⟨g8, 0, none⟩) ∧ p9 = .pointer (some ⟨g9, 0, none⟩) ∧ wr.heap.size ≤ g8 ∧ wr.heap.size ≤ g9 ∧ g8 < wx.heap.size ∧ g9 < wx.heap.size ∧ wx.cell? ⟨g8, 0, none⟩ = some (.int .i64 wa) ∧ wx.cell? ⟨g8, 2, none⟩ = some (.slice xa na ca) ∧
              wx.cell? ⟨g9, 0, none⟩ = some (.int .i64 wb) ∧ wx.cell? ⟨g9, 2, none⟩ = some (.slice xb nb cb) ∧ Que wx hb ob D (.slice va M vc) q2 l2 ∧ Fr S wr wx)
            case first =>
              have hta1 := fun w => taThing (.agg #[.int .i64 wa, .int .i64 ra, .slice xa na ca]) w
              have hta2 := fun w => taThing (.agg #[.int .i64 wb, .int .i64 rb, .slice xb nb cb]) w
              go_region_with (first
                | (go_at_call 33; refine (HP2.out _ _ _ HA1.out (by show Fr _ _ _; repeat (first | exact Fr.refl _ _ | apply Fr.alloc | apply Fr.drew)) (by have h1 := HF1.out.size; have h2 := HOB1.out; (try simp at h1); have h3 : wr.drew.heap.size = wr.heap.size := rfl; omega)).mono ?_; rintro e2 w2 ⟨rfl, ⟨q2, hq2⟩, hf2⟩; have HA2 := Lib.hid hq2; have HF2 := Lib.hid hf2; clear hq2 hf2; (try (refine zeroFrK HF2.out wr.drew.heap.size ?_ ?_ (zeroFr (S := fun _ => False) ?_ wr.drew.heap.size (fun h => h) ?_ ⟨z1, z2, z3, z4, z5, z6⟩) ?_; (focus (intro h; have h1 := HSl.out _ h; have h3 : wr.drew.heap.size = wr.heap.size := rfl; omega)); (focus (have h2 := HF1.out.size; (try simp at h2); have h3 : wr.drew.heap.size = wr.heap.size := rfl; first | omega | (simp; omega))); (focus ((repeat (first | exact Fr.refl _ _ | apply Fr.alloc | apply Fr.drew)); done)); (focus (have h2 := HF1.out.size; (try simp at h2); have h3 : wr.drew.heap.size = wr.heap.size := rfl; first | omega | (simp; omega))); rintro ⟨s1, s2, s3, s4, s5, s6⟩ s7; obtain ⟨sa1, sa2, sa3, sa4, sa5, sa6⟩ : zeroAt w2 wr.heap.size := ⟨s1, s2, s3, s4, s5, s6⟩; have sa7 : wr.heap.size < w2.heap.size := s7; have es : ¬ wr.heap.size = w2.heap.size := Nat.ne_of_lt s7; have es' : ¬ w2.heap.size = wr.heap.size := Nat.ne_of_gt s7)); (try (refine zeroFrK HF2.out (wr.drew.heap.size + 1) ?_ ?_ (zeroFr (S := fun _ => False) ?_ (wr.drew.heap.size + 1) (fun h => h) ?_ ⟨y1, y2, y3, y4, y5, y6⟩) ?_; (focus (intro h; have h1 := HSl.out _ h; have h3 : wr.drew.heap.size = wr.heap.size := rfl; omega)); (focus (have h2 := HF1.out.size; (try simp at h2); have h3 : wr.drew.heap.size = wr.heap.size := rfl; first | omega | (simp; omega))); (focus ((repeat (first | exact Fr.refl _ _ | apply Fr.alloc | apply Fr.drew)); done)); (focus (have h2 := HF1.out.size; (try simp at h2); have h3 : wr.drew.heap.size = wr.heap.size := rfl; first | omega | (simp; omega))); rintro ⟨r1, r2, r3, r4, r5, r6⟩ r7; obtain ⟨ra1, ra2, ra3, ra4, ra5, ra6⟩ : zeroAt w2 (wr.heap.size + 1) := ⟨r1, r2, r3, r4, r5, r6⟩; have ra7 : wr.heap.size + 1 < w2.heap.size := r7)); (try (refine zeroFrK HF2.out w1.heap.size ?_ ?_ ?_ ?_; (focus (intro h; have h1 := HSl.out _ h; have h2 := HF1.out.size; (try simp at h2); have h3 : wr.drew.heap.size = wr.heap.size := rfl; omega)); (focus (first | (simp; done) | (simp; omega))); (focus (simp [zeroAt]; done)); rintro ⟨m1, m2, m3, m4, m5, m6⟩ m7; have em : ¬ w1.heap.size = w2.heap.size := Nat.ne_of_lt m7; have em' : ¬ w2.heap.size = w1.heap.size := Nat.ne_of_gt m7)); (try (refine zeroFrK HF2.out (w1.heap.size + 1) ?_ ?_ ?_ ?_; (focus (intro h; have h1 := HSl.out _ h; have h2 := HF1.out.size; (try simp at h2); have h3 : wr.drew.heap.size = wr.heap.size := rfl; omega)); (focus (first | (simp; done) | (simp; omega))); (focus (simp [zeroAt]; done)); rintro ⟨n1, n2, n3, n4, n5, n6⟩ n7)))
                | (go_at_call 33; refine (HP1.out _ (by show Fr _ _ _; repeat (first | exact Fr.refl _ _ | apply Fr.alloc | apply Fr.drew))).mono ?_; rintro e1 w1 ⟨rfl, ⟨q1, hq1⟩, hf1⟩; have HA1 := Lib.hid hq1; have HF1 := Lib.hid hf1; clear hq1 hf1; (try (refine zeroFrK HF1.out wr.drew.heap.size ?_ ?_ ?_ ?_; (focus (intro h; have h1 := HSl.out _ h; have h3 : wr.drew.heap.size = wr.heap.size := rfl; omega)); (focus (first | (simp; done) | (simp; omega))); (focus (simp [zeroAt]; done)); rintro ⟨z1, z2, z3, z4, z5, z6⟩ z7; obtain ⟨za1, za2, za3, za4, za5, za6⟩ : zeroAt w1 wr.heap.size := ⟨z1, z2, z3, z4, z5, z6⟩; have ez : ¬ wr.heap.size = w1.heap.size := Nat.ne_of_lt z7; have ez' : ¬ w1.heap.size = wr.heap.size := Nat.ne_of_gt z7)); (try (refine zeroFrK HF1.out (wr.drew.heap.size + 1) ?_ ?_ ?_ ?_; (focus (intro h; have h1 := HSl.out _ h; have h3 : wr.drew.heap.size = wr.heap.size := rfl; omega)); (focus (first | (simp; done) | (simp; omega))); (focus (simp [zeroAt]; done)); rintro ⟨y1, y2, y3, y4, y5, y6⟩ y7; obtain ⟨ya1, ya2, ya3, ya4, ya5, ya6⟩ : zeroAt w1 (wr.heap.size + 1) := ⟨y1, y2, y3, y4, y5, y6⟩))))
              all_goals
                (try go_wp2_with fail)
                go_meet
                have qs1 := HF1.out.size
                have qs2 := HF2.out.size
                (try simp only [World.size_drew, World.size_alloc] at qs1)
                (try simp only [World.size_alloc] at qs2)
                refine ⟨_, _, q2, rfl, rfl, ?_, ?_, ?_, ?_, ?_, ?_, ?_, ?_, ⟨HA2.out.rel.fresh HLOW.out ?_ HHO.out, HA2.out.heap⟩, ?_⟩
                · omega
                · omega
                · simp only [World.size_setCell, World.size_alloc]; omega
                · simp only [World.size_setCell, World.size_alloc]; omega
                · go_simp
                · go_simp
                · go_simp
                · go_simp
                · repeat (first | with_reducible exact Fr.refl _ _ | with_reducible apply Fr.alloc | with_reducible apply Fr.drew | with_reducible refine frSet1 (by omega) ?_ _ _)
                · repeat (first | with_reducible exact Fr.refl _ _ | with_reducible apply Fr.alloc | with_reducible apply Fr.drew | with_reducible refine frSet2 (by omega) ?_ _ _ | with_reducible refine Fr.trans ?_ HF2.out (fun _ _ h => h) | with_reducible refine Fr.trans ?_ HF1.out (fun _ _ h => h))
            case rest =>
              obtain ⟨g8, g9, q2, rfl, rfl, hg8, hg9, hs8, hs9, c80, c82, c90, c92, hq2, hfr⟩ := hcut
              have hob2 := HOB1.out
              have HIAc := Lib.hid (HIA.out.fr hfr (fun x n c e _ => by injection e with e1; exact HNA.out x e1))
              have HIBc := Lib.hid (HIB.out.fr hfr (fun x n c e _ => by injection e with e1; exact HNB.out x e1))
              have HOc : Hid (Own .i64 3 ob wc (.slice (some ⟨ob, 0, none⟩) k k) o) := HO.out.fr hfr (fun b hb' h => by injection hb' with hb'; subst hb'; exact HHB.out h)
              have HKc : Hid (Keeps w wc) := HK.out.trans hfr (fun i hi h => by have := HSW.out i h; omega)
              have hszc := hfr.size
              have HQ2 := Lib.hid hq2
              clear hq2 hfr
              go_wp2_with fail
              refine (concatTwo (b := wc.heap.size) (HIAc.out.keeps ((Fr.refl _ _).alloc _)) (HIBc.out.keeps ((Fr.refl _ _).alloc _)) HPL.out.1 (by have := HPL.out; omega) (by have := HPL.out; omega) (by simp) (by simp)).mono ?_
              rintro e3 w3 ⟨v3, rfl, o3, k3⟩
              obtain ⟨ps, hps⟩ : ∃ ps, ps = ta.ps ++ tb.ps := ⟨_, rfl⟩
              rw [← hps] at o3 HPR HPL HOS HST
              have hpos : 0 < ps.length := by rw [hps, List.length_append]; have := HPL.out; omega
              obtain ⟨g3, c3, hv3, hc31, hc32, hg3, hg3'⟩ := o3.formNe hpos
              obtain ⟨pl, hpl⟩ : ∃ pl, pl = ps.length := ⟨_, rfl⟩
              rw [← hpl] at hv3 hc31 hpos
              subst hv3
              have k3' : Keeps wc w3 := ((Fr.refl (fun _ => False) wc).alloc _).trans k3 (fun _ _ h => h)
              have HQ3 : Hid (Que w3 hb ob D (.slice va M vc) q2 l2) := ⟨HQ2.out.rel.keeps k3', HQ2.out.heap⟩
              have HO3 := Lib.hid (HOc.out.keeps k3')
              have HK3 : Hid (Keeps w w3) := HKc.out.trans k3' (fun _ _ h => h)
              have c80 := k3'.cell (fun h => h) c80
              have c90 := k3'.cell (fun h => h) c90
              have hsz3 := k3'.size
              have HP3 := Lib.hid o3
              have HPL2 : Hid (pl ≤ L) := by show pl ≤ L; have := HPL.out; omega
              have HPLE := Lib.hid hpl
              have hg3b : wc.heap.size ≤ g3 := by simp at hg3; omega
              have hg3o : ¬ g3 = ob := by omega
              have h8o : ¬ g8 = ob := by omega
              have h9o : ¬ g9 = ob := by omega
              have HPE := Lib.hid hps
              clear o3 k3 k3' c82 c92 hpl hps
              go_wp2_with fail
              go_loopw [68] (fun iv wx => ∃ (j : Nat) (o' : List Int), j ≤ pl ∧ iv = .int .i64 j ∧ Own .i64 3 ob wx (.slice (some ⟨ob, 0, none⟩) k k) o' ∧ o' = bumpS o (ps.take j) ∧ Fr (fun i => i = ob) w3 wx) (fun iv _ => pl - (intOf iv).toNat)
              case atStart => exact ⟨0, o, by omega, rfl, HO3.out, by simp [bumpS], Fr.refl _ _⟩
              case round =>
                obtain ⟨j, o', hj, rfl, ho', hbo, hfx⟩ := hrel
                have HOx := Lib.hid ho'
                have HBO := Lib.hid hbo
                have HFX := Lib.hid hfx
                have hol' : o'.length = k := by rw [hbo, bumpS_length]; exact HOL.out
                by_cases hlt : j < pl
                case pos =>
                  obtain ⟨cj, _⟩ := HP3.out.at (i := j) (by rw [← HPLE.out]; exact hlt)
                  have cj := hfx.cell (p := ⟨g3, j, none⟩) hg3o cj
                  have hmem := getD_in (l := ps) (i := j) (by rw [← HPLE.out]; exact hlt)
                  have hr := HPR.out _ hmem
                  obtain ⟨p, hp⟩ : ∃ p : Nat, ps.getD j 0 = (p : Int) := ⟨(ps.getD j 0).toNat, by omega⟩
                  rw [hp] at cj hr
                  have hpk : p < k := by omega
                  obtain ⟨co, fo⟩ := ho'.at (i := p) (by omega)
                  have hbd := bumpS_bound (ps.take j) o ((nx - (L : Int)) * 256) HOB.out (by omega) (o'.getD p 0) (by rw [← hbo]; exact getD_in (by omega))
                  obtain ⟨z, hz⟩ : ∃ z, z = o'.getD p 0 := ⟨_, rfl⟩
                  rw [← hz] at co hbd
                  have hzb : 0 ≤ z ∧ z ≤ 1000000 := by
                    have h1 := HPL2.out
                    simp only [List.length_take] at hbd
                    omega
                  have HSET := Lib.hid (ho'.set p (y := z + 1) (by simp [Lit.wf, IntKind.min, IntKind.max, IntKind.signed, IntKind.bits]; omega))
                  have HNX : Hid (o'.set p (z + 1) = bumpS o (ps.take (j + 1))) := by
                    show _ = _
                    rw [bumpS_take (by rw [← HPLE.out]; exact hlt), ← hbo, hp, hz]; rfl
                  have ti1 : (j : Int) < (pl : Int) := by omega
                  have ti2 : (p : Int) < (k : Int) := by omega
                  clear ho' hbo hfx hmem hr hp hbd hz
                  go_wp2_with fail
                  go_roundw
                  all_goals go_light
                  case rel => exact ⟨j + 1, _, by omega, by go_num, HSET.out, HNX.out, HFX.out.setAt rfl p _⟩
                  case measure => simp [intOf]; omega
                case neg =>
                  obtain rfl : j = pl := by omega
                  have HBO2 : Hid (o' = bumpS o ps) := by
                    show _ = _
                    rw [hbo, HPLE.out, List.take_length]
                  have c80 := hfx.cell (p := ⟨g8, 0, none⟩) h8o c80
                  have c90 := hfx.cell (p := ⟨g9, 0, none⟩) h9o c90
                  have hsx := hfx.size
                  have hwt := HWT.out
                  have HQx : Hid (Que wr hb ob D (.slice va M vc) q2 l2) := ⟨HQ3.out.rel.fr hfx (fun h => HHO.out h) (fun b h e => HQ3.out.rel.nob (by rw [e] at h; exact h)) (fun b e => .inl e), HQ3.out.heap⟩
                  have HIx := Lib.hid (HP3.out.ints.fr hfx (fun x n c e _ => by injection e with e1; injection e1 with e1; subst e1; exact hg3o))
                  have HKx : Hid (Keeps w wr) := HK3.out.trans hfx (fun i hi h => by have h : i = ob := h; have := HG.out; omega)
                  have hgl3 : g3 < wr.heap.size := Nat.lt_of_lt_of_le hg3' hsx
                  clear ho' hbo hfx
                  go_wp2_with fail
                  refine (pushQ (wt := wa + wb) (nx := nx) (ps := ps) HQx.out HO2.out (by omega) (by omega) (by have := HL2.out; omega) (by omega) HIx.out (fun x hx => ?_)).mono ?_
                  · injection hx with hx
                    subst hx
                    have hl := HLOW.out
                    refine ⟨?_, hg3o, fun h => ?_, hgl3⟩
                    · have := hl.1; show g3 ≠ hb; omega
                    · have := hl.2.1 _ h
                      have this : g3 < _ := this
                      omega
                  rintro e4 w4 ⟨rfl, ⟨D4, v4, q4, hq4⟩, hf4⟩
                  have HQ4 := Lib.hid hq4
                  have HF4 := Lib.hid hf4
                  clear hq4 hf4
                  go_wp2_with fail
                  go_roundg (M + 1)
                  case measure => omega
                  case rel =>
                    have hob4 : ∀ i, (i = hb ∨ (Value.slice va M vc).ownBlock = some i) → w.heap.size ≤ i ∧ i ≠ ob := fun i hi => by
                      rcases hi with rfl | hi
                      · have := HG.out; omega
                      · have h1 := HQx.out.rel.low i hi
                        have := HG.out
                        exact ⟨by omega, fun e => HQx.out.rel.nob (by rw [e] at hi; exact hi)⟩
                    have hlen : (bumpS o ps).length = k := by rw [bumpS_length]; exact HOL.out
                    refine ⟨nx + 1, D4, v4, q4, l2 ++ [⟨wa + wb, nx, ps⟩], bumpS o ps, ?_, by go_num, HQ4.out, ?_, HOS.out, by omega, by omega, fun z hz => ?_, hlen, ?_, HKx.out.trans HF4.out (fun i hi h => by have := (hob4 i h).1; omega), ?_⟩
                    · rw [List.length_append, HL2.out]; rfl
                    · have h1 := HOx.out.fr HF4.out (fun b hb' h => by injection hb' with hb'; subst hb'; exact (hob4 _ h).2 rfl)
                      rw [HBO2.out] at h1
                      exact h1
                    · have h1 := bumpS_bound ps o ((nx - (L : Int)) * 256) HOB.out (by omega) z hz
                      have h2 := HPL2.out
                      rw [← HPLE.out] at h1
                      omega
                    · rw [HTN.out]
                      simp only [treeN]
                      rw [if_neg (by have := HM.out; omega), HST.out]
                    · have h1 := HF4.out.size
                      omega
end Go.Proofs.Ytbbljpkboojjhaa
