/- The map of numbers: Take. -/
import Derived.Test.YtapagllebpcnhaaMpSettle
namespace Go.Proofs.Ytapagllebpcnhaa
open Go.RowKit

/-- the least free -/
def ffree : List Int → Option Nat
  | [] => none
  | x :: xs => if x = 0 then some 0 else (ffree xs).map (· + 1)
theorem ffree_some : ∀ {st : List Int} {k : Nat}, ffree st = some k → k < st.length ∧ st.getD k 0 = 0 ∧ ∀ i, i < k → st.getD i 0 ≠ 0
  | [], k, h => by simp [ffree] at h
  | x :: xs, k, h => by
    simp only [ffree] at h
    split at h
    case isTrue hx =>
      cases h
      exact ⟨by simp, by simpa using hx, fun i hi => by omega⟩
    case isFalse hx =>
      obtain ⟨j, hj, rfl⟩ := Option.map_eq_some_iff.1 h
      obtain ⟨h1, h2, h3⟩ := ffree_some hj
      refine ⟨by simpa using h1, by simpa using h2, fun i hi => ?_⟩
      cases i with
      | zero => simpa using hx
      | succ i => simpa using h3 i (by omega)
theorem ffree_none : ∀ {st : List Int}, ffree st = none → ∀ i, i < st.length → st.getD i 0 ≠ 0
  | [], _, i, hi => by simp at hi
  | x :: xs, h, i, hi => by
    simp only [ffree] at h
    split at h
    case isTrue hx => cases h
    case isFalse hx =>
      rw [Option.map_eq_none_iff] at h
      cases i with
      | zero => simpa using hx
      | succ i => simpa using ffree_none h i (by simpa using hi)
theorem ffree_eq {st : List Int} {k : Nat} (h1 : k < st.length) (h2 : st.getD k 0 = 0) (h3 : ∀ i, i < k → st.getD i 0 ≠ 0) : ffree st = some k := by
  cases h : ffree st with
  | none => exact absurd h2 (ffree_none h k h1)
  | some j =>
    obtain ⟨g1, g2, g3⟩ := ffree_some h
    rcases Nat.lt_trichotomy j k with h4 | h4 | h4
    · exact absurd g2 (h3 j h4)
    · rw [h4]
    · exact absurd h2 (g3 k h4)
theorem ffree_no {st : List Int} (h : ∀ i, i < st.length → st.getD i 0 ≠ 0) : ffree st = none := by
  cases h1 : ffree st with
  | none => rfl
  | some j =>
    obtain ⟨g1, g2, g3⟩ := ffree_some h1
    exact absurd g2 (h j g1)
/-- the least is taken: its number, whether there was one, the states, how many are set aside -/
def takeA (L : Nat) (st : List Int) (rs : Nat) : Nat × Bool × List Int × Nat :=
  match ffree st with
  | some k => (L + k, true, st.set k 1, rs - 1)
  | none => (0, false, st, rs)

/-- one state stored, and two cells of the map -/
theorem raw_three {w : World} {b s n c k : Nat} {st : List Int} {cs : Array Value} {E : TypeId} {y : Int} (hh : w.heap[b]? = some (.cells cs E (0, 0))) (ho : Own .u8 5 0 w (.slice (some ⟨s, 0, none⟩) n c) st) (hsb : s ≠ b) (hy : (Lit.int .u8 y).wf = true) (j j2 : Nat) (u u2 : Value) :
    (((w.setCell ⟨s, k, none⟩ (.int .u8 y)).setCell ⟨b, j, none⟩ u).setCell ⟨b, j2, none⟩ u2).drew.heap[b]? = some (.cells ((cs.setIfInBounds j u).setIfInBounds j2 u2) E (0, 0)) ∧
      Own .u8 5 0 (((w.setCell ⟨s, k, none⟩ (.int .u8 y)).setCell ⟨b, j, none⟩ u).setCell ⟨b, j2, none⟩ u2).drew (.slice (some ⟨s, 0, none⟩) n c) (st.set k y) ∧ Fr (fun k => k = b ∨ k = s) w (((w.setCell ⟨s, k, none⟩ (.int .u8 y)).setCell ⟨b, j, none⟩ u).setCell ⟨b, j2, none⟩ u2).drew := by
  have f1 : Fr (fun k => k = s) w (w.setCell ⟨s, k, none⟩ (.int .u8 y)) := (Fr.refl (fun k => k = s) w).setAt rfl k _
  refine ⟨?_, ?_, ?_⟩
  · exact heap_set (w := (w.setCell ⟨s, k, none⟩ (.int .u8 y)).setCell ⟨b, j, none⟩ u) (heap_set (f1.heap (fun e => hsb e.symm) hh) j u) j2 u2
  · exact (ho.set k hy).fr ((((Fr.refl (fun k => k = b) _).setAt rfl j u).setAt rfl j2 u2).drew) (fun x hx e => by cases hx; exact hsb e)
  · exact ((((Fr.refl (fun k => k = b ∨ k = s) w).setAt (.inr rfl) k _).setAt (.inl rfl) j u).setAt (.inl rfl) j2 u2).drew

theorem Mp.popped {R : Nat → Prop} {w w' : World} {b s L : Nat} {st : List Int} {rs C D m : Nat} {v v' : Value} {q q' : List Int} {E : TypeId} (h : Mp R w b s L st rs C v q E D) (hq : q.length = m + 1) (ha : QuAt w w' b 2 v v' q') (h1 : HeapN q' m) (h2 : q'.length = m)
    (h3 : ∀ y, MemN q (m + 1) y → y = q.getD 0 0 ∨ MemN q' m y) (h4 : ∀ y, MemN q' m y → MemN q (m + 1) y) (hn : ∀ i, i < st.length → st.getD i 0 = 0 → ((L + i : Nat) : Int) ≠ q.getD 0 0) : Mp R w' b s L st rs C v' q' E D := by
  have hbl : b < w.heap.size := (Array.getElem?_eq_some_iff.1 h.heap).1
  have hsl : s < w.heap.size := (h.own.lt s rfl).2
  have hvn : ∀ x, v'.ownBlock = some x → v.ownBlock = some x ∨ w.heap.size ≤ x := fun x hx => by
    rcases ha.at_ with h1 | h1
    · exact .inl (h1.symm.trans hx)
    · exact .inr (h1 x hx)
  refine ⟨?_, h.own.fr ha.fr (fun x hx e => ?_), ha.own, h.sb, fun e => ?_, fun e => ?_, by rw [h2]; exact h1, fun y hy => ?_, fun i hi hz => ?_, h.val, h.rsb, h.end_, by have := h.qb; omega, fun x hx => Nat.lt_of_lt_of_le (h.hR x hx) ha.fr.size, h.rb, h.rS, fun x hx hR => ?_⟩
  · rw [ha.head _ _ h.heap]; rfl
  · cases hx
    rcases e with e | e
    · exact h.sb e
    · exact h.vs e
  · rcases hvn _ e with h | h'
    · exact ‹Mp R w b s L st rs C v q E D›.vb h
    · omega
  · rcases hvn _ e with h | h'
    · exact ‹Mp R w b s L st rs C v q E D›.vs h
    · omega
  · rw [h2] at hy
    exact h.sub y (by rw [hq]; exact h4 y hy)
  · rw [h2]
    have := h.free i hi hz
    rw [hq] at this
    rcases h3 _ this with h5 | h5
    · exact absurd h5 (hn i hi hz)
    · exact h5
  · rcases hvn _ hx with h' | h'
    · exact h.rv x h' hR
    · have := h.hR x hR; omega

theorem take_close {R : Nat → Prop} {wr w5 w6 : World} {b s L m k c : Nat} {a : Option Addr} {st : List Int} {rs C : Nat} {q' q5 : List Int} {E : TypeId} (h : Mp R wr b s L st rs C (.slice a (m + 1) c) q' E (cnt st 2)) (hml : m + 1 = q'.length)
    (ha : QuAt wr w5 b 2 (.slice a (m + 1) c) (.slice a m c) q5) (g : HeapN q5 m ∧ q5.length = m ∧ (∀ y, MemN q' (m + 1) y → y = (L : Int) + (k : Int) ∨ MemN q5 m y) ∧ (∀ y, MemN q5 m y → MemN q' (m + 1) y)) (k6 : Keeps w5 w6) (hkl : k < st.length) (h0 : st.getD k 0 = 0)
    {u u2 : Value} (hu1 : u = .int .i64 ((cnt st 0 : Int) - 1)) (hu : u2 = .int .i64 ((rs - 1 : Nat) : Int)) :
    MpX R (((w6.setCell ⟨s, k, none⟩ (.int .u8 1)).setCell ⟨b, 3, none⟩ u).setCell ⟨b, 5, none⟩ u2).drew b s L (st.set k 1) (rs - 1) C ∧ Fr (fun k => ¬ R k) wr (((w6.setCell ⟨s, k, none⟩ (.int .u8 1)).setCell ⟨b, 3, none⟩ u).setCell ⟨b, 5, none⟩ u2).drew := by
  have hh5 := ha.head _ _ h.heap
  have ho5 := h.own.fr ha.fr (fun x hx e => by
    cases hx
    rcases e with e | e
    · exact h.sb e
    · exact h.vs e)
  have F5 : Fr (fun k => ¬ R k) wr w5 := ha.fr.mono (fun i _ hi hR => by
    rcases hi with rfl | hi
    · exact h.rb hR
    · exact h.rv i hi hR)
  obtain ⟨r1, r2, r3⟩ := raw_three (k := k) (k6.heap (fun h => h) hh5) (ho5.keeps k6) h.sb (show (Lit.int .u8 1).wf = true by decide) 3 5 u u2
  have ob : (Value.slice a m c).ownBlock = (Value.slice a (m + 1) c).ownBlock := ownBlock_len _ _ _ _ _
  have hbl : b < wr.heap.size := (Array.getElem?_eq_some_iff.1 h.heap).1
  have hc0 := cnt_set 0 1 st k hkl
  have hc2 := cnt_set 2 1 st k hkl
  rw [h0] at hc0 hc2
  simp at hc0 hc2
  have hsz := Nat.le_trans F5.size (Nat.le_trans k6.size r3.size)
  refine ⟨⟨.slice a m c, q5, E, ?_, by rw [List.length_set]; exact r2, ?_, h.sb, by rw [ob]; exact h.vb, by rw [ob]; exact h.vs, by rw [g.2.1]; exact g.1, fun y hy => ?_, fun i hi hz => ?_, ?_, ?_, by rw [List.length_set]; exact h.end_, ?_, fun x hx => Nat.lt_of_lt_of_le (h.hR x hx) hsz, h.rb, h.rS, fun x hx => h.rv x (ob ▸ hx)⟩, ?_⟩
  · rw [r1, hu1, hu, List.length_set, show (cnt st 0 : Int) - 1 = ((cnt (st.set k 1) 0 : Nat) : Int) by omega, hc2]; rfl
  · refine (ha.own.keeps k6).fr r3 (fun x hx e => ?_)
    rcases e with rfl | rfl
    · exact h.vb (ob ▸ hx)
    · exact h.vs (ob ▸ hx)
  · rw [List.length_set]
    rw [g.2.1] at hy
    exact h.sub y (by rw [← hml]; exact g.2.2.2 y hy)
  · rw [List.length_set] at hi
    rw [set_get st k 1 i hkl] at hz
    by_cases he : i = k
    · rw [if_pos he] at hz; omega
    · rw [if_neg he] at hz
      have h5 := h.free i hi hz
      rw [← hml] at h5
      rw [g.2.1]
      rcases g.2.2.1 _ h5 with h6 | h6
      · omega
      · exact h6
  · intro i hi
    rw [List.length_set] at hi
    exact val_set hkl h.val (by omega) i hi
  · have := h.rsb; omega
  · have := h.qb; rw [hc2, g.2.1]; omega
  · exact (F5.keeps k6).trans r3 (fun i _ hi hR => by
      rcases hi with rfl | rfl
      · exact h.rb hR
      · exact h.rS hR)

set_option maxRecDepth 100000 in
set_option maxHeartbeats 2000000 in
theorem mapTake {R : Nat → Prop} {w : World} {b s L : Nat} {st : List Int} {rs C : Nat} (h : MpX R w b s L st rs C) (hC : C ≤ 17592186044100) :
    Calls Try.prog 17 #[.pointer (some ⟨b, 0, none⟩)] w fun e w' => e = .returned (.tuple #[.int .i64 ((takeA L st rs).1 : Nat), .bool (takeA L st rs).2.1]) ∧ MpX R w' b s L (takeA L st rs).2.2.1 (takeA L st rs).2.2.2 C ∧ Fr (fun k => ¬ R k) w w' := by
  obtain ⟨v, q, E, h⟩ := h
  have H := Lib.hid h
  obtain ⟨r, hr⟩ : ∃ r, r = takeA L st rs := ⟨_, rfl⟩
  rw [← hr]
  have HR := Lib.hid hr
  have hta := taInt
  clear h hr
  go_enter Try.func17, Try.ntmps17
  go_wp2_with fail
  go_loopg [] q.length (fun m wr => ∃ (v' : Value) (q' : List Int), m = q'.length ∧ Mp R wr b s L st rs C v' q' E (cnt st 2) ∧ Fr (fun k => ¬ R k) w wr)
  case atStart => exact ⟨v, q, rfl, H.out, Fr.refl _ _⟩
  case round =>
    obtain ⟨v', q', hm, hmp, hf⟩ := hrel
    have HM := Lib.hid hmp
    have HF := Lib.hid hf
    obtain ⟨a, c, hv'⟩ := hmp.qown.form
    obtain ⟨_, _, d2, _⟩ := hmp.cells
    have hqb := hmp.qb
    rw [hv', ← hm] at d2
    clear hmp hf
    rcases Nat.eq_zero_or_pos gk with hz | hp
    · have e : Hid (r = (0, false, st, rs)) := by
        show _ = _
        rw [HR.out, takeA, ffree_no]
        intro i hi h0
        obtain ⟨k, hk, _⟩ := HM.out.free i hi h0
        omega
      rw [hz] at d2
      clear hm hv' hqb hz
      go_wp2_with fail
      go_ret2
      go_light
      exact ⟨by rw [e.out]; rfl, by rw [e.out]; exact ⟨v', q', E, HM.out⟩, HF.out⟩
    · obtain ⟨m, rfl⟩ : ∃ m, gk = m + 1 := ⟨gk - 1, by omega⟩
      rw [← hm] at hv'
      subst hv'
      obtain ⟨q0, hq0⟩ : ∃ q0, q0 = q'.getD 0 0 := ⟨_, rfl⟩
      have hsub := HM.out.sub q0 (by rw [← hm]; exact ⟨0, by omega, hq0.symm⟩)
      obtain ⟨k, hkk⟩ : ∃ k : Nat, q0 = (L : Int) + (k : Int) := ⟨(q0 - L).toNat, by omega⟩
      have hkl : k < st.length := by omega
      have hle := HM.out.end_
      have hpc := heapPop HM.out.qown (by omega) HM.out.heap (off := 2) (by rfl) HM.out.vb (by have := HM.out.hq; rwa [← hm] at this)
      rw [← hq0] at hpc
      have HPC := Lib.hid hpc
      have HQ0 : Hid (q0 = q'.getD 0 0) := hq0
      have HML := Lib.hid hm
      have HN : Hid (∀ i, i < st.length → st.getD i 0 = 0 → q0 ≤ (L : Int) + i) := fun i hi h0 => by
        obtain ⟨j, hj, he⟩ := HM.out.free i hi h0
        have := HM.out.hq.root j hj
        rw [← hq0, he] at this
        omega
      clear hpc hq0 hsub hqb hm
      subst hkk
      go_wp2_with fail
      refine HPC.out.mono ?_
      rintro e w5 ⟨rfl, q5, hqa, h1, h2, h3, h4⟩
      have HQA := Lib.hid hqa
      have H1 : Hid (HeapN q5 m ∧ q5.length = m ∧ (∀ y, MemN q' (m + 1) y → y = (L : Int) + (k : Int) ∨ MemN q5 m y) ∧ (∀ y, MemN q5 m y → MemN q' (m + 1) y)) := ⟨h1, h2, h3, h4⟩
      have hh5 := hqa.head _ _ HM.out.heap
      have ho5 := HM.out.own.fr hqa.fr (fun x hx e => by
        cases hx
        rcases e with e | e
        · exact HM.out.sb e
        · exact HM.out.vs e)
      have F5 : Hid (Fr (fun k => ¬ R k) wr w5) := hqa.fr.mono (fun i _ hi hR => by
        rcases hi with rfl | h
        · exact HM.out.rb hR
        · exact HM.out.rv i h hR)
      have d0 := cell_of_row w5 b 0 _ E (0, 0) hh5
      have d1 := cell_of_row w5 b 1 _ E (0, 0) hh5
      simp at d0 d1
      have his := mapIs0 (x := 0) (n := (L : Int) + (k : Int)) d0 d1 ho5 hle (by omega)
      have HIS := Lib.hid his
      have HH5 := Lib.hid hh5
      have HO5 := Lib.hid ho5
      clear hqa h1 h2 h3 h4 hh5 ho5 his d0 d1
      go_wp2_with fail
      refine HIS.out.mono ?_
      by_cases h0 : st.getD k 0 = 0
      · have hb : isB L st ((L : Int) + (k : Int)) 0 = true := decide_eq_true ⟨by omega, by omega, by rw [show ((L : Int) + (k : Int) - (L : Int)).toNat = k by omega]; exact h0⟩
        rw [hb]
        have hff : ffree st = some k := ffree_eq hkl h0 (fun i hi hz => by have := HN.out i (by omega) hz; omega)
        have e : Hid (r = (L + k, true, st.set k 1, rs - 1)) := by show _ = _; rw [HR.out, takeA, hff]
        have H0 := Lib.hid h0
        clear hb hff h0
        rintro e6 w6 ⟨rfl, m6, h6⟩
        have k6 : Keeps w5 w6 := by rw [h6]; exact (Fr.refl _ _).drewN _
        clear h6
        have hh6 := k6.heap (fun h => h) HH5.out
        have ho6 := HO5.out.keeps k6
        have d0 := cell_of_row w6 b 0 _ E (0, 0) hh6
        have d1 := cell_of_row w6 b 1 _ E (0, 0) hh6
        have d3 := cell_of_row w6 b 3 _ E (0, 0) hh6
        have d5 := cell_of_row w6 b 5 _ E (0, 0) hh6
        have f3 := frozen_no hh6 3
        have f5 := frozen_no hh6 5
        simp at d0 d1 d3 d5
        obtain ⟨ck, fk⟩ := ho6.at (i := k) hkl
        have hsb := HM.out.sb
        have hbs := fun e => HM.out.sb (Eq.symm e)
        obtain ⟨c0, hc0⟩ : ∃ c0, c0 = cnt st 0 := ⟨_, rfl⟩
        rw [← hc0] at d3
        have HC0 := Lib.hid hc0
        have hcl : c0 ≤ 65536 := by have := cnt_le st 0; omega
        have hrs : rs ≤ c0 := by rw [hc0]; exact HM.out.rsb
        obtain ⟨y, hy⟩ : ∃ y, y = st.getD k 0 := ⟨_, rfl⟩
        rw [← hy] at ck
        have K6 := Lib.hid k6
        have HH6 := Lib.hid hh6
        have HO6 := Lib.hid ho6
        have t1 : (0 : Int) ≤ (L : Int) + (k : Int) - (L : Int) := by omega
        have t2 : (L : Int) + (k : Int) - (L : Int) < (st.length : Int) := by omega
        clear k6 hh6 ho6 hc0 hy
        go_wp2_with fail
        go_region
        go_wp2_with fail
        all_goals
          go_ret2
          go_light
          first
          | (have tc := take_close HM.out HML.out HQA.out H1.out K6.out hkl H0.out (u := .int .i64 ((c0 : Int) - 1)) (u2 := .int .i64 0) (by rw [HC0.out]) (by rw [show rs - 1 = 0 by omega]; rfl)
             exact ⟨by rw [e.out]; rfl, by rw [e.out]; exact tc.1, HF.out.trans tc.2 (fun _ _ h => h)⟩)
          | (have tc := take_close HM.out HML.out HQA.out H1.out K6.out hkl H0.out (u := .int .i64 ((c0 : Int) - 1)) (u2 := .int .i64 ((rs : Int) - 1)) (by rw [HC0.out]) (congrArg (Value.int .i64) (by omega))
             exact ⟨by rw [e.out]; rfl, by rw [e.out]; exact tc.1, HF.out.trans tc.2 (fun _ _ h => h)⟩)
      · have hb : isB L st ((L : Int) + (k : Int)) 0 = false := decide_eq_false (fun h => h0 (by have := h.2.2; rwa [show ((L : Int) + (k : Int) - (L : Int)).toNat = k by omega] at this))
        rw [hb]
        have hm6 := HM.out.popped HML.out.symm HQA.out H1.out.1 H1.out.2.1 (by rw [← HQ0.out]; exact H1.out.2.2.1) H1.out.2.2.2 (fun i hi hz e => h0 (by rw [← HQ0.out] at e; rw [show k = i by omega]; exact hz))
        have HM6 := Lib.hid hm6
        clear hb h0 hm6
        rintro e6 w6 ⟨rfl, m6, h6⟩
        have K6 : Hid (Keeps w5 w6) := by show Keeps _ _; rw [h6]; exact (Fr.refl _ _).drewN _
        clear h6
        go_wp2_with fail
        go_roundg m
        all_goals go_light
        case measure => omega
        case rel => exact ⟨_, q5, H1.out.2.1.symm, HM6.out.fr K6.out (fun h => h) (fun h => h) (fun _ _ h => h), (HF.out.trans F5.out (fun _ _ h => h)).keeps K6.out⟩
end Go.Proofs.Ytapagllebpcnhaa
