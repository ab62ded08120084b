/- The finder: the places linked. -/
import Derived.Test.YtkckabfbngkkpaaFinMark
namespace Go.Proofs.Ytkckabfbngkkpaa
open Go.RowKit

/-- A finder at block b over bytes zs, its row of places at block g: linked up to K. -/
structure Fin4 (w : World) (b : Nat) (dv : Value) (win g : Nat) (zs : List Int) (K : Nat) : Prop where
  d0 : w.cell? ⟨b, 0, none⟩ = some dv
  d1 : w.cell? ⟨b, 1, none⟩ = some (.int .i64 win)
  dh : ∀ m, m < 4096 → w.cell? ⟨b, 2 + m, none⟩ = some (.int .i64 (prev zs m K : Nat))
  da : w.cell? ⟨b, 4098, none⟩ = some (.slice (some ⟨g, 0, none⟩) zs.length zs.length)
  dk : w.cell? ⟨b, 4099, none⟩ = some (.int .i64 K)
  dp : ∀ p, p < K → w.cell? ⟨g, p, none⟩ = some (.int .i64 (prev zs (markN zs p) p : Nat))
  dc : ∀ p, p < zs.length → ∃ z, w.cell? ⟨g, p, none⟩ = some (.int .i64 z)
  fb : ∀ i, w.frozen? ⟨b, i, none⟩ = false
  fg : ∀ i, w.frozen? ⟨g, i, none⟩ = false
  ints : Ints .u8 w dv zs
  bg : b ≠ g
  db : ∀ x n c, dv = .slice (some x) n c → 0 < n → x.block ≠ b ∧ x.block ≠ g

theorem Fin4.keeps {w w' : World} {b : Nat} {dv : Value} {win g : Nat} {zs : List Int} {K : Nat} (h : Fin4 w b dv win g zs K) (f : Keeps w w') (hb : b < w.heap.size) (hg : g < w.heap.size) : Fin4 w' b dv win g zs K where
  d0 := f.cell (fun h => h) h.d0
  d1 := f.cell (fun h => h) h.d1
  dh m hm := f.cell (fun h => h) (h.dh m hm)
  da := f.cell (fun h => h) h.da
  dk := f.cell (fun h => h) h.dk
  dp p hp := f.cell (fun h => h) (h.dp p hp)
  dc p hp := by
    obtain ⟨z, hz⟩ := h.dc p hp
    exact ⟨z, f.cell (fun h => h) hz⟩
  fb i := (f.frozen (p := ⟨b, i, none⟩) (fun h => h) hb).trans (h.fb i)
  fg i := (f.frozen (p := ⟨g, i, none⟩) (fun h => h) hg).trans (h.fg i)
  ints := h.ints.keeps f
  bg := h.bg
  db := h.db

theorem addr_ne {b c i j : Nat} (h : b ≠ c ∨ i ≠ j) : (⟨b, i, none⟩ : Addr) ≠ ⟨c, j, none⟩ := by
  intro e
  cases e
  omega
theorem set_other {w : World} {p q : Addr} {v : Value} (h : p ≠ q) : (w.setCell p v).cell? q = w.cell? q := World.cell?_setCell_other _ _ _ _ h
theorem set_same {w : World} {p : Addr} {u v : Value} (h : w.cell? p = some u) : (w.setCell p v).cell? p = some v := World.cell?_setCell_same _ _ _ h

theorem Fin4.step {w : World} {b : Nat} {dv : Value} {win g : Nat} {zs : List Int} {K M y : Nat} (h : Fin4 w b dv win g zs K) (hK : K < zs.length) (hM : M = markN zs K) (hy : y = prev zs M K) :
    Fin4 (((w.setCell ⟨g, K, none⟩ (.int .i64 y)).setCell ⟨b, 2 + M, none⟩ (.int .i64 ((K : Int) + 1))).setCell ⟨b, 4099, none⟩ (.int .i64 ((K : Int) + 1))).drew.drew b dv win g zs (K + 1) := by
  have hbg := h.bg
  have hM2 : M < 4096 := by rw [hM]; exact markN_lt zs K
  obtain ⟨z, hz⟩ := h.dc K hK
  have c1 : (w.setCell ⟨g, K, none⟩ (.int .i64 y)).cell? ⟨g, K, none⟩ = some (.int .i64 y) := set_same hz
  have fr : Fr (fun k => k = b ∨ k = g) w (((w.setCell ⟨g, K, none⟩ (.int .i64 y)).setCell ⟨b, 2 + M, none⟩ (.int .i64 ((K : Int) + 1))).setCell ⟨b, 4099, none⟩ (.int .i64 ((K : Int) + 1))).drew.drew :=
    (((((Fr.refl _ _).setAt (.inr rfl) _ _).setAt (.inl rfl) _ _).setAt (.inl rfl) _ _).drew).drew
  have ob : ∀ i, i ≠ 2 + M → i ≠ 4099 → (((w.setCell ⟨g, K, none⟩ (.int .i64 y)).setCell ⟨b, 2 + M, none⟩ (.int .i64 ((K : Int) + 1))).setCell ⟨b, 4099, none⟩ (.int .i64 ((K : Int) + 1))).drew.drew.cell? ⟨b, i, none⟩ = w.cell? ⟨b, i, none⟩ := fun i h1 h2 => by
    rw [World.cell?_drew, World.cell?_drew, set_other (addr_ne (by omega)), set_other (addr_ne (by omega)), set_other (addr_ne (by omega))]
  have og : ∀ i, i ≠ K → (((w.setCell ⟨g, K, none⟩ (.int .i64 y)).setCell ⟨b, 2 + M, none⟩ (.int .i64 ((K : Int) + 1))).setCell ⟨b, 4099, none⟩ (.int .i64 ((K : Int) + 1))).drew.drew.cell? ⟨g, i, none⟩ = w.cell? ⟨g, i, none⟩ := fun i h1 => by
    rw [World.cell?_drew, World.cell?_drew, set_other (addr_ne (by omega)), set_other (addr_ne (by omega)), set_other (addr_ne (by omega))]
  have gk : (((w.setCell ⟨g, K, none⟩ (.int .i64 y)).setCell ⟨b, 2 + M, none⟩ (.int .i64 ((K : Int) + 1))).setCell ⟨b, 4099, none⟩ (.int .i64 ((K : Int) + 1))).drew.drew.cell? ⟨g, K, none⟩ = some (.int .i64 y) := by
    rw [World.cell?_drew, World.cell?_drew, set_other (addr_ne (by omega)), set_other (addr_ne (by omega))]
    exact c1
  refine ⟨(ob 0 (by omega) (by omega)).trans h.d0, (ob 1 (by omega) (by omega)).trans h.d1, fun m hm => ?_, (ob 4098 (by omega) (by omega)).trans h.da, ?_, fun p hp => ?_, fun p hp => ?_, fun i => ?_, fun i => ?_, h.ints.fr fr (fun x n c hx hn => ?_), hbg, h.db⟩
  · by_cases he : m = M
    · subst he
      rw [World.cell?_drew, World.cell?_drew, set_other (addr_ne (by omega)), prev, if_pos hM.symm]
      refine set_same (u := .int .i64 (prev zs m K : Nat)) ?_
      rw [set_other (addr_ne (by omega))]
      exact h.dh m hm
    · rw [ob (2 + m) (by omega) (by omega), prev, if_neg (by omega)]
      exact h.dh m hm
  · rw [World.cell?_drew, World.cell?_drew]
    refine set_same (u := .int .i64 (K : Nat)) ?_
    rw [set_other (addr_ne (by omega)), set_other (addr_ne (by omega))]
    exact h.dk
  · by_cases he : p = K
    · subst he
      rw [gk, hy, hM]
    · rw [og p he]
      exact h.dp p (by omega)
  · by_cases he : p = K
    · subst he
      exact ⟨_, gk⟩
    · rw [og p he]
      exact h.dc p hp
  · simp only [World.frozen?_drew, World.frozen?_setCell]
    exact h.fb i
  · simp only [World.frozen?_drew, World.frozen?_setCell]
    exact h.fg i
  · have := h.db x n c hx hn
    omega

set_option maxRecDepth 100000 in
set_option maxHeartbeats 2000000 in
theorem finLink {w : World} {b : Nat} {dv : Value} {win g : Nat} {zs : List Int} {K i : Nat} (h : Fin4 w b dv win g zs K) (hz : zs.length ≤ 65536) (hK : K ≤ i) (hi : i + 4 ≤ zs.length) :
    Calls Try.prog 20 #[.pointer (some ⟨b, 0, none⟩), .int .i64 i] w fun e w' => e = .returned (.tuple #[]) ∧ Fin4 w' b dv win g zs i ∧ Fr (fun k => k = b ∨ k = g) w w' := by
  have HF := Lib.hid h
  obtain ⟨Z, hZ⟩ : ∃ Z, Z = zs.length := ⟨_, rfl⟩
  rw [← hZ] at hz hi
  have HZ := Lib.hid hZ
  obtain ⟨va, vc, hv⟩ := h.ints.form
  rw [← hZ] at hv
  subst hv
  clear h hZ
  go_enter Try.func20, Try.ntmps20
  go_wp2_with fail
  go_loopg [] (i - K) (fun m wr => ∃ K', m = i - K' ∧ K ≤ K' ∧ K' ≤ i ∧ Fin4 wr b (.slice va Z vc) win g zs K' ∧ Fr (fun k => k = b ∨ k = g) w wr)
  case atStart => exact ⟨K, rfl, by omega, by omega, HF.out, Fr.refl _ _⟩
  case round =>
    obtain ⟨K', hm, hk1, hk2, hf, hfr⟩ := hrel
    have d0 := hf.d0
    have dk := hf.dk
    have da := hf.da
    rw [← HZ.out] at da
    have HF2 := Lib.hid hf
    have HFR := Lib.hid hfr
    clear hf hfr
    by_cases hlt : K' < i
    · have t1 : (K' : Int) < (i : Int) := by omega
      have t2 : (K' : Int) + 4 ≤ (Z : Int) := by omega
      go_wp2_with fail
      go_quiet (fail)
      go_wp2_with fail
      refine (finMark (zs := zs) (dv := .slice va Z vc) (i := K') ?_ ?_ (by rw [← HZ.out]; omega) (by rw [← HZ.out]; omega)).mono ?_
      · exact d0
      · exact HF2.out.ints.keeps ((Fr.refl _ _).drewN _)
      rintro e w5 ⟨rfl, n5, h5⟩
      have k5 : Keeps wr w5 := by rw [h5]; exact ((Fr.refl _ _).drewN _).drewN _
      clear h5
      obtain ⟨z, hz⟩ := HF2.out.dc K' (by rw [← HZ.out]; omega)
      have hf5 := HF2.out.keeps k5 (World.block_lt_of_cell? _ _ d0) (World.block_lt_of_cell? _ _ hz)
      have hg5 := k5.cell (fun h => h) hz
      have hm5 := markN_lt zs K'
      have hh5 := hf5.dh (markN zs K') hm5
      have e0 := hf5.d0
      have ea := hf5.da
      rw [← HZ.out] at ea
      have ek := hf5.dk
      have ff := hf5.fb (2 + markN zs K')
      have fk := hf5.fb 4099
      have fg := hf5.fg K'
      have hbg := hf5.bg
      have hgb := fun h => hf5.bg (Eq.symm h)
      have HF5 := Lib.hid hf5
      have K5 := Lib.hid k5
      obtain ⟨M, hM⟩ : ∃ M, M = markN zs K' := ⟨_, rfl⟩
      obtain ⟨y, hy⟩ : ∃ y, y = prev zs M K' := ⟨_, rfl⟩
      rw [← hM] at hm5 hh5 ff ⊢
      rw [← hy] at hh5
      have HM := Lib.hid hM
      have HY := Lib.hid hy
      have t3 : ¬ (2 + M = 4099) := by omega
      have t4 : ¬ (2 + M = 4098) := by omega
      have t5 : (M : Int) < 4096 := by omega
      have t6 : (K' : Int) < (Z : Int) := by omega
      clear hf5 k5 hz hM hy d0 dk da
      go_wp2_with fail
      go_region
      go_wp2_with fail
      go_region
      go_wp2_with fail
      go_roundg (i - (K' + 1))
      all_goals go_light
      case measure => omega
      refine ⟨K' + 1, rfl, by omega, by omega, HF5.out.step (by rw [← HZ.out]; omega) HM.out HY.out, ?_⟩
      exact ((((((HFR.out.keeps K5.out).setAt (.inr rfl) _ _).setAt (.inl rfl) _ _).setAt (.inl rfl) _ _).drew).drew)
    · have t1 : decide ((K' : Int) < (i : Int)) = false := by simp; omega
      go_wp2_with fail
      go_quiet (fail)
      go_wp2_with fail
      go_end0
      go_light
      have e : K' = i := by omega
      subst e
      refine ⟨rfl, HF2.out.keeps ((Fr.refl _ _).drewN _) (World.block_lt_of_cell? _ _ d0) ?_, HFR.out.drewN _⟩
      obtain ⟨z, hz⟩ := HF2.out.dc 0 (by rw [← HZ.out]; omega)
      exact World.block_lt_of_cell? _ _ hz
end Go.Proofs.Ytkckabfbngkkpaa
