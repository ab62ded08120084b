/- The finder: a mark of four bytes; how many bytes are the same. -/
import Derived.Test.YtkckabfbngkkpaaFindS
import Derived.BigQuiet
namespace Go.Proofs.Ytkckabfbngkkpaa
open Go.RowKit

/-- a mark of four bytes -/
def markOf (x0 x1 x2 x3 : Int) : Int := bits BinOp.or .u32 (bits BinOp.or .u32 (bits BinOp.or .u32 x0 (x1 * 256)) (x2 * 65536)) (x3 * 16777216) * 2654435761 % 4294967296 / 1048576
def markN (zs : List Int) (i : Nat) : Nat := (markOf (zs.getD i 0) (zs.getD (i + 1) 0) (zs.getD (i + 2) 0) (zs.getD (i + 3) 0)).toNat
theorem markOf_lt (x0 x1 x2 x3 : Int) : 0 ≤ markOf x0 x1 x2 x3 ∧ markOf x0 x1 x2 x3 < 4096 := by unfold markOf; omega
theorem markN_lt (zs : List Int) (i : Nat) : markN zs i < 4096 := by
  have := markOf_lt (zs.getD i 0) (zs.getD (i + 1) 0) (zs.getD (i + 2) 0) (zs.getD (i + 3) 0)
  unfold markN; omega
theorem markN_lcp {zs : List Int} {a b : Nat} (h : 4 ≤ lcp zs a b) : markN zs a = markN zs b := by
  have h0 := (lcp_next (zs := zs) (a := a) (b := b) (n := 0) (by omega)).2.2
  have h1 := (lcp_next (zs := zs) (a := a) (b := b) (n := 1) (by omega)).2.2
  have h2 := (lcp_next (zs := zs) (a := a) (b := b) (n := 2) (by omega)).2.2
  have h3 := (lcp_next (zs := zs) (a := a) (b := b) (n := 3) (by omega)).2.2
  rw [Nat.add_zero, Nat.add_zero] at h0
  unfold markN
  rw [h0, h1, h2, h3]
/-- the last place ahead of k with the mark m, and one; or 0 -/
def prev (zs : List Int) (m : Nat) : Nat → Nat
  | 0 => 0
  | k + 1 => if markN zs k = m then k + 1 else prev zs m k
theorem prev_le (zs : List Int) (m : Nat) : ∀ k, prev zs m k ≤ k
  | 0 => by simp [prev]
  | k + 1 => by
    have := prev_le zs m k
    simp only [prev]
    split <;> omega
theorem prev_none {zs : List Int} {m : Nat} : ∀ {k}, prev zs m k = 0 → ∀ x, x < k → markN zs x ≠ m
  | 0, _, x, hx => by omega
  | k + 1, h, x, hx => by
    simp only [prev] at h
    split at h
    · omega
    case isFalse hm =>
      by_cases he : x = k
      · rw [he]; exact hm
      · exact prev_none h x (by omega)
theorem prev_some {zs : List Int} {m p : Nat} : ∀ {k}, prev zs m k = p + 1 → p < k ∧ markN zs p = m ∧ ∀ x, p < x → x < k → markN zs x ≠ m
  | 0, h => by simp [prev] at h
  | k + 1, h => by
    simp only [prev] at h
    split at h
    case isTrue hm =>
      obtain rfl : k = p := by omega
      exact ⟨by omega, hm, fun x h1 h2 => by omega⟩
    case isFalse hm =>
      obtain ⟨h1, h2, h3⟩ := prev_some h
      refine ⟨by omega, h2, fun x h4 h5 => ?_⟩
      by_cases he : x = k
      · rw [he]; exact hm
      · exact h3 x h4 (by omega)

set_option maxRecDepth 100000 in
set_option maxHeartbeats 2000000 in
theorem finMark {w : World} {b : Nat} {dv : Value} {zs : List Int} {i : Nat} (hd : w.cell? ⟨b, 0, none⟩ = some dv) (h : Ints .u8 w dv zs) (hz : zs.length ≤ 65536) (hi : i + 4 ≤ zs.length) :
    Calls Try.prog 21 #[.pointer (some ⟨b, 0, none⟩), .int .i64 i] w fun e w' => e = .returned (.int .i64 (markN zs i : Int)) ∧ ∃ m, w' = w.drewN m := by
  have hmk : (markN zs i : Int) = markOf (zs.getD i 0) (zs.getD (i + 1) 0) (zs.getD (i + 2) 0) (zs.getD (i + 3) 0) := by
    have := markOf_lt (zs.getD i 0) (zs.getD (i + 1) 0) (zs.getD (i + 2) 0) (zs.getD (i + 3) 0)
    unfold markN
    omega
  rw [hmk]
  clear hmk
  obtain ⟨va, vc, hv⟩ := h.form
  obtain ⟨Z, hZ⟩ : ∃ Z, Z = zs.length := ⟨_, rfl⟩
  rw [← hZ] at hv hz hi
  subst hv
  have hZc := h.len.2
  obtain ⟨hwf, va', vc', hve, _, _, _, hc⟩ := h
  cases hve
  obtain ⟨db, off, rfl, _⟩ := hc 0 (by omega)
  have cc : ∀ k, k < zs.length → w.cell? ⟨db, off + k, none⟩ = some (.int .u8 (zs.getD k 0)) := fun k hk => by
    obtain ⟨_, _, e, hcell⟩ := hc k hk
    cases e
    exact hcell
  have c0 := cc i (by omega)
  have c1 := cc (i + 1) (by omega)
  have c2 := cc (i + 2) (by omega)
  have c3 := cc (i + 3) (by omega)
  have b0 := ints_byte hwf (show i < zs.length by omega)
  have b1 := ints_byte hwf (show i + 1 < zs.length by omega)
  have b2 := ints_byte hwf (show i + 2 < zs.length by omega)
  have b3 := ints_byte hwf (show i + 3 < zs.length by omega)
  rw [← Nat.add_assoc] at c1 c2 c3
  generalize zs.getD i 0 = x0 at *
  generalize zs.getD (i + 1) 0 = x1 at *
  generalize zs.getD (i + 2) 0 = x2 at *
  generalize zs.getD (i + 3) 0 = x3 at *
  have hic : i < vc := by omega
  clear hwf hc cc hZ
  go_enter Try.func21, Try.ntmps21
  go_wp2_with fail
  go_quiet (fail)
  go_wp2_with fail
  go_ret
  go_light
  exact ⟨rfl, _, rfl⟩

set_option maxRecDepth 100000 in
set_option maxHeartbeats 2000000 in
theorem finSame {w : World} {p : Nat} {dv : Value} {zs : List Int} {a b : Nat} (hd : w.cell? ⟨p, 0, none⟩ = some dv) (h : Ints .u8 w dv zs) (hz : zs.length ≤ 65536) (hab : a < b) (hb : b < zs.length) :
    Calls Try.prog 22 #[.pointer (some ⟨p, 0, none⟩), .int .i64 a, .int .i64 b] w fun e w' => e = .returned (.int .i64 (lcp zs a b : Int)) ∧ Keeps w w' := by
  obtain ⟨va, vc, hv⟩ := h.form
  have hl := h.len'
  obtain ⟨Z, hZ⟩ : ∃ Z, Z = zs.length := ⟨_, rfl⟩
  rw [← hZ] at hv hz hb hl
  subst hv
  have hZc := h.len.2
  have HI := Lib.hid h
  have HZ := Lib.hid hZ
  have HD := Lib.hid hd
  have hle := lcp_le zs a b
  obtain ⟨R, hR⟩ : ∃ R, R = lcp zs a b := ⟨_, rfl⟩
  rw [← hR] at hle ⊢
  have HR := Lib.hid hR
  obtain ⟨db, off, rfl⟩ : ∃ db off, va = some ⟨db, off, none⟩ := by
    obtain ⟨_, _, _, hve, _, _, _, hc⟩ := h
    cases hve
    obtain ⟨db, off, e, _⟩ := hc 0 (by omega)
    exact ⟨db, off, e⟩
  have HC : Hid (∀ k, k < Z → w.cell? ⟨db, off + k, none⟩ = some (.int .u8 (zs.getD k 0)) ∧ 0 ≤ zs.getD k 0 ∧ zs.getD k 0 < 256) := fun k hk => by
    obtain ⟨hwf, _, _, hve, _, _, _, hc⟩ := h
    cases hve
    obtain ⟨_, _, e, hcell⟩ := hc k (by omega)
    cases e
    exact ⟨hcell, ints_byte hwf (by omega)⟩
  clear h hZ hR hd
  go_enter Try.func22, Try.ntmps22
  go_wp2_with fail
  go_loopw [7] (fun i wr => ∃ (n : Nat), n ≤ R ∧ i = .int .i64 n ∧ Keeps w wr) (fun i _ => 259 - (intOf i).toNat)
  case atStart => exact ⟨0, by omega, rfl, Fr.refl _ _⟩
  case round =>
    obtain ⟨n, hn, rfl, hk⟩ := hrel
    have hd := hk.cell (fun h => h) HD.out
    have hor : (n < 259 ∧ b + n < Z ∧ zs.getD (a + n) 0 = zs.getD (b + n) 0 ∧ n < R) ∨ (n = R ∧ n = 259) ∨ (n = R ∧ n < 259 ∧ Z ≤ b + n) ∨ (n = R ∧ n < 259 ∧ b + n < Z ∧ zs.getD (a + n) 0 ≠ zs.getD (b + n) 0) := by
      by_cases he : n = R
      · have := lcp_end (he.trans HR.out)
        rw [← HZ.out] at this
        omega
      · have := lcp_next (zs := zs) (a := a) (b := b) (n := n) (by rw [← HR.out]; omega)
        rw [← HZ.out] at this
        omega
    have HK := Lib.hid hk
    clear hk
    rcases hor with ⟨g1, g2, g3, g4⟩ | ⟨g1, g2⟩ | ⟨g1, g2, g3⟩ | ⟨g1, g2, g3, g4⟩
    · have ca := HK.out.cell (fun h => h) (HC.out (a + n) (by omega)).1
      have cb := HK.out.cell (fun h => h) (HC.out (b + n) (by omega)).1
      rw [g3] at ca
      generalize zs.getD (b + n) 0 = x at *
      have t1 : (n : Int) < 259 := by omega
      have t2 : (b : Int) + (n : Int) < (Z : Int) := by omega
      have t3 : (0 : Int) ≤ (b : Int) + (n : Int) := by omega
      have t4 : (a : Int) + (n : Int) < (Z : Int) := by omega
      have t5 : (0 : Int) ≤ (a : Int) + (n : Int) := by omega
      clear g3
      go_wp2_with fail
      go_quiet (fail)
      go_wp2_with fail
      go_roundw
      all_goals go_light
      case rel => exact ⟨n + 1, by omega, by go_num, HK.out.drewN _⟩
      case measure => simp [intOf]; omega
    · have t1 : decide ((n : Int) < 259) = false := by simp; omega
      have G1 := Lib.hid g1
      clear g1 g2
      go_wp2_with fail
      go_quiet (fail)
      go_wp2_with fail
      go_ret
      go_light
      exact ⟨by rw [G1.out]; rfl, HK.out.drewN _⟩
    · have t1 : (n : Int) < 259 := by omega
      have t2 : decide ((b : Int) + (n : Int) < (Z : Int)) = false := by simp; omega
      have G1 := Lib.hid g1
      clear g1 g2
      go_wp2_with fail
      go_quiet (fail)
      go_wp2_with fail
      go_ret
      go_light
      exact ⟨by rw [G1.out]; rfl, HK.out.drewN _⟩
    · have ca := HK.out.cell (fun h => h) (HC.out (a + n) (by omega)).1
      have cb := HK.out.cell (fun h => h) (HC.out (b + n) (by omega)).1
      generalize zs.getD (b + n) 0 = x at *
      generalize zs.getD (a + n) 0 = y at *
      have hne : (y == x) = false := by simpa using g4
      have t1 : (n : Int) < 259 := by omega
      have t2 : (b : Int) + (n : Int) < (Z : Int) := by omega
      have t3 : (0 : Int) ≤ (b : Int) + (n : Int) := by omega
      have t4 : (a : Int) + (n : Int) < (Z : Int) := by omega
      have t5 : (0 : Int) ≤ (a : Int) + (n : Int) := by omega
      have G1 := Lib.hid g1
      clear g1 g4
      go_wp2_with fail
      go_quiet (fail)
      go_wp2_with fail
      go_ret
      go_light
      exact ⟨by rw [G1.out]; rfl, HK.out.drewN _⟩
end Go.Proofs.Ytkckabfbngkkpaa
