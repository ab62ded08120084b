/- What is written by a share is read again (plain). -/
import Derived.Test.YtjdpijjoblfoaaaRoundS
import Derived.Test.YtjdpijjoblfoaaaFseDec
import Derived.Test.YtjdpijjoblfoaaaFseEnc
namespace Go.Proofs.Ytjdpijjoblfoaaa

theorem encAll_nil (S : Nat) (zs : List Int) : encAll S zs [] = ((S : Int), []) := rfl
theorem encAll_cons (S : Nat) (zs : List Int) (s : Int) (l : List Int) : encAll S zs (s :: l) = encStep S zs (encAll S zs l) s := by
  unfold encAll
  rw [List.reverse_cons, List.foldl_append]
  rfl

/-- one symbol written and read -/
theorem enc_dec {zs : List Int} {log : Int} (hm : ShMay zs log) {s : Int} (hs : okSym zs s = true) {x : Int} (h0 : ((2 ^ log.toNat : Nat) : Int) ≤ x) (h1 : x < 2 * ((2 ^ log.toNat : Nat) : Int)) (r : List Int) :
    ∃ p n : Nat, encStep (2 ^ log.toNat) zs (x, r) s = (((2 ^ log.toNat : Nat) : Int) + (p : Int), r ++ bitsOf n (x % 2 ^ n)) ∧ p < 2 ^ log.toNat ∧ (symP (2 ^ log.toNat) zs).getD p 0 = s ∧
      decStep (2 ^ log.toNat) zs p (r ++ bitsOf n (x % 2 ^ n)) = (x - ((2 ^ log.toNat : Nat) : Int), r, 0) ∧
      (x = ((2 ^ log.toNat : Nat) : Int) → zs.getD s.toNat 0 < ((2 ^ log.toNat : Nat) : Int) → n = 0 → p ≠ 0) := by
  obtain ⟨hl5, hl9, hn1, hn64, _, hnn, hsum⟩ := id hm
  have hsl := share_size hm
  have hpw := pow_logN ⟨hl5, hl9⟩
  obtain ⟨S, hS⟩ : ∃ S : Nat, S = 2 ^ log.toNat := ⟨_, rfl⟩
  rw [← hS] at hsl hpw h0 h1 ⊢
  obtain ⟨hs0, hsn, hsz⟩ : 0 ≤ s ∧ s < zs.length ∧ zs.getD s.toNat 0 ≠ 0 := by simpa [okSym] using hs
  obtain ⟨j, rfl⟩ := Int.eq_ofNat_of_zero_le hs0
  rw [Int.toNat_natCast] at hsz
  have hj : j < zs.length := by omega
  have hps := posP_share hm hj
  rw [← hS] at hps
  have hf0 := hnn _ (getD_mem hj)
  have hfs := sum_ge hnn (i := j)
  obtain ⟨f, hf⟩ : ∃ f, f = zs.getD j 0 := ⟨_, rfl⟩
  have hpl : (posP (symP S zs) (j : Int) S).length = f.toNat := by rw [hf]; exact hps
  rw [← hf] at hsz hf0 hfs
  obtain ⟨_, g2, g3, g4⟩ := shrN_spec f (by omega) 10 x (by omega) (by
    have : 2 * f * 2 ^ 10 = 2048 * f := by omega
    omega)
  obtain ⟨n, hn⟩ : ∃ n, n = shrN 10 x f := ⟨_, rfl⟩
  rw [← hn] at g2 g3 g4
  obtain ⟨X, hX⟩ : ∃ X, X = x / 2 ^ n := ⟨_, rfl⟩
  rw [← hX] at g2 g4
  have hP : (0 : Int) < 2 ^ n := Int.pow_pos (by decide)
  have hdm := Int.mul_ediv_add_emod x (2 ^ n)
  have hm0 := Int.emod_nonneg x (show (2 : Int) ^ n ≠ 0 by omega)
  have hm1 := Int.emod_lt_of_pos x hP
  rw [← hX] at hdm
  -- the place
  obtain ⟨p, p1, p2, p3, p4⟩ := posP_place (symP S zs) (j : Int) S (X - f).toNat (by omega)
  have hxp : xP zs (symP S zs) p = X := by
    unfold xP
    rw [p3, Int.toNat_natCast, p4, ← hf]
    omega
  -- n is at most log
  have hcast : ((S : Nat) : Int) = (2 : Int) ^ log.toNat := by rw [hS]; simp
  have hXn : (2 : Int) ^ n ≤ X * 2 ^ n := by
    have := Int.mul_le_mul_of_nonneg_right (show (1 : Int) ≤ X by omega) (show (0 : Int) ≤ 2 ^ n by omega)
    omega
  rw [Int.mul_comm] at hdm
  have hnl : n ≤ log.toNat := by
    rcases Nat.lt_or_ge log.toNat n with h | h
    · exfalso
      have : (2 : Int) ^ (log.toNat + 1) ≤ 2 ^ n := by
        have := Nat.pow_le_pow_right (show 0 < 2 by decide) (show log.toNat + 1 ≤ n by omega)
        have h2 : (((2 : Nat) ^ (log.toNat + 1) : Nat) : Int) ≤ ((2 ^ n : Nat) : Int) := by omega
        simpa using h2
      rw [Int.pow_succ] at this
      omega
    · exact h
  have hSX : (S : Int) ≤ X * 2 ^ n := by
    have e : (S : Int) = 2 ^ (log.toNat - n) * 2 ^ n := by rw [hcast, ← Int.pow_add, show log.toNat - n + n = log.toNat by omega]
    have : (2 : Int) ^ (log.toNat - n) ≤ X := by
      rw [hX, Int.le_ediv_iff_mul_le hP, ← e]
      exact h0
    have := Int.mul_le_mul_of_nonneg_right this (show (0 : Int) ≤ 2 ^ n by omega)
    rw [← e] at this
    exact this
  have hsp := shlN_spec ⟨hl5, hl9⟩ (x := X) (by omega) (by rw [← hS]; omega)
  rw [← hS] at hsp
  have hP2 : (0 : Int) < 2 ^ shlN 10 X (S : Int) := Int.pow_pos (by decide)
  have hbn : shlN 10 X (S : Int) = n := shl_unique (S := (S : Int)) (x := X) (by omega) hsp.1 (by omega) hSX (by omega)
  refine ⟨p, n, ?_, p2, p3, ?_, ?_⟩
  · unfold encStep
    simp only [Int.toNat_natCast, ← hf, ← hn, ← hX, p1]
  · have hbk : backS (r ++ bitsOf n (x % 2 ^ n)) (n : Int) = (x % 2 ^ n, r, 0) := by
      have := backS_bits (n := (n : Int)) (x := x % 2 ^ n) r (by unfold PutBad; rw [Int.toNat_natCast]; omega)
      rwa [Int.toNat_natCast] at this
    unfold decStep
    simp only [hxp, hbn, hbk]
    rw [show X * 2 ^ n - (S : Int) + x % 2 ^ n = x - (S : Int) by omega]
  · intro hx hlt hn0 hp0
    subst hn0
    subst hp0
    simp only [posP, List.length_nil] at p4
    rw [Int.pow_zero, Int.mul_one] at hdm
    rw [Int.pow_zero] at hm1
    rw [Int.toNat_natCast, ← hf] at hlt
    omega
/-- the state stays where it may be -/
theorem enc_bound {zs : List Int} {log : Int} (hm : ShMay zs log) : ∀ {l : List Int}, (∀ s ∈ l, okSym zs s = true) →
    ∃ p : Nat, (encAll (2 ^ log.toNat) zs l).1 = ((2 ^ log.toNat : Nat) : Int) + (p : Int) ∧ p < 2 ^ log.toNat ∧ Bin (encAll (2 ^ log.toNat) zs l).2
  | [], _ => ⟨0, by rw [encAll_nil]; simp, by have := pow_logN ⟨hm.1, hm.2.1⟩; omega, Bin.nil⟩
  | s :: l, h => by
    obtain ⟨p, h1, h2, h3⟩ := enc_bound hm (l := l) (fun z hz => h z (List.mem_cons_of_mem _ hz))
    rw [encAll_cons]
    obtain ⟨q, n, e, g1, g2, _⟩ := enc_dec hm (h s (by simp)) (x := (encAll (2 ^ log.toNat) zs l).1) (by omega) (by omega) (encAll (2 ^ log.toNat) zs l).2
    rw [show encAll (2 ^ log.toNat) zs l = ((encAll (2 ^ log.toNat) zs l).1, (encAll (2 ^ log.toNat) zs l).2) from rfl, e]
    exact ⟨q, rfl, g1, h3.append (bitsOf_bin _ _)⟩
/-- what lies behind k symbols read -/
theorem dec_enc {zs : List Int} {log : Int} (hm : ShMay zs log) {l : List Int} (h : ∀ s ∈ l, okSym zs s = true) {p : Nat} (hp : (encAll (2 ^ log.toNat) zs l).1 = ((2 ^ log.toNat : Nat) : Int) + (p : Int)) : ∀ k, k ≤ l.length →
    ∃ q : Nat, decK (2 ^ log.toNat) zs p (encAll (2 ^ log.toNat) zs l).2 k = some (l.take k, q, (encAll (2 ^ log.toNat) zs (l.drop k)).2) ∧ (encAll (2 ^ log.toNat) zs (l.drop k)).1 = ((2 ^ log.toNat : Nat) : Int) + (q : Int)
  | 0, _ => ⟨p, by simp [decK], by rw [List.drop_zero]; exact hp⟩
  | k + 1, hk => by
    obtain ⟨q, h1, h2⟩ := dec_enc hm h hp k (by omega)
    have hd := List.drop_eq_getElem_cons (show k < l.length by omega)
    obtain ⟨p', h3, h4, _⟩ := enc_bound hm (l := l.drop (k + 1)) (fun z hz => h z (List.mem_of_mem_drop hz))
    obtain ⟨q', n, e, g1, g2, g3, _⟩ := enc_dec hm (h l[k] (List.getElem_mem _)) (x := (encAll (2 ^ log.toNat) zs (l.drop (k + 1))).1) (by omega) (by omega) (encAll (2 ^ log.toNat) zs (l.drop (k + 1))).2
    rw [hd, encAll_cons, show encAll (2 ^ log.toNat) zs (l.drop (k + 1)) = ((encAll (2 ^ log.toNat) zs (l.drop (k + 1))).1, (encAll (2 ^ log.toNat) zs (l.drop (k + 1))).2) from rfl, e] at h1 h2
    obtain rfl : q' = q := by
      have h2 : ((2 ^ log.toNat : Nat) : Int) + (q' : Int) = ((2 ^ log.toNat : Nat) : Int) + (q : Int) := h2
      omega
    refine ⟨p', ?_, h3⟩
    rw [decK_succ h1]
    simp only at g3 ⊢
    rw [g3, if_pos rfl, g2]
    congr 2
    · rw [List.take_add_one, List.getElem?_eq_getElem (show k < l.length by omega)]
      rfl
    · congr 1
      omega
theorem shrN_le : ∀ (n : Nat) (x f : Int), shrN n x f ≤ n
  | 0, _, _ => Nat.le_refl _
  | n + 1, x, f => by
    have := shrN_le n (x / 2) f
    simp only [shrN]
    split <;> omega
theorem enc_length (S : Nat) (zs : List Int) : ∀ l : List Int, (encAll S zs l).2.length ≤ 10 * l.length
  | [] => by rw [encAll_nil]; simp
  | s :: l => by
    have h1 := enc_length S zs l
    have h2 := shrN_le 10 (encAll S zs l).1 (zs.getD s.toNat 0)
    rw [encAll_cons]
    unfold encStep
    rw [List.length_append, bitsOf_length, List.length_cons]
    omega
theorem okSyms {zs l : List Int} : l.all (okSym zs) = true ↔ ∀ s ∈ l, okSym zs s = true := List.all_eq_true
/-- what is written is read again -/
theorem fse_round {zs : List Int} {log : Int} (hm : ShMay zs log) {l : List Int} (hl : l.length ≤ 65536) (h : ∀ s ∈ l, okSym zs s = true) :
    ∃ bs, encS zs log l = (bs, 0) ∧ bs.length ≤ 1000000 ∧ decS zs log bs (l.length : Int) = (l, 0) ∧
      ∀ k, l.length = k + 1 → zs.getD (l.getD k 0).toNat 0 < ((2 ^ log.toNat : Nat) : Int) → decS zs log bs (k : Int) = ([], 3) := by
  obtain ⟨p, h1, h2, h3⟩ := enc_bound hm h
  have hlog : ((log.toNat : Nat) : Int) = log := by have := hm.1; omega
  have hpw := pow_logN ⟨hm.1, hm.2.1⟩
  obtain ⟨row, hrow⟩ : ∃ row, row = encRow log.toNat zs l := ⟨_, rfl⟩
  have hr : row = (encAll (2 ^ log.toNat) zs l).2 ++ bitsOf log.toNat ((encAll (2 ^ log.toNat) zs l).1 - 2 ^ log.toNat) := hrow
  have hc : ((2 ^ log.toNat : Nat) : Int) = (2 : Int) ^ log.toNat := by simp
  rw [h1, hc, show (2 : Int) ^ log.toNat + (p : Int) - 2 ^ log.toNat = (p : Int) by omega] at hr
  have hbin : Bin row := by rw [hr]; exact h3.append (bitsOf_bin _ _)
  obtain ⟨m1, m2, m3⟩ := mark_pack hbin
  have hbk : backS row log = ((p : Int), (encAll (2 ^ log.toNat) zs l).2, 0) := by
    rw [hr]
    exact backS_bits _ (by unfold PutBad; have := hm.1; have := hm.2.1; omega)
  have hd0 : ∀ k : Nat, k ≤ 65536 → decS zs log (pack (row ++ [1])) (k : Int) = decN (2 ^ log.toNat) zs p (encAll (2 ^ log.toNat) zs l).2 k := fun k hk => by
    unfold decS markRow
    rw [if_pos hm, if_neg (by omega), if_neg (by intro h; rcases h with h | h; exact m1 h; exact m2 h), m3, hbk, if_neg (by simp)]
    simp
  refine ⟨pack (row ++ [1]), ?_, ?_, ?_, fun k hk hlt => ?_⟩
  · rw [encS, if_pos hm, if_pos ⟨hl, okSyms.2 h⟩, ← hrow]
  · have := enc_length (2 ^ log.toNat) zs l
    rw [pack_length, List.length_append, hr, List.length_append, bitsOf_length]
    simp only [List.length_singleton]
    have := hm.2.1
    omega
  · rw [hd0 _ hl]
    obtain ⟨q, g1, g2⟩ := dec_enc hm h h1 l.length (Nat.le_refl _)
    rw [List.drop_length, encAll_nil] at g1 g2
    have : q = 0 := by
      have g2 : ((2 ^ log.toNat : Nat) : Int) = ((2 ^ log.toNat : Nat) : Int) + (q : Int) := g2
      omega
    unfold decN
    rw [g1]
    simp [this]
  · rw [hd0 _ (by omega)]
    obtain ⟨q, g1, g2⟩ := dec_enc hm h h1 k (by omega)
    have hd := List.drop_eq_getElem_cons (show k < l.length by omega)
    rw [List.drop_eq_nil_of_le (show l.length ≤ k + 1 by omega)] at hd
    have hget : l.getD k 0 = l[k]'(by omega) := by rw [List.getD_eq_getElem?_getD, List.getElem?_eq_getElem (show k < l.length by omega)]; rfl
    rw [hget] at hlt
    obtain ⟨q', n, e, e1, e2, e3, e4⟩ := enc_dec hm (h (l[k]'(by omega)) (List.getElem_mem _)) (x := ((2 ^ log.toNat : Nat) : Int)) (by omega) (by omega) []
    rw [hd, encAll_cons, encAll_nil, e] at g1 g2
    obtain rfl : q' = q := by
      have g2 : ((2 ^ log.toNat : Nat) : Int) + (q' : Int) = ((2 ^ log.toNat : Nat) : Int) + (q : Int) := g2
      omega
    unfold decN
    rw [g1]
    simp only [List.nil_append]
    rw [if_neg]
    rintro ⟨z1, z2⟩
    have hn0 : n = 0 := by
      have := congrArg List.length z2
      rw [bitsOf_length] at this
      exact this
    exact e4 rfl hlt hn0 z1
end Go.Proofs.Ytjdpijjoblfoaaa
