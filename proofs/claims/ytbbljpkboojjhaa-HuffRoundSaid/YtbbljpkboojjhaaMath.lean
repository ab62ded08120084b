/- Plain laws on rows of bits, as lists of whole numbers: their value, their bytes. No program is in sight here. -/
namespace Go.Proofs.Ytbbljpkboojjhaa

/-- the value of a row of bits, the lowest first -/
def val : List Int → Int
  | [] => 0
  | b :: r => b + 2 * val r

/-- the lowest n bits of a number -/
def bitsOf : Nat → Int → List Int
  | 0, _ => []
  | n + 1, v => v % 2 :: bitsOf n (v / 2)

/-- all are 0 or 1 -/
def Bin (l : List Int) : Prop := ∀ b ∈ l, b = 0 ∨ b = 1

/-- all are bytes -/
def Byt (l : List Int) : Prop := ∀ b ∈ l, 0 ≤ b ∧ b < 256

/-- the bits of bytes -/
def rowOf : List Int → List Int
  | [] => []
  | x :: r => bitsOf 8 x ++ rowOf r

theorem bitsOf_length (n : Nat) (v : Int) : (bitsOf n v).length = n := by
  induction n generalizing v with
  | zero => rfl
  | succ n ih => simp [bitsOf, ih]

theorem bitsOf_bin (n : Nat) (v : Int) : Bin (bitsOf n v) := by
  induction n generalizing v with
  | zero => intro b hb; simp [bitsOf] at hb
  | succ n ih =>
    intro b hb
    simp only [bitsOf, List.mem_cons] at hb
    rcases hb with rfl | hb
    · omega
    · exact ih _ b hb

theorem Bin.append {a b : List Int} (ha : Bin a) (hb : Bin b) : Bin (a ++ b) := by
  intro x hx
  rcases List.mem_append.1 hx with h | h
  · exact ha x h
  · exact hb x h

theorem Bin.tail {a : List Int} (ha : Bin a) (k : Nat) : Bin (a.drop k) := fun x hx => ha x (List.mem_of_mem_drop hx)
theorem Bin.init {a : List Int} (ha : Bin a) (k : Nat) : Bin (a.take k) := fun x hx => ha x (List.mem_of_mem_take hx)
theorem Bin.nil : Bin [] := fun x hx => by simp at hx

theorem rowOf_length (l : List Int) : (rowOf l).length = 8 * l.length := by
  induction l with
  | nil => rfl
  | cons x r ih => simp only [rowOf, List.length_append, bitsOf_length, ih, List.length_cons]; omega

theorem rowOf_bin (l : List Int) : Bin (rowOf l) := by
  induction l with
  | nil => exact Bin.nil
  | cons x r ih => exact (bitsOf_bin _ _).append ih

theorem rowOf_append (a b : List Int) : rowOf (a ++ b) = rowOf a ++ rowOf b := by
  induction a with
  | nil => rfl
  | cons x r ih => simp [rowOf, ih]

theorem val_nonneg {l : List Int} (h : Bin l) : 0 ≤ val l := by
  induction l with
  | nil => simp [val]
  | cons b r ih =>
    have := ih (fun x hx => h x (List.mem_cons_of_mem _ hx))
    have := h b List.mem_cons_self
    simp only [val]; omega

theorem val_lt {l : List Int} (h : Bin l) : val l < 2 ^ l.length := by
  induction l with
  | nil => simp [val]
  | cons b r ih =>
    have := ih (fun x hx => h x (List.mem_cons_of_mem _ hx))
    have := h b List.mem_cons_self
    simp only [val, List.length_cons, Int.pow_succ]; omega

theorem val_append (a b : List Int) : val (a ++ b) = val a + 2 ^ a.length * val b := by
  induction a with
  | nil => simp [val]
  | cons x r ih =>
    simp only [List.cons_append, val, ih, List.length_cons, Int.pow_succ]
    rw [Int.mul_add, ← Int.mul_assoc, Int.mul_comm 2 (2 ^ r.length)]
    omega

theorem val_bitsOf (n : Nat) (v : Int) : val (bitsOf n v) = v % 2 ^ n := by
  induction n generalizing v with
  | zero => simp [bitsOf, val, Int.emod_one]
  | succ n ih =>
    simp only [bitsOf, val, ih]
    rw [Int.pow_succ, Int.mul_comm (2 ^ n) 2]
    have h2 : (0 : Int) < 2 ^ n := Int.pow_pos (by decide)
    have := Int.emod_def v (2 * 2 ^ n)
    rw [this, Int.emod_def (v / 2) (2 ^ n), Int.mul_sub, ← Int.mul_assoc 2 (2 ^ n), Int.ediv_ediv_of_nonneg (by decide)]
    omega

theorem bitsOf_val {l : List Int} (h : Bin l) : bitsOf l.length (val l) = l := by
  induction l with
  | nil => rfl
  | cons b r ih =>
    have h1 := ih (fun x hx => h x (List.mem_cons_of_mem _ hx))
    have h2 := h b List.mem_cons_self
    simp only [List.length_cons, bitsOf, val]
    have e1 : (b + 2 * val r) % 2 = b := by omega
    have e2 : (b + 2 * val r) / 2 = val r := by omega
    rw [e1, e2, h1]

theorem val_take_succ (l : List Int) (k : Nat) (h : k < l.length) : val (l.take (k + 1)) = val (l.take k) + l.getD k 0 * 2 ^ k := by
  rw [List.take_succ_eq_append_getElem h, val_append]
  have : (l.take k).length = k := by simp; omega
  rw [this]
  simp only [val, List.getD_eq_getElem?_getD, List.getElem?_eq_getElem h, Option.getD_some, Int.mul_zero, Int.add_zero]
  rw [Int.mul_comm]

theorem bitsOf_getD (n : Nat) (v : Int) (i : Nat) (h : i < n) : (bitsOf n v).getD i 0 = v / 2 ^ i % 2 := by
  induction n generalizing v i with
  | zero => omega
  | succ n ih =>
    cases i with
    | zero => simp [bitsOf]
    | succ i =>
      have := ih (v / 2) i (by omega)
      simp only [bitsOf, List.getD_cons_succ, this]
      rw [Int.pow_succ, Int.mul_comm (2 ^ i) 2, Int.ediv_ediv_of_nonneg (by decide)]

theorem rowOf_getD (l : List Int) (i : Nat) (h : i < 8 * l.length) : (rowOf l).getD i 0 = l.getD (i / 8) 0 / 2 ^ (i % 8) % 2 := by
  induction l generalizing i with
  | nil => simp at h
  | cons x r ih =>
    simp only [List.length_cons] at h
    simp only [rowOf, List.getD_eq_getElem?_getD]
    by_cases hi : i < 8
    · rw [List.getElem?_append_left (by rw [bitsOf_length]; exact hi)]
      have e1 : i / 8 = 0 := by omega
      have e2 : i % 8 = i := by omega
      have := bitsOf_getD 8 x i hi
      rw [List.getD_eq_getElem?_getD] at this
      rw [this, e1, e2]; rfl
    · rw [List.getElem?_append_right (by rw [bitsOf_length]; omega), bitsOf_length]
      have := ih (i - 8) (by omega)
      rw [List.getD_eq_getElem?_getD] at this
      rw [this]
      have e1 : i / 8 = (i - 8) / 8 + 1 := by omega
      have e2 : (i - 8) % 8 = i % 8 := by omega
      rw [e1, e2, List.getD_eq_getElem?_getD, List.getElem?_cons_succ]

/-- bits as bytes -/
def packN : Nat → List Int → List Int
  | 0, _ => []
  | n + 1, l => val (l.take 8) :: packN n (l.drop 8)
def pack (l : List Int) : List Int := packN ((l.length + 7) / 8) l

theorem packN_length (n : Nat) (l : List Int) : (packN n l).length = n := by
  induction n generalizing l with
  | zero => rfl
  | succ n ih => simp [packN, ih]
theorem pack_length (l : List Int) : (pack l).length = (l.length + 7) / 8 := packN_length _ _

theorem packN_append (n : Nat) (a b : List Int) (h : a.length = 8 * n) (m : Nat) : packN (n + m) (a ++ b) = packN n a ++ packN m b := by
  induction n generalizing a with
  | zero => have : a = [] := List.eq_nil_of_length_eq_zero (by omega); subst this; simp [packN]
  | succ n ih =>
    rw [show n + 1 + m = (n + m) + 1 from by omega]
    simp only [packN]
    rw [List.take_append_of_le_length (by omega), List.drop_append_of_le_length (by omega), ih (a.drop 8) (by simp; omega)]
    rfl

theorem pack_append {a b : List Int} {n : Nat} (h : a.length = 8 * n) : pack (a ++ b) = pack a ++ pack b := by
  unfold pack
  rw [List.length_append, show (a.length + b.length + 7) / 8 = n + (b.length + 7) / 8 from by omega, packN_append n a b h, show (a.length + 7) / 8 = n from by omega]

theorem pack_nil : pack [] = [] := rfl
theorem pack_small {l : List Int} (h0 : 0 < l.length) (h : l.length ≤ 8) : pack l = [val l] := by
  unfold pack
  rw [show (l.length + 7) / 8 = 1 from by omega]
  simp only [packN]
  rw [List.take_of_length_le h]

theorem byt_val {l : List Int} (h : Bin l) (hl : l.length ≤ 8) : 0 ≤ val l ∧ val l < 256 := by
  refine ⟨val_nonneg h, Int.lt_of_lt_of_le (val_lt h) ?_⟩
  have h8 : ∀ n : Nat, n ≤ 8 → (2 : Int) ^ n ≤ 256 := by decide
  exact h8 _ hl

theorem packN_byt (n : Nat) {l : List Int} (h : Bin l) : Byt (packN n l) := by
  induction n generalizing l with
  | zero => intro b hb; simp [packN] at hb
  | succ n ih =>
    intro b hb
    simp only [packN, List.mem_cons] at hb
    rcases hb with rfl | hb
    · exact byt_val (h.init 8) (by simp; omega)
    · exact ih (h.tail 8) b hb
theorem pack_byt {l : List Int} (h : Bin l) : Byt (pack l) := packN_byt _ h

/-- the bits of the bytes of bits are the bits, and some 0 behind -/
theorem rowOf_packN (n : Nat) {l : List Int} (h : Bin l) (hl : l.length = 8 * n) : rowOf (packN n l) = l := by
  induction n generalizing l with
  | zero => have : l = [] := List.eq_nil_of_length_eq_zero (by omega); subst this; rfl
  | succ n ih =>
    simp only [packN, rowOf]
    have e : (l.take 8).length = 8 := by simp; omega
    have := bitsOf_val (h.init 8)
    rw [e] at this
    rw [this, ih (h.tail 8) (by simp; omega), List.take_append_drop]

theorem packN_pad (n k : Nat) (l : List Int) : packN n (l ++ List.replicate k 0) = packN n l := by
  induction n generalizing l k with
  | zero => rfl
  | succ n ih =>
    simp only [packN]
    by_cases h : 8 ≤ l.length
    · rw [List.take_append_of_le_length h, List.drop_append_of_le_length h, ih]
    · have e1 : l.drop 8 = [] := List.drop_eq_nil_of_le (by omega)
      have e2 : (l ++ List.replicate k 0).drop 8 = [] ++ List.replicate (k - (8 - l.length)) 0 := by
        rw [List.drop_append, e1]; simp
      rw [e2, ih, e1]
      congr 1
      rw [List.take_append, val_append, List.take_replicate]
      have hz : ∀ m : Nat, val (List.replicate m 0) = 0 := by
        intro m; induction m with
        | zero => rfl
        | succ m ih => simp [List.replicate_succ, val, ih]
      rw [hz, Int.mul_zero, Int.add_zero]

theorem rowOf_pack {l : List Int} (h : Bin l) : rowOf (pack l) = l ++ List.replicate (8 * ((l.length + 7) / 8) - l.length) 0 := by
  unfold pack
  rw [← packN_pad _ (8 * ((l.length + 7) / 8) - l.length) l]
  apply rowOf_packN
  · intro x hx
    rcases List.mem_append.1 hx with hx | hx
    · exact h x hx
    · exact .inl (List.eq_of_mem_replicate hx)
  · simp; omega

theorem pack_rowOf {l : List Int} (h : Byt l) : pack (rowOf l) = l := by
  induction l with
  | nil => rfl
  | cons x r ih =>
    have hx := h x List.mem_cons_self
    rw [rowOf, pack_append (n := 1) (bitsOf_length _ _), ih (fun y hy => h y (List.mem_cons_of_mem _ hy)), pack_small (by rw [bitsOf_length]; decide) (by rw [bitsOf_length]; decide), val_bitsOf]
    rw [Int.emod_eq_of_lt hx.1 (by simpa using hx.2)]
    rfl

theorem val_split (l : List Int) (k : Nat) : val l = val (l.take k) + 2 ^ (min k l.length) * val (l.drop k) := by
  have := val_append (l.take k) (l.drop k)
  rw [List.take_append_drop] at this
  rw [this, List.length_take]

theorem val_low {l : List Int} (h : Bin l) (hl : 8 ≤ l.length) : val l % 256 = val (l.take 8) := by
  have h1 := val_split l 8
  rw [show min 8 l.length = 8 from by omega] at h1
  have h2 := byt_val (h.init 8) (by simp; omega)
  have : (2 : Int) ^ 8 = 256 := by decide
  omega
theorem val_high {l : List Int} (h : Bin l) (hl : 8 ≤ l.length) : val l / 256 = val (l.drop 8) := by
  have h1 := val_split l 8
  rw [show min 8 l.length = 8 from by omega] at h1
  have h2 := byt_val (h.init 8) (by simp; omega)
  have : (2 : Int) ^ 8 = 256 := by decide
  omega

end Go.Proofs.Ytbbljpkboojjhaa
