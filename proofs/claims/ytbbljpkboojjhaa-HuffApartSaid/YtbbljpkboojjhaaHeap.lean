/- What the walks say of memory: which blocks a call may write, what a slice reads as, what a call owns. -/
import Derived.WalkKit
import Derived.WalkSpells
import Derived.Lib.Hide
import Derived.Deep.Light
import Derived.Laws.Bits64
import Derived.Deep.QuietTactic
namespace Go.Proofs.Ytbbljpkboojjhaa
open Go.RowKit

/-- Outside the blocks S the world w' is as w was; new blocks may have come. -/
structure Fr (S : Nat → Prop) (w w' : World) : Prop where
  os : w'.os = w.os
  tape : w'.tape = w.tape
  output : w'.output = w.output
  size : w.heap.size ≤ w'.heap.size
  block : ∀ k, k < w.heap.size → ¬ S k → w'.heap[k]? = w.heap[k]?

theorem Fr.refl (S : Nat → Prop) (w : World) : Fr S w w := ⟨rfl, rfl, rfl, Nat.le_refl _, fun _ _ _ => rfl⟩
theorem Fr.trans {S T : Nat → Prop} {a b c : World} (h : Fr S a b) (k : Fr T b c) (hs : ∀ i, i < a.heap.size → T i → S i) : Fr S a c :=
  ⟨k.os.trans h.os, k.tape.trans h.tape, k.output.trans h.output, Nat.le_trans h.size k.size,
    fun i hi hn => (k.block i (Nat.lt_of_lt_of_le hi h.size) (fun ht => hn (hs i hi ht))).trans (h.block i hi hn)⟩
theorem Fr.mono {S T : Nat → Prop} {a b : World} (h : Fr S a b) (hs : ∀ i, i < a.heap.size → S i → T i) : Fr T a b :=
  ⟨h.os, h.tape, h.output, h.size, fun i hi hn => h.block i hi (fun ht => hn (hs i hi ht))⟩
theorem Fr.drew {S : Nat → Prop} {a w : World} (h : Fr S a w) : Fr S a w.drew := ⟨h.os, h.tape, h.output, h.size, h.block⟩
theorem Fr.drewN {S : Nat → Prop} {a w : World} (h : Fr S a w) (n : Nat) : Fr S a (w.drewN n) := ⟨h.os, h.tape, h.output, h.size, h.block⟩
theorem Fr.alloc {S : Nat → Prop} {a w : World} (h : Fr S a w) (o : Obj) : Fr S a (w.alloc o) :=
  h.trans (T := fun _ => False) ⟨rfl, rfl, rfl, by simp, fun k hk _ => Below.heap_alloc _ _ _ hk⟩ (fun _ _ h => h.elim)
theorem Fr.setCell {S : Nat → Prop} {a w : World} (h : Fr S a w) {p : Addr} (hp : p.block < a.heap.size → S p.block) (u : Value) : Fr S a (w.setCell p u) :=
  h.trans (T := fun k => k = p.block) ⟨rfl, rfl, rfl, by simp, fun k _ hn => Below.heap_setCell _ _ _ _ hn⟩ (fun i hi e => by subst e; exact hp hi)
theorem Fr.setAt {S : Nat → Prop} {a w : World} (h : Fr S a w) {b : Nat} (hb : S b) (i : Nat) (u : Value) : Fr S a (w.setCell ⟨b, i, none⟩ u) := h.setCell (p := ⟨b, i, none⟩) (fun _ => hb) u
theorem Fr.grown {S : Nat → Prop} {a w w' : World} {row : Option Nat} (h : Fr S a w) (hg : w.grownBy w' row) (hr : ∀ k, row = some k → k < a.heap.size → S k) : Fr S a w' :=
  h.trans (T := fun k => row = some k) ⟨hg.os, hg.tape, hg.output, hg.size, fun k hk hn => hg.block k hk (fun e => hn e.symm)⟩ (fun i hi e => hr i e hi)
theorem Fr.below {S : Nat → Prop} {B : Nat} {w w' : World} (h : Fr S w w') (hB : B ≤ w.heap.size) (hs : ∀ k, k < B → ¬ S k) : Below B w w' :=
  ⟨h.os, h.tape, h.output, h.size, fun k hk => h.block k (by omega) (hs k hk)⟩
theorem Fr.ofBelow {B : Nat} {w w' : World} (h : Below B w w') : Fr (B ≤ ·) w w' :=
  ⟨h.os, h.tape, h.output, h.size, fun k _ hn => h.block k (by omega)⟩
/-- nothing that was there has turned -/
abbrev Keeps (w w' : World) : Prop := Fr (fun _ => False) w w'
theorem Keeps.below {w w' : World} (h : Keeps w w') : Below w.heap.size w w' := Fr.below h (Nat.le_refl _) (fun _ _ h => h)
theorem Keeps.ofBelow {w w' : World} (h : Below w.heap.size w w') : Keeps w w' := ⟨h.os, h.tape, h.output, h.size, fun k hk _ => h.block k hk⟩
theorem Keeps.fr {S : Nat → Prop} {w w' : World} (h : Keeps w w') : Fr S w w' := h.mono fun _ _ h => h.elim
theorem Fr.keeps {S : Nat → Prop} {a b c : World} (h : Fr S a b) (k : Keeps b c) : Fr S a c := h.trans k fun _ _ h => h.elim

theorem Fr.cell {S : Nat → Prop} {w w' : World} (h : Fr S w w') {p : Addr} {v : Value} (hp : ¬ S p.block) (hc : w.cell? p = some v) : w'.cell? p = some v :=
  (World.cell?_of_block (h.block p.block (World.block_lt_of_cell? w p hc) hp)).trans hc
theorem Fr.frozen {S : Nat → Prop} {w w' : World} (h : Fr S w w') {p : Addr} (hp : ¬ S p.block) (hb : p.block < w.heap.size) : w'.frozen? p = w.frozen? p :=
  World.frozen?_of_block (h.block p.block hb hp)
theorem Fr.heap {S : Nat → Prop} {w w' : World} (h : Fr S w w') {b : Nat} {o : Obj} (hp : ¬ S b) (hc : w.heap[b]? = some o) : w'.heap[b]? = some o :=
  (h.block b (Array.getElem?_eq_some_iff.1 hc).1 hp).trans hc

theorem heap_set {w : World} {b : Nat} {cs : Array Value} {E : TypeId} {f : Nat × Nat} (h : w.heap[b]? = some (.cells cs E f)) (i : Nat) (u : Value) :
    (w.setCell ⟨b, i, none⟩ u).heap[b]? = some (.cells (cs.setIfInBounds i u) E f) := by
  simp [World.setCell, Array.getElem?_modify, h]
theorem heap_drew {w : World} {b : Nat} {o : Obj} (h : w.heap[b]? = some o) : w.drew.heap[b]? = some o := h
theorem heap_drewN {w : World} {b n : Nat} {o : Obj} (h : w.heap[b]? = some o) : (w.drewN n).heap[b]? = some o := h
theorem frozen_no {w : World} {b : Nat} {cs : Array Value} {E : TypeId} (h : w.heap[b]? = some (.cells cs E (0, 0))) (i : Nat) : w.frozen? ⟨b, i, none⟩ = false := by
  simp [World.frozen?, h]
theorem add_zero (x : Addr) : x.add 0 = x := by simp [Addr.add]
theorem add_add (x : Addr) (a b : Nat) : (x.add a).add b = x.add (a + b) := by
  unfold Addr.add
  by_cases ha : a = 0
  · subst ha; simp
  · by_cases hb : b = 0
    · subst hb; simp
    · simp [ha, hb, Nat.add_assoc]
theorem add_block (x : Addr) (a : Nat) : (x.add a).block = x.block := by unfold Addr.add; split <;> rfl

theorem wraps_i64 (n : Int) (h₀ : 0 ≤ n) (h₁ : n < 2 ^ 63) : IntKind.i64.wrap n = n := by rw [IntKind.wrap_i64]; omega
theorem wraps_u64 (n : Int) (h₀ : 0 ≤ n) (h₁ : n < 2 ^ 64) : IntKind.u64.wrap n = n := by rw [IntKind.wrap_u64]; omega
theorem bits_or_comm (k : IntKind) (x y : Int) : bits .or k x y = bits .or k y x := by simp only [bits, BitVec.or_comm]
theorem or_i64 (i : Nat) (x y : Int) (hx₀ : 0 ≤ x) (hx : x < 2 ^ i) (hx₁ : x < 9223372036854775808) (hy₀ : 0 ≤ y) (hy : y % 2 ^ i = 0) (hy₁ : y < 9223372036854775808) : bits .or .i64 x y = x + y := by
  rw [bits_or_comm, bits_join .i64 63 (by decide) wraps_i64 i y x hy₀ hy (by simpa using hy₁) hx₀ hx (by simpa using hx₁), Int.add_comm]
theorem or_u64 (i : Nat) (x y : Int) (hx₀ : 0 ≤ x) (hx : x < 2 ^ i) (hx₁ : x < 18446744073709551616) (hy₀ : 0 ≤ y) (hy : y % 2 ^ i = 0) (hy₁ : y < 18446744073709551616) : bits .or .u64 x y = x + y := by
  rw [bits_or_comm, bits_join .u64 64 (by decide) wraps_u64 i y x hy₀ hy (by simpa using hy₁) hx₀ hx (by simpa using hx₁), Int.add_comm]
theorem or_u8 (i : Nat) (x y : Int) (hx₀ : 0 ≤ x) (hx : x < 2 ^ i) (hx₁ : x < 256) (hy₀ : 0 ≤ y) (hy : y % 2 ^ i = 0) (hy₁ : y < 256) : bits .or .u8 x y = x + y := by
  rw [bits_or_comm, bits_join .u8 8 (by decide) wraps_u8 i y x hy₀ hy (by simpa using hy₁) hx₀ hx (by simpa using hx₁), Int.add_comm]
theorem and_u8_127 (x : Int) (h₀ : 0 ≤ x) (h₁ : x < 256) : bits .and .u8 x 127 = x % 128 := bits_mask .u8 8 (by decide) wraps_u8 7 (by decide) x h₀ h₁
theorem and_i64_1 (x : Int) (h₀ : 0 ≤ x) (h₁ : x < 9223372036854775808) : bits .and .i64 x 1 = x % 2 := bits_mask .i64 63 (by decide) wraps_i64 1 (by decide) x h₀ (by simpa using h₁)

/-- A slice of numbers: it reads as 'zs'. -/
def Ints (k : IntKind) (w : World) (v : Value) (zs : List Int) : Prop :=
  (∀ z ∈ zs, (Lit.int k z).wf = true) ∧
  ∃ a cap, v = .slice a zs.length cap ∧ zs.length ≤ cap ∧ cap ≤ maxLen ∧ (a = none → cap = 0) ∧
    ∀ i, i < zs.length → ∃ b off, a = some ⟨b, off, none⟩ ∧ w.cell? ⟨b, off + i, none⟩ = some (.int k (zs.getD i 0))

theorem Ints.fr {S : Nat → Prop} {k : IntKind} {w w' : World} {v : Value} {zs : List Int} (h : Ints k w v zs) (f : Fr S w w')
    (hs : ∀ x n c, v = .slice (some x) n c → 0 < n → ¬ S x.block) : Ints k w' v zs := by
  obtain ⟨h1, a, cap, rfl, h2, h3, h4, h5⟩ := h
  refine ⟨h1, a, cap, rfl, h2, h3, h4, fun i hi => ?_⟩
  obtain ⟨b, off, rfl, hc⟩ := h5 i hi
  exact ⟨b, off, rfl, f.cell (p := ⟨b, off + i, none⟩) (hs ⟨b, off, none⟩ _ _ rfl (by omega)) hc⟩
theorem Ints.frB {S : Nat → Prop} {k : IntKind} {w w' : World} {v : Value} {zs : List Int} (h : Ints k w v zs) (f : Fr S w w') (hs : ∀ b, v.ownBlock = some b → ¬ S b) : Ints k w' v zs :=
  h.fr f fun x n c e _ => hs _ (by rw [e]; rfl)
theorem ownBlock_map (a : Option Addr) (j n c : Nat) : (Value.slice (a.map (·.add j)) n c).ownBlock = (Value.slice a n c).ownBlock := by
  cases a with
  | none => rfl
  | some x => simp [Value.ownBlock, add_block]
theorem ownBlock_len (a : Option Addr) (n c n' c' : Nat) : (Value.slice a n c).ownBlock = (Value.slice a n' c').ownBlock := by cases a <;> rfl
theorem Ints.keeps {k : IntKind} {w w' : World} {v : Value} {zs : List Int} (h : Ints k w v zs) (f : Keeps w w') : Ints k w' v zs := h.fr f fun _ _ _ _ _ h => h
theorem Ints.below {k : IntKind} {w w' : World} {v : Value} {zs : List Int} (h : Ints k w v zs) (f : Below w.heap.size w w') : Ints k w' v zs := h.keeps (Keeps.ofBelow f)

theorem wf_byte {z : Int} (h : (Lit.int .u8 z).wf = true) : 0 ≤ z ∧ z < 256 := by
  simp [Lit.wf, IntKind.min, IntKind.max, IntKind.signed, IntKind.bits] at h
  omega
theorem wf_int {z : Int} (h : (Lit.int .i64 z).wf = true) : -9223372036854775808 ≤ z ∧ z ≤ 9223372036854775807 := by
  simp [Lit.wf, IntKind.min, IntKind.max, IntKind.signed, IntKind.bits] at h
  omega

theorem ints_byte {zs : List Int} (h : ∀ z ∈ zs, (Lit.int .u8 z).wf = true) {i : Nat} (hi : i < zs.length) : 0 ≤ zs.getD i 0 ∧ zs.getD i 0 < 256 := by
  rw [List.getD_eq_getElem?_getD, List.getElem?_eq_getElem hi]
  exact wf_byte (h _ (List.getElem_mem hi))
theorem ints_int {zs : List Int} (h : ∀ z ∈ zs, (Lit.int .i64 z).wf = true) {i : Nat} (hi : i < zs.length) : -9223372036854775808 ≤ zs.getD i 0 ∧ zs.getD i 0 ≤ 9223372036854775807 := by
  rw [List.getD_eq_getElem?_getD, List.getElem?_eq_getElem hi]
  exact wf_int (h _ (List.getElem_mem hi))

/-- A slice that the call owns, of numbers. -/
def Own (k : IntKind) (E : TypeId) (B : Nat) (w : World) (v : Value) (zs : List Int) : Prop :=
  (∀ z ∈ zs, (Lit.int k z).wf = true) ∧ w.ownsRow B E 1 v zs.length (zs.map (Value.int k))

theorem Own.ints {k : IntKind} {E : TypeId} {B : Nat} {w : World} {v : Value} {zs : List Int} (h : Own k E B w v zs) : Ints k w v zs := by
  obtain ⟨h1, h2, h3⟩ := h
  refine ⟨h1, ?_⟩
  rcases h3 with ⟨rfl, h0⟩ | ⟨g, cap, cur, rfl, hb, hg, hn, hm, hs, ht⟩
  · exact ⟨none, 0, by rw [h0], by omega, by unfold maxLen; omega, fun _ => rfl, fun i hi => by omega⟩
  · refine ⟨_, cap, rfl, hn, hm, (fun h => by cases h), fun i hi => ⟨g, 0, rfl, ?_⟩⟩
    rw [Nat.zero_add, cell_of_row w g i cur E (0, 0) hg]
    have : (cur.toList.take (zs.length * 1))[i]? = (zs.map (Value.int k))[i]? := by rw [ht]
    rw [List.getElem?_take, if_pos (by omega), List.getElem?_map, List.getElem?_eq_getElem hi] at this
    simpa [List.getD_eq_getElem?_getD, List.getElem?_eq_getElem hi] using this

theorem Own.form {k : IntKind} {E : TypeId} {B : Nat} {w : World} {v : Value} {zs : List Int} (h : Own k E B w v zs) : ∃ a c, v = .slice a zs.length c := by
  obtain ⟨_, a, c, hv, _⟩ := h.ints
  exact ⟨a, c, hv⟩
theorem Own.formNe {k : IntKind} {E : TypeId} {B : Nat} {w : World} {v : Value} {zs : List Int} (h : Own k E B w v zs) (h0 : 0 < zs.length) : ∃ g c, v = .slice (some ⟨g, 0, none⟩) zs.length c ∧ zs.length ≤ c ∧ c ≤ 9223372036854775807 ∧ B ≤ g ∧ g < w.heap.size := by
  rcases h.2.2 with ⟨_, h1⟩ | ⟨g, cap, cur, hv, hb, hg, hn, hm, _⟩
  · omega
  · unfold maxLen at hm
    exact ⟨g, cap, hv, hn, hm, hb, (Array.getElem?_eq_some_iff.1 hg).1⟩
theorem Own.nil (k : IntKind) (E : TypeId) (B : Nat) (w : World) : Own k E B w (.slice none 0 0) [] := ⟨fun z hz => by simp at hz, World.ownsRow_nil _ _ _ _⟩
theorem Own.keeps {k : IntKind} {E : TypeId} {B : Nat} {w w' : World} {v : Value} {zs : List Int} (h : Own k E B w v zs) (f : Keeps w w') : Own k E B w' v zs :=
  ⟨h.1, h.2.kept (row := none) ⟨f.os, f.tape, f.output, f.size, fun k hk _ => f.block k hk (fun h => h)⟩ (by cases hv : v.ownBlock <;> simp)⟩
theorem Own.fr {S : Nat → Prop} {k : IntKind} {E : TypeId} {B : Nat} {w w' : World} {v : Value} {zs : List Int} (h : Own k E B w v zs) (f : Fr S w w') (hs : ∀ b, v.ownBlock = some b → ¬ S b) : Own k E B w' v zs := by
  refine ⟨h.1, h.2.1, ?_⟩
  rcases h.2.2 with hn | ⟨g, cap, cur, rfl, hb, hgg, rest⟩
  · exact .inl hn
  · exact .inr ⟨g, cap, cur, rfl, hb, f.heap (hs g rfl) hgg, rest⟩
theorem Own.lt {k : IntKind} {E : TypeId} {B : Nat} {w : World} {v : Value} {zs : List Int} (h : Own k E B w v zs) : ∀ b, v.ownBlock = some b → B ≤ b ∧ b < w.heap.size := h.2.lt
theorem Keeps.own {k : IntKind} {E : TypeId} {B : Nat} {w wr w' : World} {v : Value} {zs : List Int} (hk : Keeps w wr) (h : Own k E B wr v zs) (hB : w.heap.size ≤ B) (f : Fr (fun j => v.ownBlock = some j) wr w') : Keeps w w' :=
  hk.trans f fun i hi e => absurd (h.lt i e).1 (by omega)
theorem Own.set {k : IntKind} {E : TypeId} {B : Nat} {w : World} {g n c : Nat} {zs : List Int} (h : Own k E B w (.slice (some ⟨g, 0, none⟩) n c) zs) (i : Nat) {y : Int} (hy : (Lit.int k y).wf = true) :
    Own k E B (w.setCell ⟨g, i, none⟩ (.int k y)) (.slice (some ⟨g, 0, none⟩) n c) (zs.set i y) := by
  have hn : zs.length = n := by
    obtain ⟨_, _, hv⟩ := h.form
    cases hv; rfl
  have h2 := h.2
  rw [hn] at h2
  refine ⟨fun z hz => ?_, ?_⟩
  · rcases List.mem_or_eq_of_mem_set hz with hz | rfl
    · exact h.1 z hz
    · exact hy
  · rw [List.length_set, hn, List.map_set]
    exact (h2.stored i (.int k y)).1
theorem Own.at {k : IntKind} {E : TypeId} {B : Nat} {w : World} {g n c : Nat} {zs : List Int} (h : Own k E B w (.slice (some ⟨g, 0, none⟩) n c) zs) {i : Nat} (hi : i < zs.length) :
    w.cell? ⟨g, i, none⟩ = some (.int k (zs.getD i 0)) ∧ w.frozen? ⟨g, i, none⟩ = false := by
  obtain ⟨_, a, c', hv, _, _, _, hc⟩ := h.ints
  cases hv
  obtain ⟨b, off, e, hcell⟩ := hc i hi
  cases e
  rw [Nat.zero_add] at hcell
  refine ⟨hcell, ?_⟩
  rcases h.2.2 with ⟨h', _⟩ | ⟨g', cap, cur, h', _, hg, _⟩
  · cases h'
  · cases h'
    exact frozen_no hg i
theorem Own.mono {k : IntKind} {E : TypeId} {B B' : Nat} {w : World} {v : Value} {zs : List Int} (h : Own k E B w v zs) (hB : B' ≤ B) : Own k E B' w v zs := by
  refine ⟨h.1, h.2.1, ?_⟩
  rcases h.2.2 with hn | ⟨g, cap, cur, rfl, hb, rest⟩
  · exact .inl hn
  · exact .inr ⟨g, cap, cur, rfl, by omega, rest⟩

end Go.Proofs.Ytbbljpkboojjhaa
