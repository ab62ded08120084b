/- The map of codes. -/
import Derived.Test.YtbbljpkboojjhaaHfEncS
import Derived.Maps.OwnSet
import Derived.DeepKeys4
namespace Go.Proofs.Ytbbljpkboojjhaa
open Go.RowKit Go.Maps

theorem laidOutKey : laidOutB Try.prog = true := by kernel_rfl
theorem rowKey : (51 : TypeId) < Try.prog.types.size := of_decide_eq_true (by kernel_rfl)
theorem wideKey : (match Try.prog.underlying 51 with | some (.array _ _) | some (.struct _) => true | _ => false) = true := by rw [Try.underlying51]
theorem keyedKey : Keyed Try.prog 51 := Keyed.of_law (deep_law_laid laidOutKey (m := 2) (by omega) rowKey (by kernel_rfl) wideKey)
theorem keyTypeKey : Try.prog.keyType 51 = true := by kernel_rfl
theorem cellsKey : Try.prog.cellsOf 51 = 2 := by kernel_rfl
theorem cellsInt : Try.prog.cellsOf 3 = 1 := by kernel_rfl
theorem sizeKey : ∃ m, Try.prog.types.size = m + 1 := ⟨Try.prog.types.size - 1, by have h : 0 < Try.prog.types.size := Nat.lt_of_le_of_lt (Nat.zero_le _) rowKey; omega⟩

def kl (n c : Int) : Lit := .string (keyBytes [.int .i64 n, .int .i64 c])
theorem keyOf_kl {n c : Int} (hn : (Lit.int .i64 n).wf = true) (hc : (Lit.int .i64 c).wf = true) : keyOf Try.prog 51 (.agg #[.int .i64 n, .int .i64 c]) = some (kl n c) := by
  obtain ⟨m, hm⟩ := sizeKey
  have hf : (Value.agg #[.int .i64 n, .int .i64 c]).formed Try.prog 51 = true := by simp [Value.formed, Try.underlying51, cellsKey]
  unfold keyOf
  simp only [Try.underlying51]
  rw [if_pos (by simp [keyTypeKey, hf]), hm]
  simp [Program.keyLits, Try.underlying51, Try.underlying3, Value.cells, cellsKey, cellsInt, hn, hc, kl]
theorem kl_inj {n c n' c' : Int} (hn : (Lit.int .i64 n).wf = true) (hc : (Lit.int .i64 c).wf = true) (hn' : (Lit.int .i64 n').wf = true) (hc' : (Lit.int .i64 c').wf = true) (h : kl n c = kl n' c') : n = n' ∧ c = c' := by
  have h1 := keyOf_kl hn hc
  have h2 := keyOf_kl hn' hc'
  rw [h] at h1
  have := keyedKey.inj h1 h2
  injection this with this
  simp at this
  exact this

/-- whose code it is, of the first b bytes -/
def look (zs cs : List Int) : Nat → Int → Int → Option Nat
  | 0, _, _ => none
  | b + 1, n, c => if b < zs.length ∧ 0 < zs.getD b 0 ∧ zs.getD b 0 = n ∧ cs.getD b 0 = c then some b else look zs cs b n c
theorem look_lt (zs cs : List Int) : ∀ k n c b, look zs cs k n c = some b → b < k ∧ b < zs.length ∧ 0 < zs.getD b 0 ∧ zs.getD b 0 = n ∧ cs.getD b 0 = c
  | 0, _, _, _, h => by simp [look] at h
  | k + 1, n, c, b, h => by
    simp only [look] at h
    split at h
    · rename_i h1
      injection h with h
      subst h
      exact ⟨by omega, h1⟩
    · obtain ⟨h1, h2⟩ := look_lt zs cs k n c b h
      exact ⟨by omega, h2⟩

/-- the map at block b tells the codes of the first k bytes -/
def MapAt (w : World) (b k : Nat) (zs cs : List Int) : Prop := ∃ D : DataW Unit, w.ownsMap Try.prog 51 (plainElem Try.prog 5) b k D ∧
  ∀ n c, (Lit.int .i64 n).wf = true → (Lit.int .i64 c).wf = true → Maps.has D (kl n c) = (look zs cs k n c).isSome ∧ D.atKey (kl n c) (.lit (.int .u8 0)) = .lit (.int .u8 (((look zs cs k n c).getD 0 : Nat) : Int))

theorem mapAt_start (w : World) (zs cs : List Int) : MapAt (w.alloc (.map #[] 0)) w.heap.size 0 zs cs :=
  ⟨.map [], World.ownsMap_made w _ _ _, fun _ _ _ _ => ⟨rfl, rfl⟩⟩
theorem MapAt.skip {w : World} {b k : Nat} {zs cs : List Int} (h : MapAt w b k zs cs) (hn : ¬ (k < zs.length ∧ 0 < zs.getD k 0)) : MapAt w b (k + 1) zs cs := by
  obtain ⟨D, hD, hl⟩ := h
  refine ⟨D, hD.mono (by omega), fun n c h1 h2 => ?_⟩
  simp only [look]
  rw [if_neg (fun h => hn ⟨h.1, h.2.1⟩)]
  exact hl n c h1 h2
theorem mapAt_put {w' : World} {b k : Nat} {zs cs : List Int} {D : DataW Unit} (hm : IsMap D) (hl : ∀ n c, (Lit.int .i64 n).wf = true → (Lit.int .i64 c).wf = true → Maps.has D (kl n c) = (look zs cs k n c).isSome ∧ D.atKey (kl n c) (.lit (.int .u8 0)) = .lit (.int .u8 (((look zs cs k n c).getD 0 : Nat) : Int)))
    (hk : k < zs.length) (h0 : 0 < zs.getD k 0) (hw1 : (Lit.int .i64 (zs.getD k 0)).wf = true) (hw2 : (Lit.int .i64 (cs.getD k 0)).wf = true)
    (h : w'.ownsMap Try.prog 51 (plainElem Try.prog 5) b (k + 1) (D.put (kl (zs.getD k 0) (cs.getD k 0)) (.lit (.int .u8 (k : Int))))) : MapAt w' b (k + 1) zs cs := by
  refine ⟨_, h, fun n c h1 h2 => ?_⟩
  simp only [look]
  by_cases e : zs.getD k 0 = n ∧ cs.getD k 0 = c
  · rw [if_pos ⟨hk, h0, e.1, e.2⟩, e.1, e.2]
    have hkey : WideAt.IsKeyLit (kl n c) := keyedKey.key (keyOf_kl h1 h2)
    exact ⟨has_put_same hm hkey _, atKey_put_same hm hkey _ _⟩
  · rw [if_neg (fun h => e h.2.2)]
    have hne : kl n c ≠ kl (zs.getD k 0) (cs.getD k 0) := fun h => by
      obtain ⟨e1, e2⟩ := kl_inj h1 h2 hw1 hw2 h
      exact e ⟨e1.symm, e2.symm⟩
    rw [has_put_other hne, atKey_put_other hne]
    exact hl n c h1 h2
end Go.Proofs.Ytbbljpkboojjhaa
