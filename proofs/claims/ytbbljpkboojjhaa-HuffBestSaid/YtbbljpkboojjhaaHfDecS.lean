/- Codes read: the plain law, and laws at the operations. -/
import Derived.Test.YtbbljpkboojjhaaHfKey
import Derived.Test.YtbbljpkboojjhaaTakeRd
import Derived.Test.YtbbljpkboojjhaaHfMay
namespace Go.Proofs.Ytbbljpkboojjhaa
open Go.RowKit Go.Maps

theorem zeroU8 (w : World) : (zeroValue 5).run Try.prog w = .ok (.int .u8 0) w := by kernel_rfl
theorem MapAt.fr {S : Nat → Prop} {w w' : World} {b k : Nat} {zs cs : List Int} (h : MapAt w b k zs cs) (f : Fr S w w') (hb : ¬ S b) : MapAt w' b k zs cs := by
  obtain ⟨D, ⟨es, clock, h1, h2⟩, h3⟩ := h
  exact ⟨D, ⟨es, clock, f.heap hb h1, h2⟩, h3⟩
theorem MapAt.lt {w : World} {b k : Nat} {zs cs : List Int} (h : MapAt w b k zs cs) : b < w.heap.size := by
  obtain ⟨D, ⟨es, clock, h1, h2⟩, h3⟩ := h
  exact (Array.getElem?_eq_some_iff.1 h1).1
theorem MapAt.setCell {w : World} {b k : Nat} {zs cs : List Int} (h : MapAt w b k zs cs) {a : Addr} (ha : b ≠ a.block) (u : Value) : MapAt (w.setCell a u) b k zs cs := by
  obtain ⟨D, h1, h3⟩ := h
  exact ⟨D, h1.setCell ha u, h3⟩
theorem MapAt.alloc {w : World} {b k : Nat} {zs cs : List Int} (h : MapAt w b k zs cs) (o : Obj) : MapAt (w.alloc o) b k zs cs := h.fr (S := fun _ => False) ((Fr.refl _ _).alloc o) (fun h => h)

theorem wpList_look {ops : Array Oper} {rest : List Oper} {o : Oper} {a : Act} {w : World} {Q : Exit → Act → World → Prop} (hg : o.guard = none) (m x : Operand) (hop : o.op = Op.lookup 49 m x true)
    {b k : Nat} {zs cs : List Int} {n c : Int} (hm : a.eval m = .map (some b)) (h : MapAt w b k zs cs) (hx : a.eval x = .agg #[.int .i64 n, .int .i64 c]) (hn : (Lit.int .i64 n).wf = true) (hc : (Lit.int .i64 c).wf = true) {r : Option Nat} (hr : look zs cs k n c = r)
    (hK : wpList Try.prog ops Q rest (a.put o.dst (.tuple #[.int .u8 ((r.getD 0 : Nat) : Int), .bool r.isSome])) w) : wpList Try.prog ops Q (o :: rest) a w := by
  obtain ⟨D, hD, hl⟩ := h
  obtain ⟨l1, l2⟩ := hl n c hn hc
  refine wpList_lookup_own_ok_int w hg m x 49 hop 51 5 .u8 keyedKey Try.underlying49 Try.underlying5 (zeroU8 w) b k D hm hD _ (kl n c) hx (keyOf_kl hn hc) ?_
  intro v hv _
  rw [l2, hr] at hv
  injection hv with hv
  injection hv with _ hv
  rw [l1, hr, ← hv]
  exact hK
theorem wpList_putKey {ops : Array Oper} {rest : List Oper} {o : Oper} {a : Act} {w : World} {Q : Exit → Act → World → Prop} (hg : o.guard = none) (m x v : Operand) (hop : o.op = Op.mapUpdate 49 m x v)
    {b k : Nat} {zs cs : List Int} (hm : a.eval m = .map (some b)) (h : MapAt w b k zs cs) (hk : k < zs.length) (hk2 : k < 256) (h0 : 0 < zs.getD k 0) (hx : a.eval x = .agg #[.int .i64 (zs.getD k 0), .int .i64 (cs.getD k 0)]) (hv : a.eval v = .int .u8 (k : Int)) (hn : (Lit.int .i64 (zs.getD k 0)).wf = true) (hc : (Lit.int .i64 (cs.getD k 0)).wf = true)
    (hK : ∀ w', MapAt w' b (k + 1) zs cs → Fr (fun j => j = b) w w' → wpList Try.prog ops Q rest (a.put o.dst undef) w') : wpList Try.prog ops Q (o :: rest) a w := by
  obtain ⟨D, hD, hl⟩ := h
  have hwk : (Lit.int .u8 (k : Int)).wf = true := by simp [Lit.wf, IntKind.min, IntKind.max, IntKind.signed, IntKind.bits]; omega
  refine wpList_mapUpdate_own w hg m x v 49 hop 51 5 keyedKey Try.underlying49 (plainElem Try.prog 5) b k D hm hD (by unfold maxLen; omega) _ _ (kl (zs.getD k 0) (cs.getD k 0)) hx hv (keyOf_kl hn hc) _ [] (plainElem_int Try.underlying5 hwk) ?_
  intro w' h1 h2
  exact hK w' (mapAt_put hD.isMap hl hk h0 hn hc h1) ((Fr.refl (fun j => j = b) w).grown h2 (fun j hj _ => by injection hj with hj; exact hj.symm))

theorem run_index256 (w : World) {cs : List Int} (h : cs.length = 256) {i : Nat} (hi : i < 256) : (Instr.index 43 (.agg (cells256 cs)) (.int .i64 i)).run Try.prog w = .ok (.int .i64 (cs.getD i 0)) w := by
  have hc := cells256_get cs (i := i) (by omega)
  have h1 : (i : Int) < 256 := by omega
  have hs : (sizeOf 3).run Try.prog w = .ok 1 w := by kernel_rfl
  have hagg : (isAgg 3).run Try.prog w = .ok false w := by kernel_rfl
  simp [Instr.index, asIntOf, run_underlying Try.underlying43, hs, part, hagg, hc, Result.andThen]
  intro h3
  omega

/-- one byte read: n bits had, c the number -/
def symD (zs cs : List Int) : Nat → List Int → Int → Int → Option (Nat × List Int)
  | 0, _, _, _ => none
  | _ + 1, [], _, _ => none
  | f + 1, x :: bs, n, c => if n = 11 then none else
    match look zs cs 256 (n + 1) (c * 2 + x) with
    | some b => some (b, bs)
    | none => symD zs cs f bs (n + 1) (c * 2 + x)
def decN (zs cs : List Int) : Nat → List Int → List Int → Option (List Int × List Int)
  | 0, bs, out => some (out, bs)
  | k + 1, bs, out => match symD zs cs 12 bs 0 0 with
    | none => none
    | some (b, bs') => decN zs cs k bs' (out ++ [(b : Int)])
def decEnd : Option (List Int × List Int) → List Int × Int
  | none => ([], 3)
  | some (out, bs) => if val (bs.take (bs.length % 8)) ≠ 0 ∨ 8 ≤ bs.length then ([], 3) else (out, 0)
def decS (zs ds : List Int) (n : Int) : List Int × Int :=
  if ¬ HMay zs then ([], 4) else if n < 0 ∨ 65536 < n then ([], 1) else
    decEnd (decN zs (codesS zs) n.toNat (rowOf ds) [])
end Go.Proofs.Ytbbljpkboojjhaa
