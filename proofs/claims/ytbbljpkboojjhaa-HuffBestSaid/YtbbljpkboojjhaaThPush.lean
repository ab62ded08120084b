/- A thing pushed. -/
import Derived.Test.YtbbljpkboojjhaaThOps
namespace Go.Proofs.Ytbbljpkboojjhaa
open Go.RowKit

theorem cellsT_one {w : World} {D : Int → Th} {n : Int} {cs : Array Value} {E : TypeId} (hcs : cs = (cellsT D n).toArray) : Cells (w.alloc (.cells cs E)) (.slice (some ⟨w.heap.size, 0, none⟩) 1 1) 1 3 (cellsT D n) := by
  subst hcs
  refine ⟨by simp [cellsT], some ⟨w.heap.size, 0, none⟩, 1, rfl, by omega, by unfold maxLen; omega, (fun h => by cases h), fun i hi => ⟨w.heap.size, 0, rfl, ?_⟩⟩
  rw [Nat.zero_add, World.cell?_alloc_new]
  simp
theorem cellsT_whole (D : Int → Th) (n : Int) : ∀ y ∈ cellsT D n, y.oneCell' = true := by
  intro y hy
  simp only [cellsT, List.mem_cons, List.not_mem_nil, or_false] at hy
  rcases hy with rfl | rfl | rfl <;> rfl
theorem flatT_snoc (D : Int → Th) (q : List Int) (n : Int) : q.flatMap (cellsT D) ++ cellsT D n = (q ++ [n]).flatMap (cellsT D) := by simp

section
variable {w : World} {t : TypeId} {z : Value} {bytes B : Nat} {D : Int → Th} {q : List Int} {n : Int}
/-- a thing appended to what is owned -/
theorem wpList_thing {ops : Array Oper} {rest : List Oper} {o : Oper} {a : Act} {Q : Exit → Act → World → Prop} {cs : Array Value} (hgd : o.guard = none) (s x : Operand)
    (ho : o.op = .call { callee := .builtin .append, args := #[s, x], argTypes := #[t, t] }) (he : Elem Try.prog t 63 z 3 bytes) (v : Value) (hs : a.eval s = v) (hx : a.eval x = .slice (some ⟨w.heap.size, 0, none⟩) 1 1) (hown : OwnT D B w v q)
    (hcs : cs = (cellsT D n).toArray) (hroom : (q.length + 1) * bytes ≤ 140737488355328) (hB : B ≤ w.heap.size)
    (h : ∀ v' w', OwnT D B w' v' (q ++ [n]) → Fr (fun j => v.ownBlock = some j) w w' → (v'.ownBlock = v.ownBlock ∨ v'.ownBlock = some (w.heap.size + 1)) → wpList Try.prog ops Q rest (a.put o.dst v') w') : wpList Try.prog ops Q (o :: rest) a (w.alloc (.cells cs 63)) :=
  wpList_app hgd s x ho he v hs hx (hown.keeps ((Fr.refl _ _).alloc _)).row (cellsT_one hcs) (cellsT_whole D n) hroom (by simp; omega) fun v' w' h2 h3 h4 => h v' w'
    (OwnT.of_row (by rw [← flatT_snoc]; simpa using h2)) (((Fr.refl _ _).alloc _).trans h3 fun _ _ h => h) (by simpa using h4)
theorem step_thing {ops : Array Oper} {o : Oper} {a : Act} {K : Act → World → Prop} {Q : Exit → Act → World → Prop} {E' : Prop} {cs : Array Value} (hgd : o.guard = none) (s x : Operand)
    (ho : o.op = .call { callee := .builtin .append, args := #[s, x], argTypes := #[t, t] }) (he : Elem Try.prog t 63 z 3 bytes) (v : Value) (hs : a.eval s = v) (hx : a.eval x = .slice (some ⟨w.heap.size, 0, none⟩) 1 1) (hown : OwnT D B w v q)
    (hcs : cs = (cellsT D n).toArray) (hroom : (q.length + 1) * bytes ≤ 140737488355328) (hB : B ≤ w.heap.size)
    (h : ∀ v' w', OwnT D B w' v' (q ++ [n]) → Fr (fun j => v.ownBlock = some j) w w' → (v'.ownBlock = v.ownBlock ∨ v'.ownBlock = some (w.heap.size + 1)) → K (a.put o.dst v') w') : if Region.wanted o (yielded ops a.tmps) = true then Oper.wp Try.prog o a (w.alloc (.cells cs 63)) K Q else E' := by
  rw [if_pos (by simp [Region.wanted, hgd])]
  exact wp_app s x ho he v hs hx (hown.keeps ((Fr.refl _ _).alloc _)).row (cellsT_one hcs) (cellsT_whole D n) hroom (by simp; omega) fun v' w' h2 h3 h4 => h v' w'
    (OwnT.of_row (by rw [← flatT_snoc]; simpa using h2)) (((Fr.refl _ _).alloc _).trans h3 fun _ _ h => h) (by simpa using h4)
end

theorem push_close {D : Int → Th} {w w5 : World} {b off : Nat} {v v5 : Value} {q' : List Int} (H5 : OwnT D 0 w5 v5 q') (F5 : Fr (fun j => v.ownBlock = some j) w.drew w5) (A5 : v5.ownBlock = v.ownBlock ∨ v5.ownBlock = some (w.drew.heap.size + 1)) (HB : v.ownBlock ≠ some b) (hbl : b < w.heap.size) :
    ThAt D w (w5.setCell ⟨b, off, none⟩ v5) b off v v5 q' := by
  have hb5 : v5.ownBlock ≠ some b := fun h => by
    rcases A5 with h5 | h5
    · exact HB (h5.symm.trans h)
    · rw [h5] at h
      have : w.drew.heap.size = w.heap.size := rfl
      injection h
      omega
  refine ⟨H5.fr ((Fr.refl (fun k => k = b) w5).setAt rfl off _) (fun k hk h => hb5 (by rw [hk]; exact congrArg some h)), fun cs E h => heap_set (F5.heap (fun h => HB h) h) off _, ?_, ?_⟩
  · exact ((((Fr.refl (fun k => k = b ∨ v.ownBlock = some k) w).drew).trans F5 (fun i _ h => .inr h)).setAt (.inl rfl) off _)
  · rcases A5 with h5 | h5
    · exact .inl h5
    · refine .inr fun k hk => ?_
      rw [h5] at hk
      have : w.drew.heap.size = w.heap.size := rfl
      injection hk
      omega

set_option maxHeartbeats 1000000 in
theorem tPush {D : Int → Th} {w : World} {b off : Nat} {v : Value} {q : List Int} {x : Int} {cs : Array Value} {E : TypeId} (h : OwnT D 0 w v q) (hn : q.length ≤ 1000000000) (hh : w.heap[b]? = some (.cells cs E (0, 0))) (hc : cs[off]? = some v) (hb : v.ownBlock ≠ some b) :
    Calls Try.prog 66 #[.pointer (some ⟨b, off, none⟩), .iface 63 (.agg (cellsT D x).toArray)] w fun e w' => e = .returned (.tuple #[]) ∧ ∃ v', ThAt D w w' b off v v' (q ++ [x]) := by
  obtain ⟨a, c, hv⟩ := h.form
  obtain ⟨n, hn'⟩ : ∃ n, n = q.length := ⟨_, rfl⟩
  rw [← hn'] at hv hn
  subst hv
  have H := Lib.hid h
  have HH := Lib.hid hh
  have HB := Lib.hid hb
  have HN := Lib.hid hn'
  have cp := cell_of_row w b off cs E (0, 0) hh
  rw [hc] at cp
  have fp := frozen_no hh off
  have hbl : b < w.heap.size := World.block_lt_of_cell? _ _ cp
  clear h hh hc hb hn'
  have hta := taThing
  have hta' := taThing (.agg (cellsT D x).toArray)
  simp only [cellsT] at hta' ⊢
  go_enter Try.func66, Try.ntmps66
  go_wp2_with fail
  go_region_law ((refine step_thing (D := D) (n := x) (w := w.drew) rfl _ _ (by rfl) elemT (.slice a n c) (by rfl) (by rfl) (H.out.keeps (Fr.refl _ _).drew) (by rfl) (by rw [← HN.out]; omega) (Nat.zero_le _) ?_; intro v5 w5 hown5 hfr5 hat5; have cp5 := hfr5.cell (p := ⟨b, off, none⟩) (fun h => HB.out h) cp; have fp5 := (hfr5.frozen (p := ⟨b, off, none⟩) (fun h => HB.out h) hbl).trans fp; obtain ⟨a5, c5, hv5⟩ := hown5.form; subst hv5; have H5 := Lib.hid hown5; have F5 := Lib.hid hfr5; have A5 := Lib.hid hat5; clear hown5 hfr5 hat5))
  all_goals
    go_wp2_with fail
    go_end0
    go_light
    have hl5 : (q ++ [x]).length = q.length + 1 := by simp
    have hc := push_close H5.out F5.out A5.out HB.out hbl (off := off)
    rw [hl5] at hc
    exact ⟨rfl, _, hc⟩
end Go.Proofs.Ytbbljpkboojjhaa
