/- slices.Backward over a slice of numbers: its iterator's contract. -/
import Derived.RangeFuncBound
import Derived.RangeFuncLeaves
import Derived.Shelf.Abstract
import Derived.Shelf.RegionOpen
import Derived.OwnWalkIn
import Derived.TacticsInMore
import Derived.LoopNIn
import Derived.LoopIn
import Derived.Test.YtjdpijjoblfoaaaChecked
import Derived.Test.YtjdpijjoblfoaaaRound
namespace Go.Proofs.Ytjdpijjoblfoaaa
open Go.RowKit Go.Shelf

attribute [local go_sem] Oper.semAt_some

/-- the places of a row, from the last one down, as many as k -/
def Dn (len k : Nat) (pre : List (Fin len)) : Prop := pre.map (·.val) = (List.range k).map (fun i => len - 1 - i)
theorem Dn.length {len k : Nat} {pre : List (Fin len)} (h : Dn len k pre) : pre.length = k := by
  have := congrArg List.length h
  simpa using this
theorem Dn.next {len k : Nat} {pre : List (Fin len)} (h : Dn len k pre) (hk : k < len) : Dn len (k + 1) (pre ++ [⟨len - 1 - k, by omega⟩]) := by
  unfold Dn at *
  rw [List.map_append, h, List.range_succ, List.map_append]
  rfl

set_option maxRecDepth 100000 in
set_option maxHeartbeats 2000000 in
theorem backward1 (n : Nat) (hn : 1 ≤ n) (l Bs len cap : Nat) (a : Option Addr) (zs : List Int) (hlen : len = zs.length) (hl : len ≤ 1000000000) (S : Nat → Prop) (hS : ¬ S Bs) (J Jx : List (Fin len) → World → Prop)
    (W : World) (hi : Ints .i64 W (.slice a len cap) zs) (hSa : 0 < len → ∀ x, a = some x → ¬ S x.block) (hBs : W.cell? ⟨Bs, 0, none⟩ = some (.slice a len cap))
    (hY : ∀ (pre : List (Fin len)) (x : Fin len) W, J pre W → pre.length < len → YieldAt Fence.wide (n - 1) Try.prog l #[.int .i64 (x.val : Int), .int .i64 (zs.getD x.val 0)] W fun e W' =>
      (e = .returned (.bool true) ∧ J (pre ++ [x]) W' ∧ Fr S W W') ∨ (e = .returned (.bool false) ∧ Jx (pre ++ [x]) W')) (h0 : J [] W) :
    CallsIn Fence.wide n Try.prog 48 #[.func (.yield l) #[] #[], .pointer (some ⟨Bs, 0, none⟩)] W fun e W' => (∃ v, e = .returned v) ∧
      ((∃ ys, Dn len len ys ∧ J ys W') ∨ (∃ pre, True ∧ Jx pre W')) := by
  have HI := Lib.hid hi
  have HSa := Lib.hid hSa
  have HLN := Lib.hid hlen
  clear hi hSa hlen
  refine callsIn_of_wp Try.func48 rfl trivial ?_ rfl
  simp only [Try.ntmps48, List.size_toArray, List.length_cons, List.length_nil, Nat.reduceAdd, Nat.reduceSub, Array.replicate_succ, Array.replicate_zero, List.push_toArray, List.append_toArray, List.nil_append, List.cons_append]
  gi_wp2
  gi_loopw [3] (fun i wr => ∃ (k : Nat) (pre : List (Fin len)), k ≤ len ∧ i = .int .i64 ((len : Int) - 1 - (k : Int)) ∧ Dn len k pre ∧ J pre wr ∧ Fr S W wr)
    (fun i _ => (intOf i + 1).toNat)
  case atStart => exact ⟨0, [], Nat.zero_le _, by simp, rfl, h0, Fr.refl _ _⟩
  case round =>
    obtain ⟨k, pre, hk, rfl, hdn, hJs, hnx⟩ := hrel
    have hbs : wr.cell? ⟨Bs, 0, none⟩ = some (.slice a len cap) := hnx.cell hS hBs
    have HNX := Lib.hid hnx
    have HDN := Lib.hid hdn
    clear hnx
    by_cases hlt : k < len
    · obtain ⟨b, off, ha, hc⟩ : ∃ b off, a = some ⟨b, off, none⟩ ∧ wr.cell? ⟨b, off + (len - 1 - k), none⟩ = some (.int .i64 (zs.getD (len - 1 - k) 0)) := by
        obtain ⟨_, a', c', e, _, _, _, hcc⟩ := HI.out
        have ea : a = a' := by injection e
        subst ea
        obtain ⟨b, off, e2, hcell⟩ := hcc (len - 1 - k) (by rw [← HLN.out]; omega)
        exact ⟨b, off, e2, HNX.out.cell (p := ⟨b, off + (len - 1 - k), none⟩) (HSa.out (by omega) ⟨b, off, none⟩ e2) hcell⟩
      subst ha
      obtain ⟨j, hj⟩ : ∃ j, j = len - 1 - k := ⟨_, rfl⟩
      have hje : (len : Int) - 1 - (k : Int) = (j : Int) := by omega
      have hjl : j < len := by omega
      obtain ⟨fn, tmps, assign, body, hy, hR⟩ := hY pre ⟨j, hjl⟩ wr hJs (by rw [hdn.length]; exact hlt)
      rw [← hj] at hc
      have HJ := Lib.hid hj
      dsimp only at hy
      obtain ⟨z, hz⟩ : ∃ z, z = zs.getD j 0 := ⟨_, rfl⟩
      rw [← hz] at hc hy
      have HZ := Lib.hid hz
      clear hj hJs hdn hz
      rw [hje]
      gi_wp2
      refine hR.mono ?_
      rintro e W3 (⟨rfl, hJ3, hk3⟩ | ⟨rfl, hJx3⟩)
      · gi_wp2
        go_roundw
        case rel => exact ⟨k + 1, _, by omega, by have := HJ.out; congr 1; omega, by have := HDN.out.next hlt; simp only [← HJ.out] at this; exact this, hJ3, HNX.out.trans hk3 (fun _ _ h => h)⟩
        case measure => (simp [intOf]; try omega)
      · gi_wp2
        refine bodyPost_ret (results_none rfl _ _ _) rfl ?_
        exact ⟨⟨_, rfl⟩, .inr ⟨_, trivial, hJx3⟩⟩
    · obtain rfl : k = len := by omega
      gi_wp2
      go_end0
      exact ⟨⟨_, rfl⟩, .inl ⟨_, HDN.out, hJs⟩⟩

set_option maxHeartbeats 1000000 in
theorem backward0 (w : World) (a : Option Addr) (len cap : Nat) : Calls Try.prog 31 #[.slice a len cap] w fun e w' => e = .returned (.func (.func 48) #[] #[.pointer (some ⟨w.heap.size, 0, none⟩)]) ∧ w' = w.alloc (.cells #[.slice a len cap] 22) := by
  go_enter Try.func31, Try.ntmps31
  go_wp2_with fail
  go_ret
  exact ⟨rfl, rfl⟩

theorem backward_stops (n : Nat) (hn : 1 ≤ n) (Bs len cap : Nat) (a : Option Addr) (zs : List Int) (hlen : len = zs.length) (hl : len ≤ 1000000000) (S : Nat → Prop) (hS : ¬ S Bs) (w : World) (hi : Ints .i64 w (.slice a len cap) zs) (hSa : 0 < len → ∀ x, a = some x → ¬ S x.block)
    (hBs : w.cell? ⟨Bs, 0, none⟩ = some (.slice a len cap)) :
    SeqStopsK Fence.wide n Try.prog 48 #[.pointer (some ⟨Bs, 0, none⟩)] (fun x : Fin len => #[Value.int .i64 (x.val : Int), .int .i64 (zs.getD x.val 0)]) (Fr S) (fun ys => Dn len len ys) (fun _ => True) len w := fun l J Jx W hW _ _ hY h0 => by
  have hk : Keeps w W := Keeps.ofBelow hW
  exact backward1 n hn l Bs len cap a zs hlen hl S hS J Jx W (hi.keeps hk) hSa (hk.cell (fun h => h) hBs) hY h0
end Go.Proofs.Ytjdpijjoblfoaaa
