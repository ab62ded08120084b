/- The document's examples of layer 3. -/
import Derived.Test.YtjdpijjoblfoaaaShare
import Derived.Test.YtjdpijjoblfoaaaFseEnc
import Derived.Test.YtjdpijjoblfoaaaFseDec
namespace Go.Proofs.Ytjdpijjoblfoaaa
open Go.RowKit

theorem exShare : shareS [3, 1, 0, 4] 5 = ([12, 4, 0, 16], 0) := by decide +kernel
theorem exEnc : encS [32] 5 [0, 0, 0] = ([32], 0) := by decide +kernel
theorem exDec : decS [32] 5 [32] 3 = ([0, 0, 0], 0) := by decide +kernel
theorem ints_cells {w : World} {k : IntKind} {E : TypeId} {zs : List Int} (hw : ∀ z ∈ zs, (Lit.int k z).wf = true) (h0 : zs.length ≤ 1000) : Ints k (w.alloc (.cells (zs.map (Value.int k)).toArray E)) (.slice (some ⟨w.heap.size, 0, none⟩) zs.length zs.length) zs := by
  refine ⟨hw, some ⟨w.heap.size, 0, none⟩, zs.length, rfl, Nat.le_refl _, by unfold maxLen; omega, (fun h => by cases h), fun i hi => ⟨w.heap.size, 0, rfl, ?_⟩⟩
  rw [Nat.zero_add, World.cell?_alloc_new]
  simp [List.getD_eq_getElem?_getD, hi]

set_option maxRecDepth 100000 in
set_option maxHeartbeats 4000000 in
theorem livesFse (w : World) : Calls Try.prog 12 #[] w fun e w' => e = .returned (.bool true) ∧ Keeps w w' := by
  have hi1 : ∀ w : World, Ints .i64 (w.alloc (.cells #[.int .i64 3, .int .i64 1, .int .i64 0, .int .i64 4] 3)) (.slice (some ⟨w.heap.size, 0, none⟩) 4 4) [3, 1, 0, 4] := fun w => ints_cells (zs := [3, 1, 0, 4]) (by decide) (by decide)
  have hi2 : ∀ w : World, Ints .i64 (w.alloc (.cells #[.int .i64 32] 3)) (.slice (some ⟨w.heap.size, 0, none⟩) 1 1) [32] := fun w => ints_cells (zs := [32]) (by decide) (by decide)
  have hi3 : ∀ w : World, Ints .i64 (w.alloc (.cells #[.int .i64 0, .int .i64 0, .int .i64 0] 3)) (.slice (some ⟨w.heap.size, 0, none⟩) 3 3) [0, 0, 0] := fun w => ints_cells (zs := [0, 0, 0]) (by decide) (by decide)
  have hi4 : ∀ w : World, Ints .u8 (w.alloc (.cells #[.int .u8 32] 5)) (.slice (some ⟨w.heap.size, 0, none⟩) 1 1) [32] := fun w => ints_cells (zs := [32]) (by decide) (by decide)
  have H1 := Lib.hid hi1
  have H2 := Lib.hid hi2
  have H3 := Lib.hid hi3
  have H4 := Lib.hid hi4
  clear hi1 hi2 hi3 hi4
  go_enter Try.func12, Try.ntmps12
  go_wp2_with fail
  refine (fseShare (H1.out w) (by decide)).mono ?_
  rw [exShare]
  rintro e1 w1 ⟨x1, rfl, ho1, k1⟩
  have hk1 : Keeps w w1 := ((Fr.refl _ _).alloc _).keeps k1
  obtain ⟨g1, c1, rfl, _, _, _, hg1⟩ := ho1.formNe (by decide)
  obtain ⟨d0, _⟩ := ho1.at (i := 0) (by decide)
  obtain ⟨d1, _⟩ := ho1.at (i := 1) (by decide)
  obtain ⟨d3, _⟩ := ho1.at (i := 3) (by decide)
  have D0 : Hid (w1.cell? ⟨g1, 0, none⟩ = some (.int .i64 12)) := d0
  have D1 : Hid (w1.cell? ⟨g1, 1, none⟩ = some (.int .i64 4)) := d1
  have D3 : Hid (w1.cell? ⟨g1, 3, none⟩ = some (.int .i64 16)) := d3
  have HK1 := Lib.hid hk1
  clear ho1 d0 d1 d3 hk1 k1
  go_wp2_with fail
  have kk2 : Keeps w1 ((w1.alloc (.cells #[.int .i64 32] 3)).alloc (.cells #[.int .i64 0, .int .i64 0, .int .i64 0] 3)) := ((Fr.refl _ _).alloc _).alloc _
  have i2 := (H2.out w1).keeps ((Fr.refl _ _).alloc (.cells #[.int .i64 0, .int .i64 0, .int .i64 0] 3))
  have i3 := H3.out (w1.alloc (.cells #[.int .i64 32] 3))
  rw [World.size_alloc] at i3
  refine (fseEncode i2 i3 (by decide)).mono ?_
  rw [exEnc]
  rintro e2 w2 ⟨x2, rfl, ho2, k2⟩
  have hk2 : Keeps w1 w2 := kk2.keeps k2
  obtain ⟨g2, c2, rfl, _, _, _, hg2⟩ := ho2.formNe (by decide)
  obtain ⟨d2, _⟩ := ho2.at (i := 0) (by decide)
  have D2 : Hid (w2.cell? ⟨g2, 0, none⟩ = some (.int .u8 32)) := d2
  have HK2 := Lib.hid hk2
  clear ho2 d2 hk2 k2 i2 i3 kk2
  go_wp2_with fail
  have kk3 : Keeps w2 ((w2.alloc (.cells #[.int .i64 32] 3)).alloc (.cells #[.int .u8 32] 5)) := ((Fr.refl _ _).alloc _).alloc _
  have i2 := (H2.out w2).keeps ((Fr.refl _ _).alloc (.cells #[.int .u8 32] 5))
  have i4 := H4.out (w2.alloc (.cells #[.int .i64 32] 3))
  rw [World.size_alloc] at i4
  refine (fseDecode i2 i4 (by decide) (by decide) (by decide)).mono ?_
  rw [exDec]
  rintro e3 w3 ⟨x3, rfl, ho3, k3⟩
  have hk3 : Keeps w2 w3 := kk3.keeps k3
  obtain ⟨g3, c3, rfl, _, _, _, hg3⟩ := ho3.formNe (by decide)
  have d2 := hk3.cell (fun h => h) D2.out
  have d0 := hk3.cell (fun h => h) (HK2.out.cell (fun h => h) D0.out)
  have d1 := hk3.cell (fun h => h) (HK2.out.cell (fun h => h) D1.out)
  have d3 := hk3.cell (fun h => h) (HK2.out.cell (fun h => h) D3.out)
  have HK3 := Lib.hid hk3
  clear ho3 hk3 k3 i2 i4 kk3
  go_wp2_with fail
  go_ret
  go_light
  exact ⟨rfl, (HK1.out.keeps HK2.out).keeps HK3.out⟩
end Go.Proofs.Ytjdpijjoblfoaaa
