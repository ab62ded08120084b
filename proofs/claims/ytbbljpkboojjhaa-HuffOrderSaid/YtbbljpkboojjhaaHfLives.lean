/- The document's examples of layer 2. -/
import Derived.Test.YtbbljpkboojjhaaHfLen
import Derived.Test.YtbbljpkboojjhaaHfEnc
import Derived.Test.YtbbljpkboojjhaaHfDec
import Derived.Lib.SlBytesConst
import Derived.Laws.BytesArg
namespace Go.Proofs.Ytbbljpkboojjhaa
open Go.RowKit

theorem exLen : csMay [2, 1, 0, 1] ∧ lengthsS [2, 1, 0, 1] = [1, 2, 0, 2] := by decide +kernel
theorem exEnc : encS [1, 2, 0, 2] [0, 1, 3] = ([26], 0) := by decide +kernel
theorem exDec : decS [1, 2, 0, 2] [26] 3 = ([0, 1, 3], 0) := by decide +kernel
theorem ints_cells {w : World} {k : IntKind} {E : TypeId} {zs : List Int} (hw : ∀ z ∈ zs, (Lit.int k z).wf = true) (h0 : zs.length ≤ 1000) : Ints k (w.alloc (.cells (zs.map (Value.int k)).toArray E)) (.slice (some ⟨w.heap.size, 0, none⟩) zs.length zs.length) zs := by
  refine ⟨hw, some ⟨w.heap.size, 0, none⟩, zs.length, rfl, Nat.le_refl _, by unfold maxLen; omega, (fun h => by cases h), fun i hi => ⟨w.heap.size, 0, rfl, ?_⟩⟩
  rw [Nat.zero_add, World.cell?_alloc_new]
  simp [List.getD_eq_getElem?_getD, hi]

set_option maxRecDepth 100000 in
set_option maxHeartbeats 4000000 in
theorem livesHuff (w : World) : Calls Try.prog 11 #[] w fun e w' => e = .returned (.bool true) ∧ Keeps w w' := by
  have hi1 : ∀ w : World, Ints .i64 (w.alloc (.cells #[.int .i64 2, .int .i64 1, .int .i64 0, .int .i64 1] 3)) (.slice (some ⟨w.heap.size, 0, none⟩) 4 4) [2, 1, 0, 1] := fun w => ints_cells (zs := [2, 1, 0, 1]) (by decide) (by decide)
  have hi3 : ∀ w : World, Ints .u8 (w.alloc (.cells #[.int .u8 0, .int .u8 1, .int .u8 3] 5)) (.slice (some ⟨w.heap.size, 0, none⟩) 3 3) [0, 1, 3] := fun w => ints_cells (zs := [0, 1, 3]) (by decide) (by decide)
  have hi4 : ∀ w : World, Ints .u8 (w.alloc (.cells #[.int .u8 26] 5)) (.slice (some ⟨w.heap.size, 0, none⟩) 1 1) [26] := fun w => ints_cells (zs := [26]) (by decide) (by decide)
  have H1 := Lib.hid hi1
  have H3 := Lib.hid hi3
  have H4 := Lib.hid hi4
  clear hi1 hi3 hi4
  go_enter Try.func11, Try.ntmps11
  go_wp2_with fail
  refine (lengthsYes (H1.out w) exLen.1).mono ?_
  rw [exLen.2]
  rintro e1 w1 ⟨x1, rfl, ho1, k1⟩
  have hk1 : Keeps w w1 := ((Fr.refl _ _).alloc _).keeps k1
  have HI1 := Lib.hid ho1.ints
  obtain ⟨g1, c1, rfl, _, _, _, hg1⟩ := ho1.formNe (by decide)
  obtain ⟨d0, _⟩ := ho1.at (i := 0) (by decide)
  obtain ⟨d1, _⟩ := ho1.at (i := 1) (by decide)
  obtain ⟨d2, _⟩ := ho1.at (i := 2) (by decide)
  obtain ⟨d3, _⟩ := ho1.at (i := 3) (by decide)
  have d0 : w1.cell? ⟨g1, 0, none⟩ = some (.int .i64 1) := d0
  have d1 : w1.cell? ⟨g1, 1, none⟩ = some (.int .i64 2) := d1
  have d2 : w1.cell? ⟨g1, 2, none⟩ = some (.int .i64 0) := d2
  have d3 : w1.cell? ⟨g1, 3, none⟩ = some (.int .i64 2) := d3
  have HK1 := Lib.hid hk1
  simp only [List.length_cons, List.length_nil, Nat.zero_add, Nat.reduceAdd] at HI1 ⊢
  clear ho1 hk1 k1
  go_wp2_with fail
  refine (huffEncode (HI1.out.keeps ((Fr.refl _ _).alloc _)) (H3.out w1) (by decide)).mono ?_
  rw [exEnc]
  rintro e2 w2 ⟨x2, rfl, ho2, k2⟩
  have hk2 : Keeps w1 w2 := ((Fr.refl _ _).alloc _).keeps k2
  obtain ⟨g2, c2, rfl, _, _, _, hg2⟩ := ho2.formNe (by decide)
  obtain ⟨y2, _⟩ := ho2.at (i := 0) (by decide)
  have D2 : Hid (w2.cell? ⟨g2, 0, none⟩ = some (.int .u8 26)) := y2
  have HI2 := Lib.hid (HI1.out.keeps hk2)
  have HK2 := Lib.hid hk2
  simp only [List.length_cons, List.length_nil, Nat.zero_add] at ⊢
  clear ho2 y2 hk2 k2 d0 d1 d2 d3
  go_wp2_with fail
  refine (huffDecode (HI2.out.keeps ((Fr.refl _ _).alloc _)) (H4.out w2) (by decide) (by decide)).mono ?_
  rw [exDec]
  rintro e3 w3 ⟨x3, rfl, ho3, k3⟩
  have hk3 : Keeps w2 w3 := ((Fr.refl _ _).alloc _).keeps k3
  have hI := ho3.ints
  obtain ⟨g3, c3, rfl, _, _, _, hg3⟩ := ho3.formNe (by decide)
  obtain ⟨_, _, _, hve, _, _, _, hc⟩ := hI
  cases hve
  have hconv := run_convert_bytes_arg (P := Try.prog) w3 29 5 Try.underlying29 Try.underlying5 g3 0 3 c3 [0, 1, 3] rfl (fun i hi => by
    obtain ⟨_, _, e, hcell⟩ := hc i hi
    cases e
    exact hcell) 9 Try.underlying9
  rw [show strOfNums [0, 1, 3] = ⟨#[0, 1, 3]⟩ from rfl] at hconv
  obtain ⟨_, _, _, hve, _, _, _, hc2⟩ := H3.out w3
  cases hve
  have hconv2 := run_convert_bytes_arg (P := Try.prog) (w3.alloc (.cells #[.int .u8 0, .int .u8 1, .int .u8 3] 5)) 29 5 Try.underlying29 Try.underlying5 w3.heap.size 0 3 3 [0, 1, 3] rfl (fun i hi => by
    obtain ⟨_, _, e, hcell⟩ := hc2 i hi
    cases e
    exact hcell) 9 Try.underlying9
  rw [show strOfNums [0, 1, 3] = ⟨#[0, 1, 3]⟩ from rfl] at hconv2
  have y2 := hk3.cell (fun h => h) D2.out
  have HK3 := Lib.hid hk3
  simp only [List.length_cons, List.length_nil, Nat.zero_add, Nat.reduceAdd] at ⊢
  clear ho3 hk3 k3 hc hc2
  go_wp2_with fail
  go_ret
  go_light
  exact ⟨rfl, ((HK1.out.keeps HK2.out).keeps HK3.out).keeps ((Fr.refl _ _).alloc _)⟩
end Go.Proofs.Ytbbljpkboojjhaa
