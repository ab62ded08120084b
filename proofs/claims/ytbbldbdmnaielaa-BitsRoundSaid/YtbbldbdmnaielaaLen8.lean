/- The library's Len8 tells how many bits a byte needs. (After the kit's own template for this function.) -/
import Derived.Test.YtbbldbdmnaielaaChecked
import Derived.Lib.Strings
import Derived.Lib.Slices
import Derived.Lib.Small
import Derived.Lib.Walk
import Derived.Lib.BitFns
namespace Go.Proofs.Ytbbldbdmnaielaa

theorem bitsLen8 (x : Int) (w : World) (h0 : 0 ≤ x) (h1 : x ≤ 255) :
    Calls Try.prog 37 #[.int .u8 x] w fun e w' => e = .returned (.int .i64 (Lib.bitLen x.toNat)) ∧ w' = w := by
  rw [← Lib.len8_int x h0 h1]
  go_enter Try.func37, Try.ntmps37
  go_wp2
  go_ret
  exact ⟨rfl, rfl⟩

theorem bitLen8_le : ∀ n : Fin 256, Lib.bitLen n.val ≤ 8 := Lib.bitLen_le8
end Go.Proofs.Ytbbldbdmnaielaa
