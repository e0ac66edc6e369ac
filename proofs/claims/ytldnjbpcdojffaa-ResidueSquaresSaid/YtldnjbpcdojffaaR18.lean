/- @@NUM 25 The walk of law 08's ResidueRoots. Conditions: words are below 2^64. -/
import Derived.Test.YtldnjbpcdojffaaR17
namespace Go.Proofs.Ytldnjbpcdojffaa
set_option linter.unusedVariables false
set_option linter.unusedSimpArgs false
open Go Go.RowKit
open Pl (V V8 W4 T256 pP)
attribute [local go_sem ↓] eql_num neq_num

def P0 : Nat := 18446744073709551597
theorem prime_lit {p0 p1 p2 p3 : Nat} (h : W4 p0 p1 p2 p3 ∧ V p0 p1 p2 p3 = pP) : p0 = 18446744073709551597 ∧ p1 = 18446744073709551615 ∧ p2 = 18446744073709551615 ∧ p3 = 9223372036854775807 := Pl.V_inj h.1 (by unfold W4; omega) (by rw [h.2]; decide +kernel)
theorem H2_W : W4 18446744073709551606 18446744073709551615 18446744073709551615 4611686018427387903 := by unfold W4; omega
theorem H2_V : V 18446744073709551606 18446744073709551615 18446744073709551615 4611686018427387903 = Pl.h2 := by decide +kernel
theorem or_a : bits .or .u64 9223372036854775798 9223372036854775808 = 18446744073709551606 := by decide +kernel
theorem or_b : bits .or .u64 9223372036854775807 9223372036854775808 = 18446744073709551615 := by decide +kernel
theorem par0 {n : Nat} (e : n % 2 = 0) : ((n : Int).tmod 2) = 0 := by rw [Int.tmod_eq_emod_of_nonneg (by omega)]; omega
theorem par1 {n : Nat} (e : n % 2 = 1) : ((n : Int).tmod 2) = 1 := by rw [Int.tmod_eq_emod_of_nonneg (by omega)]; omega

end Go.Proofs.Ytldnjbpcdojffaa
