/- @@NUM 25 Law 08's ResidueRoots is true at every input. Conditions: words are below 2^64. -/
import Derived.Test.YtldnjbpcdojffaaR19
import Derived.Test.YtldnjbpcdojffaaR20
import Derived.Test.YtldnjbpcdojffaaR21
import Derived.Test.YtldnjbpcdojffaaR22
import Derived.Test.YtldnjbpcdojffaaR23
namespace Go.Proofs.Ytldnjbpcdojffaa
set_option linter.unusedVariables false
set_option linter.unusedSimpArgs false
open Go Go.RowKit
open Pl (V V8 W4 T256 pP)

theorem roots_fact (a0 a1 a2 a3 : Nat) (ha : W4 a0 a1 a2 a3) (w : World) : Calls Try.prog 9 #[.agg #[.int .u64 a0, .int .u64 a1, .int .u64 a2, .int .u64 a3]] w fun e w' => e = .returned (.bool true) ∧ Below w.heap.size w w' := by
  by_cases hz : V a0 a1 a2 a3 % pP = 0
  · exact roots_Z0 a0 a1 a2 a3 ha (by rw [hz]) hz w
  · by_cases hx : ∃ x : Nat, x * x % pP = V a0 a1 a2 a3 % pP
    · rcases Nat.mod_two_eq_zero_or_one (V a0 a1 a2 a3 % pP) with h | h
      · exact roots_P0 a0 a1 a2 a3 ha h ⟨hz, hx⟩ w
      · exact roots_P1 a0 a1 a2 a3 ha h ⟨hz, hx⟩ w
    · rcases Nat.mod_two_eq_zero_or_one (V a0 a1 a2 a3 % pP) with h | h
      · exact roots_N0 a0 a1 a2 a3 ha h ⟨hz, hx⟩ w
      · exact roots_N1 a0 a1 a2 a3 ha h ⟨hz, hx⟩ w

end Go.Proofs.Ytldnjbpcdojffaa
