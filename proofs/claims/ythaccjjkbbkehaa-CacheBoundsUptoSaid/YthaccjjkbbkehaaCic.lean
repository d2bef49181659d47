/- A list of numbers that came in. -/
import Derived.Test.YthaccjjkbbkehaaMem
namespace Go.Proofs.Ythaccjjkbbkehaa
set_option linter.unusedVariables false
def IntsC (w : World) (v : Value) (Z : List Int) : Prop :=
  ∃ (p : Option Addr) (c : Nat), v = .slice p Z.length c ∧ Z.length ≤ c ∧ Z.length ≤ 281474976710656 ∧ (∀ z ∈ Z, -9223372036854775808 ≤ z ∧ z ≤ 9223372036854775807) ∧ ∀ j z, Z[j]? = some z → ∃ a, p = some a ∧ w.cell? (a.add j) = some (.int .i64 z)
end Go.Proofs.Ythaccjjkbbkehaa
