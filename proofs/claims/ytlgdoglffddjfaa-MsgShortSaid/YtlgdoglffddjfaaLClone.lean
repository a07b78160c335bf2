/- slices.Clone of bytes. -/
import Derived.Test.YtlgdoglffddjfaaD
import Derived.Test.YtlgdoglffddjfaaPM
namespace Go.Proofs.YtlgdoglffddjfaaD
open Go Go.Proofs.YtlgdoglffddjfaaS Go.Proofs
set_option linter.unusedVariables false
section
variable {X : Type}
theorem clone_eq {k : Nat} (K : List CV → Option X) (x : List CV) (h : x.length < 70368744177664) : f37 k K x = K x := by
  unfold f37
  rw [grd_dec (by omega)]
end
end Go.Proofs.YtlgdoglffddjfaaD
