/- slices.Clone of bytes. -/
import Derived.Test.YthlaobnnhghcfaaD
import Derived.Test.YthlaobnnhghcfaaPM
namespace Go.Proofs.YthlaobnnhghcfaaD
open Go Go.Proofs.YthlaobnnhghcfaaS Go.Proofs
set_option linter.unusedVariables false
section
variable {X : Type}
theorem clone_eq {k : Nat} (K : List CV → Option X) (x : List CV) (h : x.length < 70368744177664) : f35 k K x = K x := by
  unfold f35
  rw [grd_dec (by omega)]
end
end Go.Proofs.YthlaobnnhghcfaaD
