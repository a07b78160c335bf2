/- slices.Clone of bytes. -/
import Derived.Test.YtidniahglagllaaD
import Derived.Test.YtidniahglagllaaPM
namespace Go.Proofs.YtidniahglagllaaD
open Go Go.Proofs.YtidniahglagllaaS Go.Proofs
set_option linter.unusedVariables false
section
variable {X : Type}
theorem clone_eq {k : Nat} (K : List CV → Option X) (x : List CV) (h : x.length < 70368744177664) : f30 k K x = K x := by
  unfold f30
  rw [grd_dec (by omega)]
end
end Go.Proofs.YtidniahglagllaaD
