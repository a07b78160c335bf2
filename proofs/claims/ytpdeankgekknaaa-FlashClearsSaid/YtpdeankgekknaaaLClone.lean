/- slices.Clone of bytes. -/
import Derived.Test.YtpdeankgekknaaaD
import Derived.Test.YtpdeankgekknaaaPM
namespace Go.Proofs.YtpdeankgekknaaaD
open Go Go.Proofs.YtpdeankgekknaaaS Go.Proofs
set_option linter.unusedVariables false
section
variable {X : Type}
theorem clone_eq {k : Nat} (K : List CV → Option X) (x : List CV) (h : x.length < 70368744177664) : f26 k K x = K x := by
  unfold f26
  rw [grd_dec (by omega)]
end
end Go.Proofs.YtpdeankgekknaaaD
