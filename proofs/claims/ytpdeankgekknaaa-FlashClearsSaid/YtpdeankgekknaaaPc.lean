/- A flash: however many sectors are asked. -/
import Derived.Test.YtpdeankgekknaaaPb
namespace Go.Proofs.YtpdeankgekknaaaD
open Go Go.Proofs.YtpdeankgekknaaaS Go.Proofs
set_option linter.unusedVariables false
set_option linter.unusedSimpArgs false
section
variable {X : Type}
theorem great_eq {k : Nat} (K : Bool → Option X) (hk : 400000 < k) (x y : Int) : f3 k K x y = K true := by
  have hb := sz_b x y
  have h1 := sN_b x
  have h2 := zN_b y
  unfold f3 f3_A f3_T
  refine (alive_eq _ hk).trans ?_
  simp only [Bool.not_true, cond_false, sN_eq, zN_eq, sz_w]
  refine (new_eq _ hk x y).trans ?_
  have hwm : (sN x) * (zN y) = (List.replicate (sN x * zN y) (255 : Int)).length := by simp
  have hlen : (List.replicate (sN x * zN y) (255 : Int)).length = sN x * zN y := by simp
  have hW : (List.replicate (sN x) (0 : Int)).length = sN x := by simp
  generalize hBd : List.replicate (sN x * zN y) (255 : Int) = B at hlen hwm ⊢
  generalize hWd : List.replicate (sN x) (0 : Int) = W at hW ⊢
  have r1 := read_eq (k := k) (X := X)
  simp only []
  rw [← hlen, ← hW]
  refine (read_eq _ _ 1 _ (-1) B W 0 false (by omega)).trans ?_
  simp only []
  refine (read_eq _ _ 1 _ (-1) B W 0 false (by omega)).trans ?_
  simp only []
  refine (size_eq _ _ (-1) B W 0 false).trans ?_
  simp only [fl]
  refine (bifT (by simp)).trans ?_
  refine (sector_eq _ _ (-1) B W 0 false).trans ?_
  simp only [fl]
  refine (bifT (by simp)).trans ?_
  have e1 : rdE B false (B.length : Int) 1 = 1 := by
    have : wiB B.length (B.length : Int) 1 = false := decide_eq_false (by omega)
    unfold rdE; rw [this]; rfl
  have ew : IntKind.wrap .i64 ((B.length : Int) - 1) = ((B.length - 1 : Nat) : Int) := by rw [wrap64 (by omega) (by omega)]; omega
  rw [ew]
  have e2 : rdE B false ((B.length - 1 : Nat) : Int) 1 = 0 := by
    have : wiB B.length ((B.length - 1 : Nat) : Int) 1 = true := decide_eq_true (by omega)
    unfold rdE; rw [this]; rfl
  have e3 : rdV B false ((B.length - 1 : Nat) : Int) 1 = [255] := by
    unfold rdV
    rw [e2, if_pos rfl, ← hBd]
    simp only [Int.toNat_natCast, List.length_replicate, List.drop_replicate]
    have : sN x * zN y - (sN x * zN y - 1) = 1 := by omega
    rw [this]; rfl
  rw [e1, e2, e3]
  refine (bifT rfl).trans ?_
  refine (bifT rfl).trans ?_
  refine (grdT rfl).trans ?_
  show grd (CV.isI .u8 (.int .u8 255)) _ = _
  simp only [isI_int, grd_true, toI_int]
  refine (bifT rfl).trans ?_
  refine (erase_eq _ (by omega) _ (-1) B W (zN y) 0 (by rw [hW, hlen]) (by omega) (by omega) (by omega) (by omega)).trans ?_
  rw [if_pos (Or.inr (Int.le_refl _))]
  simp only [fl]
  refine (bifT rfl).trans ?_
  have ew2 : IntKind.wrap .i64 ((W.length : Int) - 1) = ((W.length - 1 : Nat) : Int) := by rw [wrap64 (by omega) (by omega)]; omega
  rw [ew2]
  refine (erase_eq _ (by omega) _ (-1) B W (zN y) 0 (by rw [hW, hlen]) (by omega) (by omega) (by omega) (by omega)).trans ?_
  rw [if_neg (by omega)]
  unfold endR
  have hg : goes (-1) (List.replicate (zN y) (255 : Int)).length = (List.replicate (zN y) (255 : Int)).length := by
    unfold goes; rw [if_pos (by decide)]
  rw [hg, if_neg (Nat.lt_irrefl _)]
  rfl
theorem law_great (x0 : Int) (_ : (Lit.int .i64 x0).wf = true) (x1 : Int) (_ : (Lit.int .i64 x1).wf = true) : ∃ k, ∀ K : Bool → Option Out, f3 k K x0 x1 = K true := ⟨400001, fun K => great_eq K (by omega) x0 x1⟩
end
end Go.Proofs.YtpdeankgekknaaaD
