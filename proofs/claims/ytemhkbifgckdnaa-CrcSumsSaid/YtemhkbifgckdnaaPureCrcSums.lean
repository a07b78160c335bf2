/- Proved: all bytes have the sum, and are sealed and opened, as the document's reference says; no condition (the statement's own guard: up to 2000 bytes). -/
import Derived.Test.YtemhkbifgckdnaaCrcSeal
namespace Go.Proofs.Ytemhkbifgckdnaa.Pure
open Go.RowKit Go.Proofs.Ytemhkbifgckdnaa.PAll Go.Proofs.YtemhkbifgckdnaaW.PrintWords Go.Proofs.YtemhkbifgckdnaaW.PrintLast Go.Proofs.YtemhkbifgckdnaaW.PrintMore Go.Proofs.Ytemhkbifgckdnaa.Crc Go.Proofs.Ytemhkbifgckdnaa.Fn
theorem alive_f : Ev (fun k => outpostlaw02_alive.f k) true := Ev.of (fun k => outpostlaw02_alive.mono k) (k := 40) (by kernel_rfl)
theorem CrcSums : outpostlaw02_CrcSums.Pure := by
  intro l hm1 hr1 hw1
  refine Ev.rounds ?_
  have hl := By.of_wf hw1
  unfold outpostlaw02_CrcSums.f
  refine Ev.bind alive_f ?_
  simp only [if_true]
  by_cases h : (l.length : Int) > 2000
  · simp only [if_pos h]; exact Ev.now _
  · simp only [if_neg h]
    have ho : (opened l).1.length ≤ l.length := by
      unfold opened
      split
      · simp
      · split <;> simp
    have e1 := same_f (sealed l) (sealed l) (by rw [sealed_length]; omega)
    have e2 := same_f (opened l).1 (opened l).1 (by omega)
    simp only [decide_true] at e1 e2
    refine Ev.bind (open_f l hl (by omega)) (Ev.bind (ropen_f l hl (by omega)) (Ev.bind (sum_f l hl (by omega)) (Ev.bind (rsum_f l hl (by omega)) ?_)))
    simp only [if_true, beq_self_eq_true]
    refine Ev.bind (seal_f l hl (by omega)) (Ev.bind (rseal_f l hl (by omega)) (Ev.bind e1 ?_))
    simp only [if_true]
    exact Ev.bind e2 (Ev.now _)
end Go.Proofs.Ytemhkbifgckdnaa.Pure
