/- Proved: bytes in which bits are turned within a run of 32 have another check sum, or are as they were; no condition (the statement's own guard: 1 to 1000 bytes). -/
import Derived.Test.YtemhkbifgckdnaaCrcTurn
namespace Go.Proofs.Ytemhkbifgckdnaa.Pure
open Go.RowKit Go.Proofs.Ytemhkbifgckdnaa.PAll Go.Proofs.YtemhkbifgckdnaaW.PrintWords Go.Proofs.YtemhkbifgckdnaaW.PrintLast Go.Proofs.YtemhkbifgckdnaaW.PrintMore Go.Proofs.Ytemhkbifgckdnaa.Crc Go.Proofs.Ytemhkbifgckdnaa.Fn
theorem alive_f : Ev (fun k => outpostlaw02_alive.f k) true := Ev.of (fun k => outpostlaw02_alive.mono k) (k := 40) (by kernel_rfl)
theorem CrcTurns : outpostlaw02_CrcTurns.Pure := by
  intro l a1 a2 hm1 hr1 hw1 hwa hwm
  refine Ev.rounds ?_
  have hl := By.of_wf hw1
  obtain ⟨mask, rfl⟩ : ∃ m : Nat, a2 = (m : Int) := by
    simp [Lit.wf, IntKind.min, IntKind.max, IntKind.signed, IntKind.bits] at hwm
    exact ⟨a2.toNat, by omega⟩
  have hmask : mask < 4294967296 := by
    simp [Lit.wf, IntKind.min, IntKind.max, IntKind.signed, IntKind.bits] at hwm
    omega
  unfold outpostlaw02_CrcTurns.f
  refine Ev.bind alive_f ?_
  simp only [if_true]
  by_cases h : (l.length : Int) > 1000
  · simp only [if_pos h]
    refine Ev.step (f := fun _ => some true) (fun k => ?_) (Ev.now _)
    simp only [outpostlaw02_CrcTurns.j0, if_true]
  · simp only [if_neg h]
    by_cases h0 : l.length = 0
    · refine Ev.step (f := fun _ => some true) (fun k => ?_) (Ev.now _)
      simp [outpostlaw02_CrcTurns.j0, h0]
    · have hne : ((l.length : Int) == 0) = false := beq_eq_false_iff_ne.2 (by omega)
      have hmod : Int.tmod (Go.bits .and .i64 a1 8191) ((8 * l.length : Nat) : Int) = ((((a1 % 8192).toNat % (8 * l.length) : Nat)) : Int) := by
        have e := Bits.i64_mask a1 13 (by omega)
        rw [show ((2 : Int) ^ 13 - 1) = 8191 by decide, show ((2 : Int) ^ 13) = 8192 by decide] at e
        rw [e, Int.tmod_eq_emod_of_nonneg (show (0 : Int) ≤ a1 % 8192 by omega), Int.natCast_emod, Int.toNat_of_nonneg (show (0 : Int) ≤ a1 % 8192 by omega)]
      have hat : (a1 % 8192).toNat % (8 * l.length) < 8 * l.length := Nat.mod_lt _ (by omega)
      generalize (a1 % 8192).toNat % (8 * l.length) = at_ at hmod hat
      obtain ⟨y, hy, hty⟩ := turn_f l hl (by omega) at_ mask hat hmask
      have hylen := hy.len
      have s1 := sum_f y hy.by_ (by omega)
      have s2 := sum_f l hl (by omega)
      have s3 := same_f y l (by omega)
      refine Ev.step (f := fun k => (outpostref02_Turn.f k l (at_ : Int) (mask : Int)).bind fun t273 => (crc_Sum.f k t273).bind fun t276 => (crc_Sum.f k l).bind fun t277 => (outpostref01_Same.f k t273 l).bind fun t278 => some ((t276 == t277) == t278)) (fun k => ?_) ?_
      · simp only [outpostlaw02_CrcTurns.j0, hne]
        rw [if_neg (by decide), wmul8 _ (by omega), if_neg (by omega), hmod]
      · refine Ev.bind hty (Ev.bind s1 (Ev.bind s2 (Ev.bind s3 ?_)))
        have key : ((((sum 0 y : Nat) : Int) == ((sum 0 l : Nat) : Int)) == decide (y = l)) = true := by
          by_cases hs : sum 0 y = sum 0 l
          · have := turned_same hl hat hy hs
            subst this
            simp
          · have hne2 : ¬ y = l := by rintro rfl; exact hs rfl
            have hs2 : ¬ ((sum 0 y : Nat) : Int) = ((sum 0 l : Nat) : Int) := by omega
            simp [hs2, hne2]
        simp only [key]
        exact Ev.now _
end Go.Proofs.Ytemhkbifgckdnaa.Pure
