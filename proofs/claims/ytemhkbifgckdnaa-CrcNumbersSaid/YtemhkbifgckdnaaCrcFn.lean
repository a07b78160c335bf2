/- What the printed functions of crc, and of its reference, answer: the register's steps over natural numbers. -/
import Derived.Test.YtemhkbifgckdnaaCrc
import Derived.Test.YtemhkbifgckdnaaBase
namespace Go.Proofs.Ytemhkbifgckdnaa.Fn
open Go.RowKit Go.Proofs.Ytemhkbifgckdnaa.PAll Go.Proofs.YtemhkbifgckdnaaW.PrintWords Go.Proofs.YtemhkbifgckdnaaW.PrintLast Go.Proofs.YtemhkbifgckdnaaW.PrintMore Go.Proofs.Ytemhkbifgckdnaa.Crc
set_option linter.unusedVariables false
set_option linter.unusedSimpArgs false

theorem and1 {r : Nat} (h : r < 4294967296) : Go.bits .and .u32 (r : Int) 1 = ((r % 2 : Nat) : Int) := by
  have := u32_and_nat r 1 h (by omega)
  rw [Nat.and_one_is_mod] at this
  exact this
theorem xorN {r s : Nat} (h : r < 4294967296) (k : s < 4294967296) : Go.bits .xor .u32 (r : Int) (s : Int) = ((r ^^^ s : Nat) : Int) := u32_xor_nat r s h k
theorem T_even {r : Nat} (h : ¬ r % 2 = 1) : T r = r / 2 := by
  unfold T; rw [Nat.testBit_zero, Nat.shiftRight_eq_div_pow]; simp [h]
theorem T_odd {r : Nat} (h : r % 2 = 1) : T r = r / 2 ^^^ 3988292384 := by
  unfold T; rw [Nat.testBit_zero, Nat.shiftRight_eq_div_pow]; simp [h]

theorem step_l0 (d : Nat) : ∀ (j r : Nat), j + d = 8 → r < 4294967296 → Ev (fun k => crc_step.l0 k (r : Int) (j : Int)) ((Tn d r : Nat) : Int) := by
  induction d with
  | zero =>
    intro j r hj hr
    refine Ev.step (f := fun _ => some (r : Int)) (fun k => ?_) (Ev.now _)
    simp only [crc_step.l0]
    rw [if_neg (by omega)]
  | succ d ih =>
    intro j r hj hr
    have hT := T_lt hr
    have ih' := ih (j + 1) (T r) (by omega) hT
    refine Ev.step (f := fun k => crc_step.l0 k ((T r : Nat) : Int) ((j + 1 : Nat) : Int)) (fun k => ?_) ih'
    simp only [crc_step.l0]
    rw [if_pos (by omega), w64 (by omega) (by omega), and1 hr]
    have e : ((r : Int) / 2) = ((r / 2 : Nat) : Int) := by omega
    by_cases h : r % 2 = 1
    · rw [if_pos (by omega), e, show (3988292384 : Int) = ((3988292384 : Nat) : Int) from rfl, xorN (by omega) (by omega), T_odd h]; rfl
    · rw [if_neg (by omega), e, T_even h]; rfl
theorem step_f (r b : Nat) (hr : r < 4294967296) (hb : b < 256) : Ev (fun k => crc_step.f k (r : Int) (b : Int)) ((stp r b : Nat) : Int) := by
  refine Ev.congr (f := fun k => crc_step.l0 k ((r ^^^ b : Nat) : Int) ((0 : Nat) : Int)) (fun k => ?_) (step_l0 8 0 _ (by omega) (Nat.xor_lt_two_pow (n := 32) (by omega) (by omega)))
  unfold crc_step.f
  rw [show (b : Int) % 4294967296 = (b : Int) by omega, xorN hr (by omega)]
  rfl
/-- The sum of bytes: the register turned over, at both ends. -/
def sum (r : Nat) (l : List Int) : Nat := 4294967295 ^^^ run (4294967295 ^^^ r) (nat l)
theorem flip_lt {r : Nat} (h : r < 4294967296) : 4294967295 ^^^ r < 4294967296 := Nat.xor_lt_two_pow (n := 32) (by omega) (by omega)
theorem sum_lt {r : Nat} (h : r < 4294967296) {l : List Int} (hl : By l) : sum r l < 4294967296 := flip_lt (run_lt (nat_lt hl) (flip_lt h))
theorem extend_l0 (l : List Int) (hl : By l) (hn : l.length ≤ 140737488355328) (d : Nat) : ∀ (j r : Nat), j + d = l.length → r < 4294967296 →
    Ev (fun k => crc_Extend.l0 k (r : Int) l (l.length : Int) (j : Int)) ((4294967295 ^^^ run r (nat (l.drop j)) : Nat) : Int) := by
  induction d with
  | zero =>
    intro j r hj hr
    have hd : l.drop j = [] := List.drop_eq_nil_of_le (by omega)
    rw [hd]
    refine Ev.step (f := fun _ => some ((4294967295 ^^^ r : Nat) : Int)) (fun k => ?_) (Ev.now _)
    simp only [crc_Extend.l0]
    rw [if_neg (by omega), show (4294967295 : Int) = ((4294967295 : Nat) : Int) from rfl, xorN (by omega) hr]
  | succ d ih =>
    intro j r hj hr
    have hjl : j < l.length := by omega
    have hb := rd_by hl hjl
    obtain ⟨b, hbe⟩ : ∃ b : Nat, rd l (j : Int) = (b : Int) := ⟨(rd l (j : Int)).toNat, by omega⟩
    have hs := step_f r b hr (by omega)
    have ih' := ih (j + 1) (stp r b) (by omega) (stp_lt hr (by omega))
    have e : nat (l.drop j) = b :: nat (l.drop (j + 1)) := by
      rw [drop_cons hjl]
      simp only [nat, List.map_cons]
      rw [← rd_getElem hjl, hbe]; rfl
    rw [e, run_cons]
    refine Ev.step (f := fun k => (crc_step.f k (r : Int) (b : Int)).bind fun t => crc_Extend.l0 k t l (l.length : Int) ((j + 1 : Nat) : Int)) (fun k => ?_) (Ev.bind hs ih')
    simp only [crc_Extend.l0]
    rw [if_pos (by omega), if_pos (by omega), if_pos (by omega), w64 (by omega) (by omega), hbe]
    rfl
theorem extend_f (r : Nat) (hr : r < 4294967296) (l : List Int) (hl : By l) (hn : l.length ≤ 140737488355328) : Ev (fun k => crc_Extend.f k (r : Int) l) ((sum r l : Nat) : Int) := by
  refine Ev.congr (fun k => ?_) (extend_l0 l hl hn l.length 0 (4294967295 ^^^ r) (by omega) (flip_lt hr))
  unfold crc_Extend.f
  rw [show (4294967295 : Int) = ((4294967295 : Nat) : Int) from rfl, xorN (by omega) hr]
  rfl
theorem sum_f (l : List Int) (hl : By l) (hn : l.length ≤ 140737488355328) : Ev (fun k => crc_Sum.f k l) ((sum 0 l : Nat) : Int) := by
  refine Ev.bind (f := fun _ t => some t) (extend_f 0 (by omega) l hl hn) (Ev.now _)
end Go.Proofs.Ytemhkbifgckdnaa.Fn
