/- Proved: all numbers are laid behind bytes, and read from their beginning, as the document's reference says; no condition (the statement's own guard: up to 2000 bytes). -/
import Derived.Test.YtemhkbifgckdnaaCrcSeal
namespace Go.Proofs.Ytemhkbifgckdnaa.Pure
open Go.RowKit Go.Proofs.Ytemhkbifgckdnaa.PAll Go.Proofs.YtemhkbifgckdnaaW.PrintWords Go.Proofs.YtemhkbifgckdnaaW.PrintLast Go.Proofs.YtemhkbifgckdnaaW.PrintMore Go.Proofs.Ytemhkbifgckdnaa.Crc Go.Proofs.Ytemhkbifgckdnaa.Fn
theorem alive_f : Ev (fun k => outpostlaw02_alive.f k) true := Ev.of (fun k => outpostlaw02_alive.mono k) (k := 40) (by kernel_rfl)
theorem get16 {l : List Int} (hl : By l) (h : 2 ≤ l.length) : crc_Get16.f l = some (rd l 0 + rd l 1 * 256, true) ∧ outpostref02_Get16.f l = some (rd l 0 + rd l 1 * 256, true) := by
  have h0 := rd_num hl 0 (by omega) (by omega)
  have h1 := rd_num hl 1 (by omega) (by omega)
  have j : Go.bits .or .i64 (rd l 0) (rd l 1 * 256) = rd l 1 * 256 + rd l 0 := by rw [Bits.bor_comm]; exact Bits.i64_join 8 _ _ (by omega) (by omega) (by omega) (by omega) (by omega) (by omega)
  constructor
  · unfold crc_Get16.f
    rw [if_neg (by omega), if_pos (by omega), if_pos (by omega), w64 (x := rd l 0) (by omega) (by omega), w64 (x := rd l 1) (by omega) (by omega), w64 (x := rd l 1 * 256) (by omega) (by omega), j, Int.add_comm]
  · unfold outpostref02_Get16.f
    rw [if_neg (by omega), if_pos (by omega), if_pos (by omega), w64 (x := rd l 0) (by omega) (by omega), w64 (x := rd l 1) (by omega) (by omega), w64 (x := rd l 1 * 256) (by omega) (by omega), w64 (by omega) (by omega)]
theorem get16_short {l : List Int} (h : l.length < 2) : crc_Get16.f l = some (0, false) ∧ outpostref02_Get16.f l = some (0, false) := by
  constructor
  · unfold crc_Get16.f; rw [if_pos (by omega)]
  · unfold outpostref02_Get16.f; rw [if_pos (by omega)]
theorem put16 (l : List Int) (n : Int) (h : l.length ≤ 100000) : crc_Put16.f l n = some (l ++ [n % 256, n / 256 % 256]) := by
  unfold crc_Put16.f
  rw [clone_f l (by omega)]
  simp only [Option.bind_some]
  rw [if_pos (by simp; omega)]
theorem rput16 (l : List Int) (n : Int) (h : l.length ≤ 100000) : Ev (fun k => outpostref02_Put16.f k l n) (l ++ [n % 256, n / 256 % 256]) := by
  have m1 := Bits.i64_mask n 8 (by omega)
  have m2 := Bits.i64_mask (n / 256) 8 (by omega)
  rw [show ((2 : Int) ^ 8 - 1) = 255 by decide, show ((2 : Int) ^ 8) = 256 by decide] at m1 m2
  refine Ev.bind (copy_f l (by omega)) ?_
  simp only [Option.bind_some]
  refine Ev.congr (fun k => ?_) (Ev.now _)
  rw [if_pos (by simp; omega), m1, m2, Int.emod_emod, Int.emod_emod]
theorem CrcNumbers : outpostlaw02_CrcNumbers.Pure := by
  intro l a1 a2 hm1 hr1 hw1 hwa hwb
  refine Ev.rounds ?_
  have hl := By.of_wf hw1
  have ha : 0 ≤ a1 ∧ a1 < 4294967296 := by
    simp [Lit.wf, IntKind.min, IntKind.max, IntKind.signed, IntKind.bits] at hwa
    omega
  unfold outpostlaw02_CrcNumbers.f
  refine Ev.bind alive_f ?_
  simp only [if_true]
  by_cases h : (l.length : Int) > 2000
  · simp only [if_pos h]; exact Ev.now _
  · simp only [if_neg h]
    obtain ⟨x, hx1, hx2⟩ : ∃ x, Ev (fun k => crc_Get32.f k l) x ∧ outpostref02_Get32.f l = some x := by
      by_cases h4 : 4 ≤ l.length
      · exact ⟨_, get32_f l hl h4, rget32_f l hl h4⟩
      · exact ⟨_, get32_short l (by omega), rget32_short l (by omega)⟩
    obtain ⟨y, hy1, hy2⟩ : ∃ y, crc_Get16.f l = some y ∧ outpostref02_Get16.f l = some y := by
      by_cases h2 : 2 ≤ l.length
      · exact ⟨_, (get16 hl h2).1, (get16 hl h2).2⟩
      · exact ⟨_, (get16_short (by omega)).1, (get16_short (by omega)).2⟩
    have e1 := same_f (l ++ four a1) (l ++ four a1) (by simp [four]; omega)
    have e2 := same_f (l ++ [a2 % 256, a2 / 256 % 256]) (l ++ [a2 % 256, a2 / 256 % 256]) (by simp; omega)
    simp only [decide_true] at e1 e2
    simp only [hx2, hy1, hy2, put16 l a2 (by omega), Option.bind_some]
    refine Ev.bind hx1 ?_
    simp only [if_true, beq_self_eq_true]
    refine Ev.bind (put32_f l a1 (by omega)) (Ev.bind (rput32_f l a1 ha.1 ha.2 (by omega)) (Ev.bind e1 ?_))
    simp only [if_true]
    exact Ev.bind (rput16 l a2 (by omega)) (Ev.bind e2 (Ev.now _))
end Go.Proofs.Ytemhkbifgckdnaa.Pure
