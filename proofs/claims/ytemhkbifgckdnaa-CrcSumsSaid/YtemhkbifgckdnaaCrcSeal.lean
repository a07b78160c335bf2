/- What the printed seals and openings of crc and of its reference answer. -/
import Derived.Test.YtemhkbifgckdnaaCrcRef
namespace Go.Proofs.Ytemhkbifgckdnaa.Fn
open Go.RowKit Go.Proofs.Ytemhkbifgckdnaa.PAll Go.Proofs.YtemhkbifgckdnaaW.PrintWords Go.Proofs.YtemhkbifgckdnaaW.PrintLast Go.Proofs.YtemhkbifgckdnaaW.PrintMore Go.Proofs.Ytemhkbifgckdnaa.Crc Go.Proofs.Ytemhkbifgckdnaa.Bits
set_option linter.unusedVariables false
set_option linter.unusedSimpArgs false
/-- Bytes with their sum behind. -/
def sealed (l : List Int) : List Int := l ++ four ((sum 0 l : Nat) : Int)
/-- What stands ahead of its sum. -/
def opened (l : List Int) : List Int × Bool := if l.length < 4 then ([], false) else if get4 (l.drop (l.length - 4)) = ((sum 0 (l.take (l.length - 4)) : Nat) : Int) then (l.take (l.length - 4), true) else ([], false)
theorem sum_bd {l : List Int} (hl : By l) : (0 : Int) ≤ ((sum 0 l : Nat) : Int) ∧ ((sum 0 l : Nat) : Int) < 4294967296 := by
  have := sum_lt (r := 0) (by omega) hl
  omega
theorem four_by (n : Int) : By (four n) := by
  intro x hx
  simp only [four, List.mem_cons, List.not_mem_nil, or_false] at hx
  rcases hx with rfl | rfl | rfl | rfl <;> omega
theorem sealed_by {l : List Int} (hl : By l) : By (sealed l) := hl.append (four_by _)
theorem sealed_length (l : List Int) : (sealed l).length = l.length + 4 := by simp [sealed, four]
theorem seal_f (l : List Int) (hl : By l) (hn : l.length ≤ 140737488355000) : Ev (fun k => crc_Seal.f k l) (sealed l) :=
  Ev.bind (sum_f l hl (by omega)) (Ev.bind (put32_f l _ hn) (Ev.now _))
theorem rseal_f (l : List Int) (hl : By l) (hn : l.length ≤ 140737488355000) : Ev (fun k => outpostref02_Seal.f k l) (sealed l) :=
  Ev.bind (rsum_f l hl (by omega)) (Ev.bind (rput32_f l _ (sum_bd hl).1 (sum_bd hl).2 hn) (Ev.now _))
theorem w4 (l : List Int) (h : 4 ≤ l.length) (hn : l.length ≤ 140737488355000) : wrap64 ((l.length : Int) - 4) = ((l.length - 4 : Nat) : Int) := by rw [w64 (by omega) (by omega)]; omega
theorem w4' (l : List Int) (hn : l.length ≤ 140737488355000) : wrap64 ((l.length : Int) - 4) = (l.length : Int) - 4 := w64 (by omega) (by omega)
theorem open_f (l : List Int) (hl : By l) (hn : l.length ≤ 140737488355000) : Ev (fun k => crc_Open.f k l) (opened l) := by
  by_cases h4 : l.length < 4
  · refine Ev.congr (f := fun _ => some ([], false)) (fun k => ?_) (by unfold opened; rw [if_pos h4]; exact Ev.now _)
    unfold crc_Open.f
    rw [w4' l hn, if_pos (by omega)]
  · have g := get32_f (l.drop (l.length - 4)) (hl.drop _) (by simp; omega)
    have s := sum_f (l.take (l.length - 4)) (hl.take _) (by simp; omega)
    refine Ev.congr (f := fun k => (crc_Get32.f k (l.drop (l.length - 4))).bind fun bt106 => (crc_Sum.f k (l.take (l.length - 4))).bind fun t109 => if bt106.1 = t109 then some (l.take (l.length - 4), true) else some ([], false)) (fun k => ?_) (Ev.bind g (Ev.bind s ?_))
    · unfold crc_Open.f
      rw [w4 l (by omega) hn, if_neg (by omega), if_pos (by omega), if_pos (by omega), Int.toNat_natCast]
      rw [clone_f (l.take (l.length - 4)) (by simp; omega)]
      rfl
    · unfold opened
      rw [if_neg h4]
      by_cases h : get4 (l.drop (l.length - 4)) = ((sum 0 (l.take (l.length - 4)) : Nat) : Int)
      · simp only [if_pos h]; exact Ev.now _
      · simp only [if_neg h]; exact Ev.now _
theorem ropen_f (l : List Int) (hl : By l) (hn : l.length ≤ 140737488355000) : Ev (fun k => outpostref02_Open.f k l) (opened l) := by
  by_cases h4 : l.length < 4
  · refine Ev.congr (f := fun _ => some ([], false)) (fun k => ?_) (by unfold opened; rw [if_pos h4]; exact Ev.now _)
    unfold outpostref02_Open.f
    rw [if_pos (by omega)]
  · have g := rget32_f (l.drop (l.length - 4)) (hl.drop _) (by simp; omega)
    have s := rsum_f (l.take (l.length - 4)) (hl.take _) (by simp; omega)
    have c := copy_f (l.take (l.length - 4)) (by simp; omega)
    refine Ev.congr (f := fun k => (outpostref02_Sum.f k (l.take (l.length - 4))).bind fun t187 => if get4 (l.drop (l.length - 4)) = t187 then (outpostref01_Copy.f k (l.take (l.length - 4))).bind fun t189 => some (t189, true) else some ([], false)) (fun k => ?_) (Ev.bind s ?_)
    · unfold outpostref02_Open.f
      rw [if_neg (by omega), w4 l (by omega) hn, if_pos (by omega), if_pos (by omega), Int.toNat_natCast, g]
      rfl
    · unfold opened
      rw [if_neg h4]
      by_cases h : get4 (l.drop (l.length - 4)) = ((sum 0 (l.take (l.length - 4)) : Nat) : Int)
      · simp only [if_pos h]; exact Ev.bind c (Ev.now _)
      · simp only [if_neg h]; exact Ev.now _
theorem rd_append_right (a b : List Int) (j : Int) (h : 0 ≤ j) : rd (a ++ b) ((a.length : Int) + j) = rd b j := by
  obtain ⟨n, rfl⟩ := Int.eq_ofNat_of_zero_le h
  have e : ((a.length : Int) + (n : Int)).toNat = a.length + n := by omega
  unfold rd
  rw [e, Int.toNat_natCast, List.getD_eq_getElem?_getD, List.getD_eq_getElem?_getD, List.getElem?_append_right (by omega)]
  congr 2
  omega
theorem get4_four {n : Int} (h0 : 0 ≤ n) (h1 : n < 4294967296) : get4 (four n) = n := by
  have e0 : rd (four n) 0 = n % 256 := rfl
  have e1 : rd (four n) 1 = n / 256 % 256 := rfl
  have e2 : rd (four n) 2 = n / 65536 % 256 := rfl
  have e3 : rd (four n) 3 = n / 16777216 % 256 := rfl
  unfold get4
  rw [e0, e1, e2, e3]
  omega
theorem opened_sealed {l : List Int} (hl : By l) : opened (sealed l) = (l, true) := by
  have hn := sealed_length l
  have hd : (sealed l).drop ((sealed l).length - 4) = four ((sum 0 l : Nat) : Int) := by rw [hn]; simp [sealed]
  have ht : (sealed l).take ((sealed l).length - 4) = l := by rw [hn]; simp [sealed]
  unfold opened
  rw [if_neg (by omega), hd, ht, if_pos (get4_four (sum_bd hl).1 (sum_bd hl).2)]
end Go.Proofs.Ytemhkbifgckdnaa.Fn
