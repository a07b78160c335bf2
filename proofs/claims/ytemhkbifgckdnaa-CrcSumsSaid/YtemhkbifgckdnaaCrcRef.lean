/- What the printed functions of crc and of its reference answer: numbers laid and read, sums, seals. -/
import Derived.Test.YtemhkbifgckdnaaCrcFn
import Derived.Test.YtemhkbifgckdnaaRef01
namespace Go.Proofs.Ytemhkbifgckdnaa.Fn
open Go.RowKit Go.Proofs.Ytemhkbifgckdnaa.PAll Go.Proofs.YtemhkbifgckdnaaW.PrintWords Go.Proofs.YtemhkbifgckdnaaW.PrintLast Go.Proofs.YtemhkbifgckdnaaW.PrintMore Go.Proofs.Ytemhkbifgckdnaa.Crc Go.Proofs.Ytemhkbifgckdnaa.Bits
set_option linter.unusedVariables false
set_option linter.unusedSimpArgs false
/-- A number's four bytes. -/
def four (n : Int) : List Int := [n % 256, n / 256 % 256, n / 65536 % 256, n / 16777216 % 256]
theorem put32_l0 (n : Int) (l : List Int) (hl : l.length ≤ 140737488355000) : crc_Put32.l0 5 n l 0 = some (l ++ four n) := by
  have e0 := shr_u32 n 0 (by omega)
  have e1 := shr_u32 n 8 (by omega)
  have e2 := shr_u32 n 16 (by omega)
  have e3 := shr_u32 n 24 (by omega)
  simp only [crc_Put32.l0]
  simp [wrap64, List.length_append] at *
  refine ⟨by omega, by omega, by omega, by omega, ?_⟩
  simp [four, e0, e1, e2, e3]
theorem clone_f (l : List Int) (hl : l.length < 140737488355328) : slices_Clone_byte_byte.f l = some l := by
  unfold slices_Clone_byte_byte.f; rw [if_pos hl]
theorem put32_f (l : List Int) (n : Int) (hl : l.length ≤ 140737488355000) : Ev (fun k => crc_Put32.f k l n) (l ++ four n) := by
  refine Ev.of (fun k => crc_Put32.mono _ _ k) (k := 5) ?_
  unfold crc_Put32.f
  rw [clone_f l (by omega)]
  exact put32_l0 n l hl
theorem rput32_l0 (n : Int) (h0 : 0 ≤ n) (h1 : n < 4294967296) (l : List Int) (hl : l.length ≤ 140737488355000) : outpostref02_Put32.l0 5 n l 0 = some (l ++ four n) := by
  have t : ∀ x : Int, 0 ≤ x → Int.tdiv x 256 = x / 256 := fun x hx => Int.tdiv_eq_ediv_of_nonneg hx
  have t' : ∀ x : Int, 0 ≤ x → Int.tmod x 256 = x % 256 := fun x hx => Int.tmod_eq_emod_of_nonneg hx
  have a1 : Int.tdiv n 256 % 4294967296 = n / 256 := by rw [t n h0]; omega
  have a2 : Int.tdiv (n / 256) 256 % 4294967296 = n / 65536 := by rw [t _ (by omega)]; omega
  have a3 : Int.tdiv (n / 65536) 256 % 4294967296 = n / 16777216 := by rw [t _ (by omega)]; omega
  simp only [outpostref02_Put32.l0, a1, a2, a3, t' n h0, t' (n / 256) (by omega), t' (n / 65536) (by omega), t' (n / 16777216) (by omega)]
  simp [wrap64, List.length_append]
  refine ⟨by omega, by omega, by omega, by omega, ?_⟩
  simp [four]
theorem rput32_f (l : List Int) (n : Int) (h0 : 0 ≤ n) (h1 : n < 4294967296) (hl : l.length ≤ 140737488355000) : Ev (fun k => outpostref02_Put32.f k l n) (l ++ four n) :=
  Ev.bind (copy_f l (by omega)) (Ev.of (fun k => (outpostref02_Put32.mono_l k) _ _ _) (k := 5) (rput32_l0 n h0 h1 l hl))
/-- The number of the first four bytes. -/
def get4 (l : List Int) : Int := rd l 0 + rd l 1 * 256 + rd l 2 * 65536 + rd l 3 * 16777216
theorem get4_lt {l : List Int} (hl : By l) (h : 4 ≤ l.length) : 0 ≤ get4 l ∧ get4 l < 4294967296 := by
  have h0 := rd_num hl 0 (by omega) (by omega)
  have h1 := rd_num hl 1 (by omega) (by omega)
  have h2 := rd_num hl 2 (by omega) (by omega)
  have h3 := rd_num hl 3 (by omega) (by omega)
  unfold get4
  omega
theorem get32_l0 (l : List Int) (hl : By l) (h : 4 ≤ l.length) : crc_Get32.l0 5 l 0 0 = some (get4 l, true) := by
  have h0 := rd_num hl 0 (by omega) (by omega)
  have h1 := rd_num hl 1 (by omega) (by omega)
  have h2 := rd_num hl 2 (by omega) (by omega)
  have h3 := rd_num hl 3 (by omega) (by omega)
  have e0 := shl_u32 (rd l 0 % 4294967296) 0 (by omega)
  have e1 := shl_u32 (rd l 1 % 4294967296) 8 (by omega)
  have e2 := shl_u32 (rd l 2 % 4294967296) 16 (by omega)
  have e3 := shl_u32 (rd l 3 % 4294967296) 24 (by omega)
  simp only [Int.natCast_zero] at e0
  simp only [show ((8 : Nat) : Int) = 8 from rfl, show ((16 : Nat) : Int) = 16 from rfl, show ((24 : Nat) : Int) = 24 from rfl] at e1 e2 e3
  have g0 : rd l 0 % 4294967296 * 2 ^ 0 % 4294967296 = rd l 0 := by omega
  have g1 : rd l 1 % 4294967296 * 2 ^ 8 % 4294967296 = rd l 1 * 256 := by omega
  have g2 : rd l 2 % 4294967296 * 2 ^ 16 % 4294967296 = rd l 2 * 65536 := by omega
  have g3 : rd l 3 % 4294967296 * 2 ^ 24 % 4294967296 = rd l 3 * 16777216 := by omega
  rw [g0] at e0; rw [g1] at e1; rw [g2] at e2; rw [g3] at e3
  have j0 : Go.bits .or .u32 0 (rd l 0) = rd l 0 := by rw [bor_comm, u32_join 0 (rd l 0) 0 h0.1 (by omega) (by omega) (by omega) (by omega) (by omega)]; omega
  have j1 : Go.bits .or .u32 (rd l 0) (rd l 1 * 256) = rd l 1 * 256 + rd l 0 := by rw [bor_comm]; exact u32_join 8 _ _ (by omega) (by omega) (by omega) (by omega) (by omega) (by omega)
  have j2 : Go.bits .or .u32 (rd l 1 * 256 + rd l 0) (rd l 2 * 65536) = rd l 2 * 65536 + (rd l 1 * 256 + rd l 0) := by rw [bor_comm]; exact u32_join 16 _ _ (by omega) (by omega) (by omega) (by omega) (by omega) (by omega)
  have j3 : Go.bits .or .u32 (rd l 2 * 65536 + (rd l 1 * 256 + rd l 0)) (rd l 3 * 16777216) = rd l 3 * 16777216 + (rd l 2 * 65536 + (rd l 1 * 256 + rd l 0)) := by rw [bor_comm]; exact u32_join 24 _ _ (by omega) (by omega) (by omega) (by omega) (by omega) (by omega)
  have w0 : wrap64 (8 * 0) = 0 := w64 (x := 0) (by omega) (by omega)
  have w1 : wrap64 (0 + 1) = 1 := w64 (x := 1) (by omega) (by omega)
  have w2 : wrap64 (8 * 1) = 8 := w64 (x := 8) (by omega) (by omega)
  have w3 : wrap64 (1 + 1) = 2 := w64 (x := 2) (by omega) (by omega)
  have w4 : wrap64 (8 * 2) = 16 := w64 (x := 16) (by omega) (by omega)
  have w5 : wrap64 (2 + 1) = 3 := w64 (x := 3) (by omega) (by omega)
  have w6 : wrap64 (8 * 3) = 24 := w64 (x := 24) (by omega) (by omega)
  have w7 : wrap64 (3 + 1) = 4 := w64 (x := 4) (by omega) (by omega)
  have c0 : (0 : Int) < (l.length : Int) := by omega
  have c1 : (1 : Int) < (l.length : Int) := by omega
  have c2 : (2 : Int) < (l.length : Int) := by omega
  have c3 : (3 : Int) < (l.length : Int) := by omega
  simp only [crc_Get32.l0, w0, w1, w2, w3, w4, w5, w6, w7, if_pos c0, if_pos c1, if_pos c2, if_pos c3, e0, e1, e2, e3, j0, j1, j2, j3]
  simp [get4]
  omega
theorem get32_short (l : List Int) (h : l.length < 4) : Ev (fun k => crc_Get32.f k l) (0, false) := by
  refine Ev.congr (f := fun _ => some (0, false)) (fun k => ?_) (Ev.now _)
  unfold crc_Get32.f; rw [if_pos (by omega)]
theorem get32_f (l : List Int) (hl : By l) (h : 4 ≤ l.length) : Ev (fun k => crc_Get32.f k l) (get4 l, true) := by
  refine Ev.congr (fun k => ?_) (Ev.of (fun k => (crc_Get32.mono_l k) _ _ _) (k := 5) (get32_l0 l hl h))
  unfold crc_Get32.f; rw [if_neg (by omega)]
theorem rget32_short (l : List Int) (h : l.length < 4) : outpostref02_Get32.f l = some (0, false) := by
  unfold outpostref02_Get32.f; rw [if_pos (by omega)]
theorem rget32_f (l : List Int) (hl : By l) (h : 4 ≤ l.length) : outpostref02_Get32.f l = some (get4 l, true) := by
  have h0 := rd_num hl 0 (by omega) (by omega)
  have h1 := rd_num hl 1 (by omega) (by omega)
  have h2 := rd_num hl 2 (by omega) (by omega)
  have h3 := rd_num hl 3 (by omega) (by omega)
  unfold outpostref02_Get32.f
  rw [if_neg (by omega), if_pos (by omega), if_pos (by omega), if_pos (by omega), if_pos (by omega)]
  unfold get4
  congr 2
  omega
/-- The document's sum, bit by bit, is the register's. -/
theorem and1' {r : Nat} (h : r < 4294967296) : Go.bits .and .u32 (r : Int) 1 = ((r % 2 : Nat) : Int) := and1 h
theorem U_lt {r c : Nat} (h : r < 4294967296) : U r c < 4294967296 := by
  unfold U
  refine Nat.xor_lt_two_pow (n := 32) ?_ ?_
  · rw [Nat.shiftRight_eq_div_pow]; omega
  · split <;> omega
theorem U_same {r c : Nat} (h : c % 2 = r % 2) : U r c = r / 2 := by
  unfold U
  rw [Nat.testBit_zero, Nat.testBit_zero, h, Nat.shiftRight_eq_div_pow]
  simp
theorem U_other {r c : Nat} (h : ¬ c % 2 = r % 2) : U r c = r / 2 ^^^ 3988292384 := by
  unfold U
  rw [Nat.testBit_zero, Nat.testBit_zero, Nat.shiftRight_eq_div_pow]
  have : (decide (r % 2 = 1) ^^ decide (c % 2 = 1)) = true := by
    rcases Nat.mod_two_eq_zero_or_one r with h1 | h1 <;> rcases Nat.mod_two_eq_zero_or_one c with h2 | h2 <;> simp_all
  rw [this]; simp
theorem rsum_l1 (l : List Int) (hl : By l) (hn : l.length ≤ 140737488355328) (j : Nat) (hj : j < l.length) (res : Int)
    (hnext : ∀ r : Nat, r < 4294967296 → r = stp r 0 → True) (d : Nat) : ∀ (i r A : Nat), i + d = 8 → r < 4294967296 →
    Ev (fun k => outpostref02_Sum.l0 k l ((Tn d (r ^^^ ((rd l (j : Int)).toNat >>> i)) : Nat) : Int) ((j + 1 : Nat) : Int)) res →
    Ev (fun k => outpostref02_Sum.l1 k l (r : Int) (j : Int) (i : Int)) res := by
  have hb := rd_by hl hj
  induction d with
  | zero =>
    intro i r A hi hr he
    obtain rfl : i = 8 := by omega
    have e : (rd l (j : Int)).toNat >>> 8 = 0 := by rw [Nat.shiftRight_eq_div_pow]; omega
    rw [e, Nat.xor_zero] at he
    refine Ev.step (fun k => ?_) he
    simp only [outpostref02_Sum.l1]
    rw [if_neg (by omega), w64 (by omega) (by omega)]
    rfl
  | succ d ih =>
    intro i r A hi hr he
    have hs := shr_u8 (rd l (j : Int)) i (by omega)
    obtain ⟨c, hc⟩ : ∃ c : Nat, c = (rd l (j : Int)).toNat >>> i := ⟨_, rfl⟩
    have hcl : c < 256 := by
      rw [hc, Nat.shiftRight_eq_div_pow]
      exact Nat.lt_of_le_of_lt (Nat.div_le_self _ _) (by omega)
    have hcv : rd l (j : Int) / 2 ^ i = (c : Int) := by
      rw [hc, Nat.shiftRight_eq_div_pow, Int.natCast_ediv]
      congr 1
      · omega
    have hnext : c >>> 1 = (rd l (j : Int)).toNat >>> (i + 1) := by rw [hc, ← Nat.shiftRight_add]
    have ih' := ih (i + 1) (U r c) 0 (by omega) (U_lt hr) (by
      rw [← hnext, ← T_U, hc]; exact he)
    have t : Int.tdiv (r : Int) 2 % 4294967296 = ((r / 2 : Nat) : Int) := by
      rw [Int.tdiv_eq_ediv_of_nonneg (by omega)]; omega
    have m1 : (c : Int) % 4294967296 = (c : Int) := by omega
    refine Ev.step (fun k => ?_) ih'
    simp only [outpostref02_Sum.l1]
    rw [if_pos (by omega), if_pos (by omega), if_pos (by omega), if_pos (by omega), hs, hcv, m1, and1 (by omega), and1 hr, t, w64 (by omega) (by omega)]
    by_cases h : c % 2 = r % 2
    · rw [if_pos (by omega), U_same h]; rfl
    · rw [if_neg (by omega), show (3988292384 : Int) = ((3988292384 : Nat) : Int) from rfl, xorN (by omega) (by omega), U_other h]; rfl
theorem rsum_l0 (l : List Int) (hl : By l) (hn : l.length ≤ 140737488355328) (d : Nat) : ∀ (j r : Nat), j + d = l.length → r < 4294967296 →
    Ev (fun k => outpostref02_Sum.l0 k l (r : Int) (j : Int)) ((4294967295 ^^^ run r (nat (l.drop j)) : Nat) : Int) := by
  induction d with
  | zero =>
    intro j r hj hr
    have hd : l.drop j = [] := List.drop_eq_nil_of_le (by omega)
    rw [hd]
    refine Ev.step (f := fun _ => some ((4294967295 ^^^ r : Nat) : Int)) (fun k => ?_) (Ev.now _)
    simp only [outpostref02_Sum.l0]
    rw [if_neg (by omega), show (4294967295 : Int) = ((4294967295 : Nat) : Int) from rfl, xorN hr (by omega), Nat.xor_comm]
  | succ d ih =>
    intro j r hj hr
    have hjl : j < l.length := by omega
    have hb := rd_by hl hjl
    have e : nat (l.drop j) = (rd l (j : Int)).toNat :: nat (l.drop (j + 1)) := by
      rw [drop_cons hjl]
      simp only [nat, List.map_cons]
      rw [← rd_getElem hjl]
    have hs : stp r (rd l (j : Int)).toNat < 4294967296 := stp_lt hr (by omega)
    have ih' := ih (j + 1) (stp r (rd l (j : Int)).toNat) (by omega) hs
    rw [e, run_cons]
    have k1 := rsum_l1 l hl hn j hjl _ (fun _ _ _ => trivial) 8 0 r 0 (by omega) hr ih'
    refine Ev.step (fun k => ?_) k1
    simp only [outpostref02_Sum.l0]
    rw [if_pos (by omega)]
    rfl
theorem rsum_f (l : List Int) (hl : By l) (hn : l.length ≤ 140737488355328) : Ev (fun k => outpostref02_Sum.f k l) ((sum 0 l : Nat) : Int) := by
  refine Ev.congr (fun k => ?_) (rsum_l0 l hl hn l.length 0 4294967295 (by omega) (by omega))
  rfl
end Go.Proofs.Ytemhkbifgckdnaa.Fn
