/- What the printed Turn of the reference answers, bit by bit; and that bytes turned within a run of 32 bits have another sum, or are as they were. -/
import Derived.Test.YtemhkbifgckdnaaCrcRef
namespace Go.Proofs.Ytemhkbifgckdnaa.Fn
open Go.RowKit Go.Proofs.Ytemhkbifgckdnaa.PAll Go.Proofs.YtemhkbifgckdnaaW.PrintWords Go.Proofs.YtemhkbifgckdnaaW.PrintLast Go.Proofs.YtemhkbifgckdnaaW.PrintMore Go.Proofs.Ytemhkbifgckdnaa.Crc Go.Proofs.Ytemhkbifgckdnaa.Bits
set_option linter.unusedVariables false
set_option linter.unusedSimpArgs false
def bitAt (l : List Int) (q : Nat) : Bool := (l.getD (q / 8) 0).toNat.testBit (q % 8)
theorem rd_getD (l : List Int) (j : Nat) : rd l (j : Int) = l.getD j 0 := by simp [rd]
theorem bitAt_set (l : List Int) (i : Nat) (hi : i / 8 < l.length) (q : Nat) :
    bitAt (l.set (i / 8) ((((l.getD (i / 8) 0).toNat ^^^ 2 ^ (i % 8) : Nat)) : Int)) q = (bitAt l q ^^ decide (q = i)) := by
  unfold bitAt
  by_cases h : i / 8 = q / 8
  · have e : (l.set (i / 8) ((((l.getD (i / 8) 0).toNat ^^^ 2 ^ (i % 8) : Nat)) : Int)).getD (q / 8) 0 = (((l.getD (i / 8) 0).toNat ^^^ 2 ^ (i % 8) : Nat) : Int) := by
      rw [← h]; simp [List.getD_eq_getElem?_getD, hi]
    rw [e, Int.toNat_natCast, Nat.testBit_xor, Nat.testBit_two_pow, ← h]
    congr 1
    by_cases h2 : q = i
    · subst h2; simp
    · have : ¬ i % 8 = q % 8 := by omega
      simp [h2, this]
  · have e : (l.set (i / 8) ((((l.getD (i / 8) 0).toNat ^^^ 2 ^ (i % 8) : Nat)) : Int)).getD (q / 8) 0 = l.getD (q / 8) 0 := by
      simp [List.getD_eq_getElem?_getD, List.getElem?_set_ne h]
    have h2 : ¬ q = i := by rintro rfl; exact h rfl
    rw [e]; simp [h2]
/-- Which bits are turned by the first j of the mask's. -/
def turns (at_ mask j q : Nat) : Bool := decide (at_ ≤ q) && decide (q < at_ + j) && mask.testBit (q - at_)
theorem turns_zero (at_ mask q : Nat) : turns at_ mask 0 q = false := by
  unfold turns
  by_cases h : at_ ≤ q
  · have : ¬ q < at_ := by omega
    simp [this]
  · simp [h]
theorem turns_succ (at_ mask j q : Nat) : turns at_ mask (j + 1) q = (turns at_ mask j q ^^ (decide (q = at_ + j) && mask.testBit j)) := by
  unfold turns
  by_cases h : q = at_ + j
  · subst h
    have h1 : ¬ at_ + j < at_ + j := by omega
    have h2 : at_ + j < at_ + (j + 1) := by omega
    have h3 : at_ + j - at_ = j := by omega
    have h4 : at_ ≤ at_ + j := by omega
    simp [h1, h2, h3]
  · have e : decide (q < at_ + (j + 1)) = decide (q < at_ + j) := by
      have : (q < at_ + (j + 1)) ↔ (q < at_ + j) := by omega
      simp [this]
    simp [h, e]
theorem tdiv8 (n : Nat) : Int.tdiv (n : Int) 8 = ((n / 8 : Nat) : Int) := by rw [Int.tdiv_eq_ediv_of_nonneg (by omega)]; omega
theorem tmod8 (n : Nat) : Int.tmod (n : Int) 8 = ((n % 8 : Nat) : Int) := by rw [Int.tmod_eq_emod_of_nonneg (by omega)]; omega
theorem shl1 (i : Nat) (h : i < 8) : shl .u8 1 (i : Int) = ((2 ^ i : Nat) : Int) := by
  have hp : (2 : Nat) ^ i < 256 := Nat.lt_of_lt_of_eq (Nat.pow_lt_pow_right (a := 2) (by omega) h) (show (2 : Nat) ^ 8 = 256 by decide)
  rw [shl_u8 1 i (by omega), Int.one_mul, show ((2 : Int) ^ i) = ((2 ^ i : Nat) : Int) from (Int.natCast_pow 2 i).symm]
  generalize 2 ^ i = p at hp ⊢
  omega
structure Turned (l x : List Int) (at_ mask j : Nat) : Prop where
  len : x.length = l.length
  by_ : By x
  bit : ∀ q, q < 8 * l.length → bitAt x q = (bitAt l q ^^ turns at_ mask j q)
theorem turn_l0 (l : List Int) (hl : By l) (hn : l.length ≤ 10000) (at_ mask : Nat) (hat : at_ < 8 * l.length) (hm : mask < 4294967296) (d : Nat) : ∀ (j : Nat) (x : List Int), j + d = 32 → Turned l x at_ mask j →
    ∃ y, Turned l y at_ mask 32 ∧ Ev (fun k => outpostref02_Turn.l0 k (at_ : Int) (mask : Int) x (j : Int)) y := by
  induction d with
  | zero =>
    intro j x hj hx
    obtain rfl : j = 32 := by omega
    refine ⟨x, hx, Ev.step (f := fun _ => some x) (fun k => ?_) (Ev.now _)⟩
    simp only [outpostref02_Turn.l0]
    rw [if_neg (by omega)]
  | succ d ih =>
    intro j x hj hx
    have hlen := hx.len
    obtain ⟨c, hs, hlt, hb⟩ : ∃ c : Nat, shr .u32 (mask : Int) (j : Int) = (c : Int) ∧ c < 4294967296 ∧ mask.testBit j = decide (c % 2 = 1) :=
      ⟨mask / 2 ^ j, by rw [shr_u32 (mask : Int) j (by omega), Int.natCast_ediv]; simp, Nat.lt_of_le_of_lt (Nat.div_le_self _ _) hm, Nat.testBit_eq_decide_div_mod_eq⟩
    by_cases hbit : c % 2 = 1
    · by_cases hin : at_ + j < 8 * l.length
      · have hi8 : (at_ + j) / 8 < x.length := by omega
        obtain ⟨b, hbe⟩ : ∃ b : Nat, x.getD ((at_ + j) / 8) 0 = (b : Int) ∧ b < 256 := by
          have := rd_by hx.by_ hi8
          rw [rd_getD] at this
          exact ⟨(x.getD ((at_ + j) / 8) 0).toNat, by omega, by omega⟩
        have hp : (2 : Nat) ^ ((at_ + j) % 8) < 256 := Nat.lt_of_lt_of_eq (Nat.pow_lt_pow_right (a := 2) (by omega) (show (at_ + j) % 8 < 8 by omega)) (show (2 : Nat) ^ 8 = 256 by decide)
        have sh := shl1 ((at_ + j) % 8) (by omega)
        have xr := u8_xor_nat b (2 ^ ((at_ + j) % 8)) hbe.2 hp
        have hxlt : b ^^^ 2 ^ ((at_ + j) % 8) < 256 := Nat.xor_lt_two_pow (n := 8) hbe.2 hp
        obtain ⟨y, hy, he⟩ := ih (j + 1) (x.set ((at_ + j) / 8) ((((x.getD ((at_ + j) / 8) 0).toNat ^^^ 2 ^ ((at_ + j) % 8) : Nat)) : Int)) (by omega) {
          len := by simp [hlen]
          by_ := by
            intro z hz
            rcases List.mem_or_eq_of_mem_set hz with hz | rfl
            · exact hx.by_ z hz
            · rw [hbe.1, Int.toNat_natCast]; omega
          bit := by
            intro q hq
            rw [bitAt_set x _ hi8, hx.bit q hq, turns_succ, hb]
            simp [hbit] }
        refine ⟨y, hy, Ev.step (fun k => ?_) he⟩
        simp only [outpostref02_Turn.l0]
        rw [if_pos (by omega), if_pos (by omega), hs, and1 hlt, if_pos (by omega), wadd _ _ (by omega), hlen, wmul8 _ (by omega), if_pos (by omega), tdiv8, wnat _ (by omega), if_pos (by omega), if_pos (by omega), tmod8, if_pos (by omega), rd_getD, hbe.1, sh, xr, wsucc _ (by omega), Int.toNat_natCast, Int.toNat_natCast]
      · obtain ⟨y, hy, he⟩ := ih (j + 1) x (by omega) {
          len := hlen
          by_ := hx.by_
          bit := by
            intro q hq
            rw [hx.bit q hq, turns_succ]
            have : ¬ q = at_ + j := by omega
            simp [this] }
        refine ⟨y, hy, Ev.step (fun k => ?_) he⟩
        simp only [outpostref02_Turn.l0]
        rw [if_pos (by omega), if_pos (by omega), hs, and1 hlt, if_pos (by omega), wadd _ _ (by omega), hlen, wmul8 _ (by omega), if_neg (by omega), wsucc _ (by omega)]
    · obtain ⟨y, hy, he⟩ := ih (j + 1) x (by omega) {
        len := hlen
        by_ := hx.by_
        bit := by
          intro q hq
          rw [hx.bit q hq, turns_succ, hb]
          simp [hbit] }
      refine ⟨y, hy, Ev.step (fun k => ?_) he⟩
      simp only [outpostref02_Turn.l0]
      rw [if_pos (by omega), if_pos (by omega), hs, and1 hlt, if_neg (by omega), wsucc _ (by omega)]
theorem turn_f (l : List Int) (hl : By l) (hn : l.length ≤ 10000) (at_ mask : Nat) (hat : at_ < 8 * l.length) (hm : mask < 4294967296) :
    ∃ y, Turned l y at_ mask 32 ∧ Ev (fun k => outpostref02_Turn.f k l (at_ : Int) (mask : Int)) y := by
  obtain ⟨y, hy, he⟩ := turn_l0 l hl hn at_ mask hat hm 32 0 l (by omega) ⟨rfl, hl, fun q _ => by rw [turns_zero]; simp⟩
  exact ⟨y, hy, Ev.bind (copy_f l (by omega)) he⟩

theorem bitsOf_cons (b : Nat) (l : List Nat) : bitsOf (b :: l) = bits8 b ++ bitsOf l := rfl
theorem bits8_length (b : Nat) : (bits8 b).length = 8 := by simp [bits8]
theorem bitsOf_length (l : List Nat) : (bitsOf l).length = 8 * l.length := by
  induction l with
  | nil => rfl
  | cons b l ih => rw [bitsOf_cons, List.length_append, bits8_length, ih, List.length_cons]; omega
theorem bitsOf_get (l : List Nat) : ∀ (q : Nat), q < 8 * l.length → (bitsOf l)[q]? = some ((l.getD (q / 8) 0) / 2 ^ (q % 8) % 2) := by
  induction l with
  | nil => intro q h; simp at h
  | cons b l ih =>
    intro q h
    rw [bitsOf_cons]
    by_cases h8 : q < 8
    · rw [List.getElem?_append_left (by rw [bits8_length]; exact h8)]
      have e1 : q / 8 = 0 := by omega
      have e2 : q % 8 = q := by omega
      rw [e1, e2]
      simp [bits8, h8]
    · rw [List.getElem?_append_right (by rw [bits8_length]; omega), bits8_length, ih (q - 8) (by simp at h; omega)]
      have e1 : q / 8 = (q - 8) / 8 + 1 := by omega
      have e2 : q % 8 = (q - 8) % 8 := by omega
      rw [e1, e2]; simp
theorem getD_zip (x l : List Nat) (h : x.length = l.length) (j : Nat) : (List.zipWith (· ^^^ ·) x l).getD j 0 = x.getD j 0 ^^^ l.getD j 0 := by
  by_cases hj : j < x.length
  · simp [List.getD_eq_getElem?_getD, List.getElem?_zipWith, List.getElem?_eq_getElem hj, List.getElem?_eq_getElem (show j < l.length by omega)]
  · simp [List.getD_eq_getElem?_getD, List.getElem?_zipWith, List.getElem?_eq_none (show x.length ≤ j by omega), List.getElem?_eq_none (show l.length ≤ j by omega)]
theorem getD_nat (l : List Int) (j : Nat) : (nat l).getD j 0 = (l.getD j 0).toNat := by
  by_cases hj : j < l.length
  · simp [nat, List.getD_eq_getElem?_getD, List.getElem?_eq_getElem hj]
  · simp [nat, List.getD_eq_getElem?_getD, List.getElem?_eq_none (show l.length ≤ j by omega)]
/-- The bytes that bits are turned in are as they were, if their sum is. -/
theorem turned_same {l y : List Int} (hl : By l) {at_ mask : Nat} (hat : at_ < 8 * l.length) (hy : Turned l y at_ mask 32) (hs : sum 0 y = sum 0 l) : y = l := by
  have hlen := hy.len
  obtain ⟨D, hD⟩ : ∃ D, D = List.zipWith (· ^^^ ·) (nat y) (nat l) := ⟨_, rfl⟩
  have hDlen : D.length = l.length := by rw [hD]; simp [nat, hlen]
  have hDlt : ∀ x ∈ D, x < 256 := by
    intro x hx
    rw [hD, List.mem_iff_getElem] at hx
    obtain ⟨i, hi, rfl⟩ := hx
    simp only [List.getElem_zipWith]
    exact Nat.xor_lt_two_pow (n := 8) (nat_lt hy.by_ _ (List.getElem_mem _)) (nat_lt hl _ (List.getElem_mem _))
  have hrun : run 0 D = 0 := by
    have e := run_xor (nat y) (nat l) 4294967295 4294967295 (by simp [nat, hlen])
    rw [Nat.xor_self, ← hD] at e
    rw [e]
    unfold sum at hs
    simp only [Nat.xor_zero] at hs
    have : run 4294967295 (nat y) = run 4294967295 (nat l) := by
      have h2 : 4294967295 ^^^ (4294967295 ^^^ run 4294967295 (nat y)) = 4294967295 ^^^ (4294967295 ^^^ run 4294967295 (nat l)) := by rw [hs]
      rwa [← Nat.xor_assoc, ← Nat.xor_assoc, Nat.xor_self, Nat.zero_xor, Nat.zero_xor] at h2
    rw [this, Nat.xor_self]
  rw [run_bits D hDlt] at hrun
  have hbit : ∀ q, q < 8 * l.length → (bitsOf D)[q]? = some (if turns at_ mask 32 q then 1 else 0) := by
    intro q hq
    rw [bitsOf_get D q (by omega)]
    congr 1
    have e : (D.getD (q / 8) 0).testBit (q % 8) = turns at_ mask 32 q := by
      rw [hD, getD_zip _ _ (by simp [nat, hlen]), Nat.testBit_xor, getD_nat, getD_nat]
      have := hy.bit q hq
      unfold bitAt at this
      rw [this]
      cases (l.getD (q / 8) 0).toNat.testBit (q % 8) <;> simp
    rw [Nat.testBit_eq_decide_div_mod_eq] at e
    rw [← e]
    rcases Nat.mod_two_eq_zero_or_one (D.getD (q / 8) 0 / 2 ^ (q % 8)) with hx | hx <;> rw [hx] <;> simp
  have hform : bitsOf D = List.replicate at_ 0 ++ ((List.range (min 32 (8 * l.length - at_))).map fun i => if mask.testBit i then 1 else 0) ++ List.replicate (8 * l.length - at_ - min 32 (8 * l.length - at_)) 0 := by
    apply List.ext_getElem?
    intro q
    by_cases hq : q < 8 * l.length
    · rw [hbit q hq]
      by_cases h1 : q < at_
      · rw [List.append_assoc, List.getElem?_append_left (by simpa using h1)]
        have : turns at_ mask 32 q = false := by
          unfold turns
          have : ¬ at_ ≤ q := by omega
          simp [this]
        rw [this, List.getElem?_replicate, if_pos h1]; simp
      · by_cases h2 : q < at_ + min 32 (8 * l.length - at_)
        · rw [List.getElem?_append_left (by simp; omega), List.getElem?_append_right (by simp; omega)]
          have e : turns at_ mask 32 q = mask.testBit (q - at_) := by
            unfold turns
            have a1 : at_ ≤ q := by omega
            have a2 : q < at_ + 32 := by omega
            simp [a1, a2]
          rw [e, List.length_replicate]
          have : q - at_ < min 32 (8 * l.length - at_) := by omega
          simp [this]
        · rw [List.getElem?_append_right (by simp; omega)]
          have e : turns at_ mask 32 q = false := by
            unfold turns
            have : ¬ q < at_ + 32 := by omega
            simp [this]
          rw [e, List.getElem?_replicate]
          show (some 0 : Option Nat) = _
          rw [if_pos (by simp only [List.length_append, List.length_replicate, List.length_map, List.length_range]; omega)]
    · rw [List.getElem?_eq_none (by rw [bitsOf_length, hDlen]; omega), List.getElem?_eq_none (by simp; omega)]
  rw [hform] at hrun
  have hw := window at_ (8 * l.length - at_ - min 32 (8 * l.length - at_)) ((List.range (min 32 (8 * l.length - at_))).map fun i => if mask.testBit i then 1 else 0) (by
    intro c hc
    simp only [List.mem_map] at hc
    obtain ⟨i, _, rfl⟩ := hc
    split <;> omega) (by simp; omega) hrun
  have hzero : ∀ q, q < 8 * l.length → turns at_ mask 32 q = false := by
    intro q hq
    unfold turns
    by_cases h1 : at_ ≤ q
    · by_cases h2 : q < at_ + 32
      · have := hw (if mask.testBit (q - at_) then 1 else 0) (List.mem_map.2 ⟨q - at_, by simp; omega, rfl⟩)
        have : mask.testBit (q - at_) = false := by
          cases h : mask.testBit (q - at_)
          · rfl
          · rw [h] at this; simp at this
        simp [this]
      · simp [h2]
    · simp [h1]
  apply List.ext_getElem hlen
  intro i h1 h2
  have hyb := hy.by_ _ (List.getElem_mem h1)
  have hlb := hl _ (List.getElem_mem h2)
  have key : y[i].toNat = l[i].toNat := by
    apply Nat.eq_of_testBit_eq
    intro t
    by_cases ht : t < 8
    · have := hy.bit (8 * i + t) (by omega)
      rw [hzero _ (by omega)] at this
      unfold bitAt at this
      have d1 : (8 * i + t) / 8 = i := by omega
      have d2 : (8 * i + t) % 8 = t := by omega
      rw [d1, d2] at this
      simpa [List.getD_eq_getElem?_getD, List.getElem?_eq_getElem h1, List.getElem?_eq_getElem h2] using this
    · have hp : (2 : Nat) ^ 8 ≤ 2 ^ t := Nat.pow_le_pow_right (by omega) (by omega)
      rw [Nat.testBit_lt_two_pow (by omega), Nat.testBit_lt_two_pow (by omega)]
  omega
end Go.Proofs.Ytemhkbifgckdnaa.Fn
