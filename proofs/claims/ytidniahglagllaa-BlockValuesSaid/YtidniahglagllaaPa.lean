/- Blocks: what each function of the program and of the document answers, in plain words. -/
import Derived.Test.YtidniahglagllaaLNum
import Derived.Test.YtidniahglagllaaLClone
import Derived.Test.YtidniahglagllaaLSame
namespace Go.Proofs.YtidniahglagllaaD
open Go Go.Proofs.YtidniahglagllaaS Go.Proofs
set_option linter.unusedVariables false
set_option linter.unusedSimpArgs false
section
variable {X : Type}
/-- Which power of a size, -1 of none. -/
def pw (z : Int) : Int := if z = 16 then 0 else if z = 32 then 1 else if z = 64 then 2 else if z = 128 then 3 else if z = 256 then 4 else if z = 512 then 5 else if z = 1024 then 6 else -1
def Rt (n z : Int) : Prop := 0 ≤ pw z ∧ 0 ≤ n ∧ n ≤ 1048575
instance (n z : Int) : Decidable (Rt n z) := by unfold Rt; infer_instance
theorem Rt.of {n z : Int} (h : Rt n z) : ∃ N s : Nat, n = N ∧ N < 1048576 ∧ s ≤ 6 ∧ z = ((16 * 2 ^ s : Nat) : Int) ∧ pw z = s := by
  obtain ⟨h1, h2, h3⟩ := h
  refine ⟨n.toNat, (pw z).toNat, by omega, by omega, ?_⟩
  unfold pw at h1 ⊢
  split at h1
  · subst z; decide
  split at h1
  · subst z; decide
  split at h1
  · subst z; decide
  split at h1
  · subst z; decide
  split at h1
  · subst z; decide
  split at h1
  · subst z; decide
  split at h1
  · subst z; decide
  · exact absurd h1 (by decide)
theorem pw_of {s : Nat} (h : s ≤ 6) : pw ((16 * 2 ^ s : Nat) : Int) = s := by
  match s, h with
  | 0, _ => rfl
  | 1, _ => rfl
  | 2, _ => rfl
  | 3, _ => rfl
  | 4, _ => rfl
  | 5, _ => rfl
  | 6, _ => rfl
theorem Rt.mk {N s : Nat} (h : s ≤ 6) (hN : N < 1048576) : Rt (N : Int) ((16 * 2 ^ s : Nat) : Int) := ⟨by rw [pw_of h]; omega, by omega, by omega⟩
theorem beq_comm' (a b : Int) : (a == b) = decide (b = a) := by
  by_cases h : a = b
  · subst h; simp
  · rw [beq_f h]; simp [Ne.symm h]
theorem power_eq {k : Nat} (K : Int → Option X) (hk : 100 < k) (z : Int) : f26 k K z = K (pw z) := by
  obtain ⟨k, rfl⟩ : ∃ j, k = j + 8 := ⟨k - 8, by omega⟩
  have h : f26 (k + 8) K z = (bif ((16 : Int) == z) then K 0 else bif ((32 : Int) == z) then K 1 else bif ((64 : Int) == z) then K 2 else bif ((128 : Int) == z) then K 3 else bif ((256 : Int) == z) then K 4 else bif ((512 : Int) == z) then K 5 else bif ((1024 : Int) == z) then K 6 else K (-1)) := by kernel_rfl
  rw [h]
  simp only [beq_comm', bif_dec]
  unfold pw
  repeat' split
  all_goals rfl
theorem scale_eq {k : Nat} (K : Int × Bool → Option X) (hk : 100 < k) (z : Int) : f23 k K z = if 0 ≤ pw z then K (pw z, true) else K (0, false) := by
  obtain ⟨k, rfl⟩ : ∃ j, k = j + 8 := ⟨k - 8, by omega⟩
  have h : f23 (k + 8) K z = (bif ((16 : Int) == z) then K (0, true) else bif ((32 : Int) == z) then K (1, true) else bif ((64 : Int) == z) then K (2, true) else bif ((128 : Int) == z) then K (3, true) else bif ((256 : Int) == z) then K (4, true) else bif ((512 : Int) == z) then K (5, true) else bif ((1024 : Int) == z) then K (6, true) else K (0, false)) := by kernel_rfl
  rw [h]
  simp only [beq_comm', bif_dec]
  unfold pw
  repeat' split
  all_goals first | rfl | contradiction | (exfalso; omega)
theorem right_eq {k : Nat} (K : Bool → Option X) (hk : 100 < k) (n z : Int) : f22 k K n z = K (decide (Rt n z)) := by
  unfold f22 f22_A f22_T
  refine (scale_eq _ hk _).trans ?_
  by_cases h : 0 ≤ pw z
  · rw [if_pos h]
    simp only [cond_true, bif_dec]
    by_cases h2 : n ≥ 0
    · rw [if_pos h2]; exact congrArg K (decide_eq_decide.2 ⟨fun h3 => ⟨h, h2, by omega⟩, fun h3 => by have := h3.2.2; omega⟩)
    · rw [if_neg h2]; exact congrArg K (decide_eq_false (fun h3 => h2 h3.2.1)).symm
  · rw [if_neg h]
    exact congrArg K (decide_eq_false (fun h3 => h h3.1)).symm
theorem refRight_eq {k : Nat} (K : Bool → Option X) (hk : 100 < k) (n z : Int) : f25 k K n z = K (decide (Rt n z)) := by
  unfold f25 f25_A f25_T
  refine (power_eq _ hk _).trans ?_
  simp only [bif_dec]
  by_cases h : pw z ≥ 0
  · rw [if_pos h]
    by_cases h2 : n ≥ 0
    · rw [if_pos h2]; exact congrArg K (decide_eq_decide.2 ⟨fun h3 => ⟨h, h2, by omega⟩, fun h3 => by have := h3.2.2; omega⟩)
    · rw [if_neg h2]; exact congrArg K (decide_eq_false (fun h3 => h2 h3.2.1)).symm
  · rw [if_neg h]
    exact congrArg K (decide_eq_false (fun h3 => h h3.1)).symm
/-- A block, as a value of the program. -/
def blk (n : Int) (m : Bool) (z : Int) : CV := .agg [.int .i64 n, .bool m, .int .i64 z]
theorem blk_a (n : Int) (m : Bool) (z : Int) : CV.isA 3 (blk n m z) = true := rfl
theorem blk_0 (n : Int) (m : Bool) (z : Int) : CV.cellD 0 (blk n m z) = .int .i64 n := rfl
theorem blk_1 (n : Int) (m : Bool) (z : Int) : CV.cellD 1 (blk n m z) = .bool m := rfl
theorem blk_2 (n : Int) (m : Bool) (z : Int) : CV.cellD 2 (blk n m z) = .int .i64 z := rfl
def wnum (n : Int) (m : Bool) (z : Int) : Nat := n.toNat * 16 + (pw z).toNat + (if m then 8 else 0)
def wr (n : Int) (m : Bool) (z : Int) : Nat × Int × List CV := if Rt n z then ((be (wnum n m z)).length, 0, by8 (be (wnum n m z))) else (0, 1, [])
theorem or8 {s : Nat} (h : s ≤ 6) : s ||| 8 = s + 8 := by
  match s, h with
  | 0, _ => rfl
  | 1, _ => rfl
  | 2, _ => rfl
  | 3, _ => rfl
  | 4, _ => rfl
  | 5, _ => rfl
  | 6, _ => rfl
theorem write_eq {k : Nat} (K : Nat × Int × List CV → Option X) (hk : 100 < k) (n z : Int) (m : Bool) : f8 k K (blk n m z) = K (wr n m z) := by
  unfold f8 f8_A f8_T
  simp only [blk_a, blk_0, blk_1, blk_2, isI_int, isB_bool, toI_int, toB_bool, grd_true]
  rw [right_eq _ hk]
  unfold wr
  by_cases h : Rt n z
  · obtain ⟨N, s, rfl, hN, hs, rfl, hp⟩ := h.of
    rw [decide_eq_true h, if_pos h]
    show f23 k _ ((16 * 2 ^ s : Nat) : Int) = _
    rw [scale_eq _ hk, hp, if_pos (by omega)]
    have e1 : IntKind.wrap .i64 ((N : Int) * 2 ^ 4) = ((N * 2 ^ 4 : Nat) : Int) := by rw [wrap64 (by omega) (by omega)]; rfl
    have e2 : bop .or .i64 (IntKind.wrap .i64 ((N : Int) * 2 ^ 4)) (s : Int) = ((N * 2 ^ 4 + s : Nat) : Int) := by
      rw [e1, bop_or64 (by omega) (by omega), or_add (by omega)]
    cases m
    · simp only [cond_false, cond_true]
      have hw : wnum (N : Int) false ((16 * 2 ^ s : Nat) : Int) = N * 2 ^ 4 + s := by unfold wnum; rw [hp]; simp
      rw [e2, hw]
      unfold f8_J1
      refine (uint_eq _ hk _ (by omega)).trans ?_
      simp only [Nat.zero_add]
      rw [take_all _ _ (by rw [by8_length]; exact Nat.le_refl _)]
    · simp only [cond_false, cond_true]
      have hw : wnum (N : Int) true ((16 * 2 ^ s : Nat) : Int) = N * 2 ^ 4 + s + 8 := by unfold wnum; rw [hp]; simp
      have e3 : bop .or .i64 ((N * 2 ^ 4 + s : Nat) : Int) 8 = ((N * 2 ^ 4 + s + 8 : Nat) : Int) := by
        have h6 : (N * 2 ^ 4 + s) ||| 8 = N * 2 ^ 4 + s + 8 := by
          have h7 : (N * 2 ^ 4 + s) ||| 8 = (N * 2 ^ 4 ||| s) ||| 8 := by rw [or_add (show s < 2 ^ 4 by omega)]
          rw [h7, Nat.or_assoc, or8 hs, or_add (show s + 8 < 2 ^ 4 by omega)]; omega
        have h5 := bop_or64 (a := N * 2 ^ 4 + s) (b := 8) (by omega) (by omega)
        rw [h6] at h5
        exact h5
      rw [e2, e3, hw]
      unfold f8_J1
      refine (uint_eq _ hk _ (by omega)).trans ?_
      simp only [Nat.zero_add]
      rw [take_all _ _ (by rw [by8_length]; exact Nat.le_refl _)]
  · rw [decide_eq_false h, if_neg h]
    rfl
theorem refWrite_eq {k : Nat} (K : Nat × Int × List CV → Option X) (hk : 100 < k) (n z : Int) (m : Bool) : f9 k K (blk n m z) = K (wr n m z) := by
  unfold f9 f9_A f9_T
  simp only [blk_a, blk_0, blk_1, blk_2, isI_int, isB_bool, toI_int, toB_bool, grd_true]
  rw [refRight_eq _ hk]
  unfold wr
  by_cases h : Rt n z
  · obtain ⟨N, s, rfl, hN, hs, rfl, hp⟩ := h.of
    rw [decide_eq_true h, if_pos h]
    show f26 k _ ((16 * 2 ^ s : Nat) : Int) = _
    rw [power_eq _ hk, hp]
    have e2 : IntKind.wrap .i64 (IntKind.wrap .i64 ((N : Int) * 16) + (s : Int)) = ((N * 2 ^ 4 + s : Nat) : Int) := by
      rw [wrap64 (n := (N : Int) * 16) (by omega) (by omega), wrap64 (by omega) (by omega)]; rfl
    cases m
    · simp only [cond_false, cond_true]
      have hw : wnum (N : Int) false ((16 * 2 ^ s : Nat) : Int) = N * 2 ^ 4 + s := by unfold wnum; rw [hp]; simp
      rw [e2, hw]
      unfold f9_J1
      refine (refUint_eq _ hk _ (by omega)).trans ?_
      simp only [Nat.zero_add]
      rw [take_all _ _ (by rw [by8_length]; exact Nat.le_refl _)]
    · simp only [cond_false, cond_true]
      have hw : wnum (N : Int) true ((16 * 2 ^ s : Nat) : Int) = N * 2 ^ 4 + s + 8 := by unfold wnum; rw [hp]; simp
      have e3 : IntKind.wrap .i64 (((N * 2 ^ 4 + s : Nat) : Int) + 8) = ((N * 2 ^ 4 + s + 8 : Nat) : Int) := by
        rw [wrap64 (by omega) (by omega)]; rfl
      rw [e2, e3, hw]
      unfold f9_J1
      refine (refUint_eq _ hk _ (by omega)).trans ?_
      simp only [Nat.zero_add]
      rw [take_all _ _ (by rw [by8_length]; exact Nat.le_refl _)]
  · rw [decide_eq_false h, if_neg h]
    rfl
theorem and_bit (n i : Nat) : n &&& 2 ^ i = if n / 2 ^ i % 2 = 1 then 2 ^ i else 0 := by
  refine Nat.eq_of_testBit_eq fun j => ?_
  rw [Nat.testBit_and, Nat.testBit_two_pow]
  by_cases h : i = j
  · subst h
    rw [Nat.testBit_eq_decide_div_mod_eq]
    by_cases c : n / 2 ^ i % 2 = 1
    · rw [if_pos c]; simp [c, Nat.testBit_two_pow]
    · rw [if_neg c]; simp [c]
  · simp [h]; split <;> simp [Nat.testBit_two_pow, h]
/-- The block of a value, and the error. -/
def rd (bs : List Int) : CV × Int := if bs.length > 3 ∨ numN bs % 8 = 7 then (blk 0 false 0, 20) else (blk ((numN bs / 16 : Nat) : Int) (decide (numN bs / 8 % 2 = 1)) ((16 * 2 ^ (numN bs % 8) : Nat) : Int), 0)
theorem numN_lt24 {bs : List Int} (hb : Byt bs) (h : bs.length ≤ 3) : numN bs < 16777216 := by
  have h1 := numN_lt bs hb
  have h2 : 256 ^ bs.length ≤ 256 ^ 3 := Nat.pow_le_pow_right (by decide) h
  have h3 : (256 : Nat) ^ 3 = 16777216 := by decide
  omega
theorem read_eq {k : Nat} (K : CV × Int → Option X) (hk : 100 < k) (bs : List Int) (hb : Byt bs) : f11 k K (by8 bs) = K (rd bs) := by
  unfold f11 f11_A f11_T
  refine (number_eq _ hk bs hb).trans ?_
  unfold rd
  by_cases h : bs.length > 3
  · rw [if_pos (Or.inl h)]
    have hd : decide (((by8 bs).length : Int) > 3) = true := decide_eq_true (by rw [by8_length]; omega)
    split <;> exact bifT hd
  · have hn := numN_lt24 hb (by omega)
    rw [if_neg (by omega)]
    refine (bifF (decide_eq_false (by rw [by8_length]; omega))).trans ?_
    have e1 : bop .and .i64 ((numN bs : Nat) : Int) 7 = ((numN bs % 8 : Nat) : Int) := by
      have := bop_mask64 ((numN bs : Nat) : Int) 3 (by decide)
      simpa using this
    simp only [e1]
    by_cases h7 : numN bs % 8 = 7
    · rw [if_pos (Or.inr h7), h7]
      rfl
    · rw [if_neg (by omega)]
      refine (bifF (beq_f (by omega))).trans ?_
      refine (grdT (decide_eq_true (by omega))).trans ?_
      have e2 : Int.fdiv ((numN bs : Nat) : Int) (2 ^ 4) = ((numN bs / 16 : Nat) : Int) := by rw [fdiv_eq _ (by decide)]; rfl
      have e3 : (bop .and .i64 ((numN bs : Nat) : Int) 8 != 0) = decide (numN bs / 8 % 2 = 1) := by
        have := bop_and64 (a := numN bs) (b := 8) (by omega) (by omega)
        rw [show (8 : Nat) = 2 ^ 3 from rfl, and_bit] at this
        rw [show (8 : Int) = ((2 ^ 3 : Nat) : Int) from rfl, this]
        by_cases hc : numN bs / 2 ^ 3 % 2 = 1
        · rw [if_pos hc, decide_eq_true (show numN bs / 8 % 2 = 1 from hc)]; rfl
        · rw [if_neg hc, decide_eq_false (show ¬ numN bs / 8 % 2 = 1 from hc)]; rfl
      have e4 : IntKind.wrap .i64 (16 * 2 ^ (min (Int.toNat ((numN bs % 8 : Nat) : Int)) 64)) = ((16 * 2 ^ (numN bs % 8) : Nat) : Int) := by
        have h8 : numN bs % 8 < 8 := Nat.mod_lt _ (by decide)
        generalize numN bs % 8 = q at h8
        match q, h8 with
        | 0, _ => rfl
        | 1, _ => rfl
        | 2, _ => rfl
        | 3, _ => rfl
        | 4, _ => rfl
        | 5, _ => rfl
        | 6, _ => rfl
        | 7, _ => rfl
      rw [e2, e3, e4]
      rfl
theorem refRead_eq {k : Nat} (K : CV × Int → Option X) (hk : 100 < k) (bs : List Int) (hb : Byt bs) : f12 k K (by8 bs) = K (rd bs) := by
  unfold f12 f12_A f12_T
  unfold rd
  by_cases h : bs.length > 3
  · rw [if_pos (Or.inl h)]
    exact bifT (decide_eq_true (by rw [by8_length]; omega))
  · have hn := numN_lt24 hb (by omega)
    refine (bifF (decide_eq_false (by rw [by8_length]; omega))).trans ?_
    refine (refNumber_eq _ hk bs hb).trans ?_
    rw [if_neg (by omega)]
    have e1 : Int.tmod ((numN bs : Nat) : Int) 8 = ((numN bs % 8 : Nat) : Int) := by rw [tmod_eq (by omega)]; rfl
    simp only [e1]
    by_cases h7 : numN bs % 8 = 7
    · rw [if_pos (Or.inr h7), h7]
      rfl
    · rw [if_neg (by omega)]
      refine (bifF (beq_f (by omega))).trans ?_
      have h8 : numN bs % 8 < 8 := Nat.mod_lt _ (by decide)
      have key := iterV_spec (T := f12_L1 (fun X => @f29 X k) k K) (fun i => (((numN bs : Nat) : Int), ((16 * 2 ^ i : Nat) : Int), (i : Int))) (fun _ => K (blk ((numN bs / 16 : Nat) : Int) (decide (numN bs / 8 % 2 = 1)) ((16 * 2 ^ (numN bs % 8) : Nat) : Int), 0)) (numN bs % 8) (fun i rec hi hr => by
        unfold f12_L1 f12_T1
        simp only [e1, decLt, hi, decide_true, cond_true]
        rw [← hr]
        have hp : 2 ^ i ≤ 2 ^ 7 := Nat.pow_le_pow_right (by decide) (by omega)
        have hp7 : 2 ^ 7 = 128 := by decide
        refine congrArg rec (Prod.ext rfl (Prod.ext ?_ ?_))
        · show IntKind.wrap .i64 (((16 * 2 ^ i : Nat) : Int) * 2) = _
          rw [wrap64 (by omega) (by omega)]
          show _ = ((16 * 2 ^ (i + 1) : Nat) : Int)
          rw [Nat.pow_succ]; omega
        · exact wrap64_s (by omega)) (fun rec => by
        unfold f12_L1 f12_T1
        simp only [e1, decLt, Nat.lt_irrefl, decide_false, cond_false]
        have e2 : IntKind.wrap .i64 (Int.tdiv ((numN bs : Nat) : Int) 16) = ((numN bs / 16 : Nat) : Int) := by
          rw [tdiv_eq (by omega), show ((numN bs : Nat) : Int) / 16 = ((numN bs / 16 : Nat) : Int) from rfl]; exact wrap64N (by omega)
        have e3 : (Int.tmod (IntKind.wrap .i64 (Int.tdiv ((numN bs : Nat) : Int) 8)) 2 == 1) = decide (numN bs / 8 % 2 = 1) := by
          rw [tdiv_eq (by omega), show ((numN bs : Nat) : Int) / 8 = ((numN bs / 8 : Nat) : Int) from rfl, wrap64N (by omega), tmod_eq (by omega)]
          by_cases hc : numN bs / 8 % 2 = 1
          · rw [decide_eq_true hc]; simp; omega
          · rw [decide_eq_false hc]; exact beq_f (by omega)
        rw [e2, e3]
        rfl) k 0 (Nat.zero_le _) (by omega)
      exact key
end
end Go.Proofs.YtidniahglagllaaD
