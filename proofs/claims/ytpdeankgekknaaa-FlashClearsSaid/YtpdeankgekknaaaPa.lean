/- A flash: bytes that come again and again, and a new flash, in plain words. -/
import Derived.Test.YtpdeankgekknaaaD
import Derived.Test.YtpdeankgekknaaaLClone
namespace Go.Proofs.YtpdeankgekknaaaD
open Go Go.Proofs.YtpdeankgekknaaaS Go.Proofs
set_option linter.unusedVariables false
set_option linter.unusedSimpArgs false
section
variable {X : Type}
theorem and_low {n : Nat} (h : n < 4294967296) : bop .and .u64 (n : Int) 4294967295 = n := by
  have h2 : n &&& 4294967295 = n % 4294967296 := Nat.and_two_pow_sub_one_eq_mod n 32
  have h3 : (BitVec.ofInt 64 (n : Int) &&& BitVec.ofInt 64 4294967295).toNat = n := by
    have e1 : (BitVec.ofInt 64 (n : Int)).toNat = n % 2 ^ 64 := ofInt_toNat 64 n
    have e2 : (BitVec.ofInt 64 (4294967295 : Int)).toNat = 4294967295 := by decide
    rw [BitVec.toNat_and, e1, e2, Nat.mod_eq_of_lt (by omega), h2]
    omega
  unfold bop
  have h4 : (BitVec.ofInt (IntKind.bits .u64) (n : Int) &&& BitVec.ofInt (IntKind.bits .u64) 4294967295).toNat = n := h3
  simp only [h4]
  rw [wrapU64]
  omega
theorem mul_eq {k : Nat} (K : Int × Int → Option X) (n : Nat) (h : n < 4294967296) : f29 k K 1 (n : Int) = K (0, (n : Int)) := by
  show f32 k (fun u1 => K (u1.1, u1.2)) 1 (n : Int) = _
  unfold f32 f32_A f32_T
  have e1 : bop .and .u64 (1 : Int) 4294967295 = 1 := and_low (n := 1) (by decide)
  have e2 := and_low h
  have e3 : Int.fdiv (1 : Int) (2 ^ 32) = 0 := by decide
  have e4 : Int.fdiv (n : Int) (2 ^ 32) = 0 := by rw [fdiv_eq _ (by decide)]; omega
  have w0 : IntKind.wrap .u64 (0 : Int) = 0 := by decide
  have wn : IntKind.wrap .u64 (n : Int) = n := by rw [wrapU64]; omega
  have a0 : bop .and .u64 (0 : Int) 4294967295 = 0 := and_low (n := 0) (by decide)
  have f0 : Int.fdiv (0 : Int) (2 ^ 32) = 0 := by decide
  simp only [e1, e2, e3, e4, Int.zero_mul, Int.one_mul, Int.mul_zero, w0, wn, Int.zero_add, Int.add_zero, a0, f0]
/-- Bytes that are there already, and such as nobody knows. -/
def rowR (n b : Nat) : List CV := by8 (List.replicate b 255) ++ List.replicate (n - b) .any
theorem rowR_len {n b : Nat} (h : b ≤ n) : (rowR n b).length = n := by simp [rowR, by8_length]; omega
theorem rowR_take {n b c : Nat} (h : c ≤ b) : (rowR n b).take c = by8 (List.replicate c 255) := by
  unfold rowR
  rw [List.take_append_of_le_length (by simp [by8_length]; exact h), ← by8_take, List.take_replicate, Nat.min_eq_left h]
theorem rowR_drop {n b c : Nat} (h : b ≤ c) (hc : c ≤ n) : (rowR n b).drop c = List.replicate (n - c) .any := by
  unfold rowR
  rw [List.drop_append, List.drop_eq_nil_of_le (by simp [by8_length]; exact h), List.nil_append, List.drop_replicate]
  congr 1
  simp [by8_length]; omega
theorem rowR_put {n b m : Nat} (h : b + m ≤ n) : (rowR n b).take b ++ by8 (List.replicate m 255) ++ (rowR n b).drop (b + m) = rowR n (b + m) := by
  rw [rowR_take (Nat.le_refl _), rowR_drop (by omega) h, ← by8_append, List.replicate_append_replicate]
  rfl
theorem repeat_loop {k0 : Nat} (K : Nat × List CV → Option X) (n c : Nat) (hc : 0 < c) (hn : n ≤ 300000) (hcn : c ≤ 300000) : ∀ (k b : Nat), n - b < k → 0 < b → b ≤ n →
    iterV (f24_L1 (fun X => @f29 X k0) (fun X => @f30 X k0) k0 K) k ((n : Int), (c : Int), n, (b : Int), rowR n b) = K (n, by8 (List.replicate n 255))
  | 0, b, h, _, _ => by omega
  | k + 1, b, h, hb, hbn => by
    have ih := fun b' h1 h2 h3 => repeat_loop (k0 := k0) K n c hc hn hcn k b' h1 h2 h3
    show f24_L1 _ _ k0 K (iterV (f24_L1 (fun X => @f29 X k0) (fun X => @f30 X k0) k0 K) k) _ = _
    generalize iterV (f24_L1 (fun X => @f29 X k0) (fun X => @f30 X k0) k0 K) k = rc at ih ⊢
    unfold f24_L1 f24_T1
    by_cases hlt : b < n
    · have ec : (if (c : Int) < (b : Int) then (c : Int) else (b : Int)) = ((min b c : Nat) : Int) := by split <;> omega
      have hm1 : min b c ≤ b := Nat.min_le_left _ _
      have hm0 : 0 < min b c := by omega
      simp only [ec, decLt, hlt, decide_true, cond_true, dec0, grd_true, decLe, Int.toNat_natCast, Nat.zero_add, Nat.sub_zero, List.drop_zero, rowR_take hm1, by8_length, List.length_replicate, rowR_len hbn]
      refine (grdT (decide_eq_true (by omega))).trans ?_
      refine (grdT (decide_eq_true (by omega))).trans ?_
      refine (grdT (decide_eq_true (by omega))).trans ?_
      refine (grdT (decide_eq_true (by omega))).trans ?_
      have hm : min (min b c) (n - b) ≤ n - b := Nat.min_le_right _ _
      have hmp : 0 < min (min b c) (n - b) := by omega
      rw [← ih (b + min (min b c) (n - b)) (by omega) (by omega) (by omega)]
      have e1 : List.take (min (min b c) (n - b)) (by8 (List.replicate (min b c) 255)) = by8 (List.replicate (min (min b c) (n - b)) 255) := by
        rw [← by8_take, List.take_replicate]
        congr 2; omega
      refine congrArg rc (Prod.ext rfl (Prod.ext rfl (Prod.ext rfl (Prod.ext ?_ ?_))))
      · show IntKind.wrap .i64 ((b : Int) + ((min (min b c) (n - b) : Nat) : Int)) = ((b + min (min b c) (n - b) : Nat) : Int)
        rw [wrap64 (by omega) (by omega)]; simp
      · show (rowR n b).take b ++ List.take (min (min b c) (n - b)) (by8 (List.replicate (min b c) 255)) ++ (rowR n b).drop (b + min (min b c) (n - b)) = _
        rw [e1, rowR_put (by omega)]
    · have hbe : b = n := by omega
      subst hbe
      simp only [decLt, Nat.lt_irrefl, decide_false, cond_false, Nat.zero_add]
      rw [rowR_take (Nat.le_refl _)]
theorem repeat_eq {k : Nat} (K : Nat × List CV → Option X) (hk : 400000 < k) (n : Nat) (h0 : 0 < n) (hn : n ≤ 300000) : f24 k K (by8 [255]) (n : Int) = K (n, by8 (List.replicate n 255)) := by
  unfold f24 f24_A f24_T
  have w1 : IntKind.wrap .u64 (((by8 [255]).length : Nat) : Int) = 1 := by decide
  have wn : IntKind.wrap .u64 (n : Int) = n := by rw [wrapU64]; omega
  have wi : IntKind.wrap .i64 (n : Int) = n := wrap64N (by omega)
  rw [w1, wn]
  refine (bifF (beq_f (by omega))).trans ?_
  refine (bifF (decide_eq_false (by omega))).trans ?_
  refine (mul_eq _ n (by omega)).trans ?_
  refine (bifF (decide_eq_false (by simp))).trans ?_
  refine (bifF (decide_eq_false (by simp only []; omega))).trans ?_
  refine (bifF (beq_f (by decide))).trans ?_
  have J : ∀ c : Nat, 0 < c → c ≤ 300000 → f24_J1 (fun X => @f29 X k) (fun X => @f30 X k) k K (iterV (f24_L1 (fun X => @f29 X k) (fun X => @f30 X k) k K) k) (0, (n : Int)) (by8 [255]) (c : Int) = K (n, by8 (List.replicate n 255)) := fun c hc hc2 => by
    unfold f24_J1 f30
    simp only [wi, dec0, grd_true, Int.toNat_natCast, List.length_replicate, Nat.sub_zero, Nat.zero_add, decLe, Nat.le_refl, decide_true, Int.sub_zero, cond_true]
    refine (grdT (decide_eq_true (by omega))).trans ?_
    refine Eq.trans ?_ (repeat_loop (k0 := k) K n c hc hn hc2 k 1 (by omega) (by omega) (by omega))
    have e1 : min (by8 [255]).length n = 1 := by show min 1 n = 1; omega
    rw [e1]
    refine congrArg _ (Prod.ext rfl (Prod.ext rfl (Prod.ext rfl (Prod.ext rfl ?_))))
    show List.take 0 (List.replicate n CV.any) ++ List.take 1 (by8 [255]) ++ List.drop 1 (List.replicate n CV.any) = rowR n 1
    rw [List.drop_replicate]
    rfl
  simp only [wi]
  by_cases h8 : (n : Int) > 8192
  · rw [decide_eq_true h8]
    have e2 : IntKind.wrap .i64 (IntKind.wrap .i64 (Int.tdiv 8192 (((by8 [255]).length : Nat) : Int)) * (((by8 [255]).length : Nat) : Int)) = ((8192 : Nat) : Int) := by decide
    simp only [cond_true, e2]
    rw [show (((8192 : Nat) : Int) == 0) = false by decide]
    simp only [cond_false]
    exact J 8192 (by decide) (by decide)
  · rw [decide_eq_false h8]
    simp only [cond_false]
    exact J n h0 hn
/-- How many sectors there are, and of how many bytes. -/
def sN (x : Int) : Nat := if x < 1 then 1 else if 64 < x then 64 else x.toNat
def zN (x : Int) : Nat := if x < 16 then 16 else if 4096 < x then 4096 else x.toNat
theorem sN_eq (x : Int) : (if 64 < (if 1 > x then 1 else x) then 64 else (if 1 > x then 1 else x)) = ((sN x : Nat) : Int) := by
  unfold sN
  repeat' split
  all_goals omega
theorem zN_eq (x : Int) : (if 4096 < (if 16 > x then 16 else x) then 4096 else (if 16 > x then 16 else x)) = ((zN x : Nat) : Int) := by
  unfold zN
  repeat' split
  all_goals omega
theorem sN_b (x : Int) : 1 ≤ sN x ∧ sN x ≤ 64 := by
  unfold sN
  repeat' split
  all_goals omega
theorem zN_b (x : Int) : 16 ≤ zN x ∧ zN x ≤ 4096 := by
  unfold zN
  repeat' split
  all_goals omega
theorem sz_b (x y : Int) : 16 ≤ sN x * zN y ∧ sN x * zN y ≤ 262144 := by
  have h1 := sN_b x
  have h2 := zN_b y
  have h3 : 1 * 16 ≤ sN x * zN y := Nat.mul_le_mul h1.1 h2.1
  have h4 : sN x * zN y ≤ 64 * 4096 := Nat.mul_le_mul h1.2 h2.2
  omega
theorem sz_w (x y : Int) : IntKind.wrap .i64 (((sN x : Nat) : Int) * ((zN y : Nat) : Int)) = ((sN x * zN y : Nat) : Int) := by
  have := sz_b x y
  rw [show ((sN x : Nat) : Int) * ((zN y : Nat) : Int) = ((sN x * zN y : Nat) : Int) by simp]
  exact wrap64N (by omega)
def by64 (xs : List Int) : List CV := xs.map (CV.int .i64)
theorem by64_length (bs : List Int) : (by64 bs).length = bs.length := by simp [by64]
theorem new_eq {k : Nat} (K : Nat × Int × Nat × List CV × List CV → Option X) (hk : 400000 < k) (x y : Int) : f8 k K x y = K (sN x * zN y, ((zN y : Nat) : Int), sN x, by8 (List.replicate (sN x * zN y) 255), by64 (List.replicate (sN x) 0)) := by
  have hb := sz_b x y
  have h1 := sN_b x
  unfold f8 f8_A f8_T
  simp only [sN_eq, zN_eq, sz_w]
  refine (repeat_eq _ hk (sN x * zN y) (by omega) (by omega)).trans ?_
  simp only [dec0, grd_true, Nat.zero_add, Int.toNat_natCast, decLe, Nat.le_refl, decide_true]
  refine (grdT (decide_eq_true (by omega))).trans ?_
  rw [take_all _ _ (by simp [by8_length]), take_all _ _ (by simp)]
  simp [by64]
end
end Go.Proofs.YtpdeankgekknaaaD
