/- Plain texts joined (by cut.py). -/
import Derived.Test.YtgkopcfbdcbjbaaD
import Derived.Test.YtgkopcfbdcbjbaaPM
namespace Go.Proofs.YtgkopcfbdcbjbaaD
open Go Go.Proofs.YtgkopcfbdcbjbaaS Go.Proofs
set_option linter.unusedVariables false
set_option linter.unusedSimpArgs false
section
variable {X : Type}
theorem clone_eq {k : Nat} (K : List CV → Option X) (x : List CV) (h : x.length < 70368744177664) : f31 k K x = K x := by
  unfold f31
  rw [grd_dec (by omega)]
end
section
variable {X : Type}
theorem same_eq {k : Nat} (K : Bool → Option X) (a b : List Int) (hk : a.length < k) (hl : a.length < 4611686018427387904) : f11 k K (by8 a) (by8 b) = K (decide (a = b)) := by
  unfold f11 f11_A f11_T
  by_cases h : a.length = b.length
  · have key := iterV_spec (T := f11_L1 k K) (fun i => (by8 a, by8 b, (i : Int))) (fun i => K (decide (a.drop i = b.drop i))) a.length (fun i rec hi hr => by
      have hb : i < b.length := by omega
      unfold f11_L1 f11_T1
      simp only [by8_length, by8_get, Int.toNat_natCast, List.getElem?_eq_getElem hi, List.getElem?_eq_getElem hb, Option.map_some, Option.bind_some, isI_int, toI_int, grd_true, dec0, decLt, hi, decide_true, cond_true, wrap64_succ (show i < 4611686018427387904 by omega), hr]
      conv => rhs; rw [List.drop_eq_getElem_cons hi, List.drop_eq_getElem_cons hb]
      by_cases e : a[i] = b[i]
      · rw [show (a[i] != b[i]) = false by simp [e]]
        simp only [cond_false, List.cons.injEq, e, true_and]
      · rw [show (a[i] != b[i]) = true by simp [e]]
        simp only [cond_true, List.cons.injEq, e, false_and, decide_false]) (fun rec => by
      unfold f11_L1 f11_T1
      simp only [by8_length, bif_dec]
      rw [if_neg (by omega)]
      simp [h]) k 0 (Nat.zero_le _) (by omega)
    simp only [by8_length, h] at key ⊢
    simpa using key
  · have : a ≠ b := fun e => h (by rw [e])
    have h' : ((a.length : Int) != (b.length : Int)) = true := by simp; omega
    simp only [by8_length, h', cond_true, this, decide_false]
end
section
variable {X : Type}
theorem and_low {n : Nat} (h : n < 4294967296) : bop .and .u64 (n : Int) 4294967295 = n := by
  have h2 : n &&& 4294967295 = n % 4294967296 := Nat.and_two_pow_sub_one_eq_mod n 32
  have h3 : (BitVec.ofInt 64 (n : Int) &&& BitVec.ofInt 64 4294967295).toNat = n := by
    have e1 : (BitVec.ofInt 64 (n : Int)).toNat = n % 2 ^ 64 := ofInt_toNat 64 n
    have e2 : (BitVec.ofInt 64 (4294967295 : Int)).toNat = 4294967295 := by decide
    rw [BitVec.toNat_and, e1, e2, Nat.mod_eq_of_lt (by omega), h2]
    omega
  unfold bop
  have h4 : (BitVec.ofInt (IntKind.bits .u64) (n : Int) &&& BitVec.ofInt (IntKind.bits .u64) 4294967295).toNat = n := h3
  simp only [h4]
  rw [wrapU64]
  omega
theorem mul_eq {k : Nat} (K : Int × Int → Option X) (n : Nat) (h : n < 4294967296) : f34 k K 1 (n : Int) = K (0, (n : Int)) := by
  show f41 k (fun u1 => K (u1.1, u1.2)) 1 (n : Int) = _
  unfold f41 f41_A f41_T
  have e1 : bop .and .u64 (1 : Int) 4294967295 = 1 := and_low (n := 1) (by decide)
  have e2 := and_low h
  have e3 : Int.fdiv (1 : Int) (2 ^ 32) = 0 := by decide
  have e4 : Int.fdiv (n : Int) (2 ^ 32) = 0 := by rw [fdiv_eq _ (by decide)]; omega
  have w0 : IntKind.wrap .u64 (0 : Int) = 0 := by decide
  have wn : IntKind.wrap .u64 (n : Int) = n := by rw [wrapU64]; omega
  have a0 : bop .and .u64 (0 : Int) 4294967295 = 0 := and_low (n := 0) (by decide)
  have f0 : Int.fdiv (0 : Int) (2 ^ 32) = 0 := by decide
  simp only [e1, e2, e3, e4, Int.zero_mul, Int.one_mul, Int.mul_zero, w0, wn, Int.zero_add, Int.add_zero, a0, f0]
/-- Bytes that are there already, and such as nobody knows. -/
def rowR (n b : Nat) : List CV := by8 (List.replicate b 255) ++ List.replicate (n - b) .any
theorem rowR_len {n b : Nat} (h : b ≤ n) : (rowR n b).length = n := by simp [rowR, by8_length]; omega
theorem rowR_take {n b c : Nat} (h : c ≤ b) : (rowR n b).take c = by8 (List.replicate c 255) := by
  unfold rowR
  rw [List.take_append_of_le_length (by simp [by8_length]; exact h), ← by8_take, List.take_replicate, Nat.min_eq_left h]
theorem rowR_drop {n b c : Nat} (h : b ≤ c) (hc : c ≤ n) : (rowR n b).drop c = List.replicate (n - c) .any := by
  unfold rowR
  rw [List.drop_append, List.drop_eq_nil_of_le (by simp [by8_length]; exact h), List.nil_append, List.drop_replicate]
  congr 1
  simp [by8_length]; omega
theorem rowR_put {n b m : Nat} (h : b + m ≤ n) : (rowR n b).take b ++ by8 (List.replicate m 255) ++ (rowR n b).drop (b + m) = rowR n (b + m) := by
  rw [rowR_take (Nat.le_refl _), rowR_drop (by omega) h, ← by8_append, List.replicate_append_replicate]
  rfl
theorem repeat_loop {k0 : Nat} (K : Nat × List CV → Option X) (n c : Nat) (hc : 0 < c) (hn : n ≤ 300000) (hcn : c ≤ 300000) : ∀ (k b : Nat), n - b < k → 0 < b → b ≤ n →
    iterV (f24_L1 (fun X => @f34 X k0) (fun X => @f35 X k0) k0 K) k ((n : Int), (c : Int), n, (b : Int), rowR n b) = K (n, by8 (List.replicate n 255))
  | 0, b, h, _, _ => by omega
  | k + 1, b, h, hb, hbn => by
    have ih := fun b' h1 h2 h3 => repeat_loop (k0 := k0) K n c hc hn hcn k b' h1 h2 h3
    show f24_L1 _ _ k0 K (iterV (f24_L1 (fun X => @f34 X k0) (fun X => @f35 X k0) k0 K) k) _ = _
    generalize iterV (f24_L1 (fun X => @f34 X k0) (fun X => @f35 X k0) k0 K) k = rc at ih ⊢
    unfold f24_L1 f24_T1
    by_cases hlt : b < n
    · have ec : (if (c : Int) < (b : Int) then (c : Int) else (b : Int)) = ((min b c : Nat) : Int) := by split <;> omega
      have hm1 : min b c ≤ b := Nat.min_le_left _ _
      have hm0 : 0 < min b c := by omega
      simp only [ec, decLt, hlt, decide_true, cond_true, dec0, grd_true, decLe, Int.toNat_natCast, Nat.zero_add, Nat.sub_zero, List.drop_zero, rowR_take hm1, by8_length, List.length_replicate, rowR_len hbn]
      refine (grdT (decide_eq_true (by omega))).trans ?_
      refine (grdT (decide_eq_true (by omega))).trans ?_
      refine (grdT (decide_eq_true (by omega))).trans ?_
      refine (grdT (decide_eq_true (by omega))).trans ?_
      have hm : min (min b c) (n - b) ≤ n - b := Nat.min_le_right _ _
      have hmp : 0 < min (min b c) (n - b) := by omega
      rw [← ih (b + min (min b c) (n - b)) (by omega) (by omega) (by omega)]
      have e1 : List.take (min (min b c) (n - b)) (by8 (List.replicate (min b c) 255)) = by8 (List.replicate (min (min b c) (n - b)) 255) := by
        rw [← by8_take, List.take_replicate]
        congr 2; omega
      refine congrArg rc (Prod.ext rfl (Prod.ext rfl (Prod.ext rfl (Prod.ext ?_ ?_))))
      · show IntKind.wrap .i64 ((b : Int) + ((min (min b c) (n - b) : Nat) : Int)) = ((b + min (min b c) (n - b) : Nat) : Int)
        rw [wrap64 (by omega) (by omega)]; simp
      · show (rowR n b).take b ++ List.take (min (min b c) (n - b)) (by8 (List.replicate (min b c) 255)) ++ (rowR n b).drop (b + min (min b c) (n - b)) = _
        rw [e1, rowR_put (by omega)]
    · have hbe : b = n := by omega
      subst hbe
      simp only [decLt, Nat.lt_irrefl, decide_false, cond_false, Nat.zero_add]
      rw [rowR_take (Nat.le_refl _)]
theorem repeat_eq {k : Nat} (K : Nat × List CV → Option X) (hk : 400000 < k) (n : Nat) (h0 : 0 < n) (hn : n ≤ 300000) : f24 k K (by8 [255]) (n : Int) = K (n, by8 (List.replicate n 255)) := by
  unfold f24 f24_A f24_T
  have w1 : IntKind.wrap .u64 (((by8 [255]).length : Nat) : Int) = 1 := by decide
  have wn : IntKind.wrap .u64 (n : Int) = n := by rw [wrapU64]; omega
  have wi : IntKind.wrap .i64 (n : Int) = n := wrap64N (by omega)
  rw [w1, wn]
  refine (bifF (beq_f (by omega))).trans ?_
  refine (bifF (decide_eq_false (by omega))).trans ?_
  refine (mul_eq _ n (by omega)).trans ?_
  refine (bifF (decide_eq_false (by simp))).trans ?_
  refine (bifF (decide_eq_false (by simp only []; omega))).trans ?_
  refine (bifF (beq_f (by decide))).trans ?_
  have J : ∀ c : Nat, 0 < c → c ≤ 300000 → f24_J1 (fun X => @f34 X k) (fun X => @f35 X k) k K (iterV (f24_L1 (fun X => @f34 X k) (fun X => @f35 X k) k K) k) (0, (n : Int)) (by8 [255]) (c : Int) = K (n, by8 (List.replicate n 255)) := fun c hc hc2 => by
    unfold f24_J1 f35
    simp only [wi, dec0, grd_true, Int.toNat_natCast, List.length_replicate, Nat.sub_zero, Nat.zero_add, decLe, Nat.le_refl, decide_true, Int.sub_zero, cond_true]
    refine (grdT (decide_eq_true (by omega))).trans ?_
    refine Eq.trans ?_ (repeat_loop (k0 := k) K n c hc hn hc2 k 1 (by omega) (by omega) (by omega))
    have e1 : min (by8 [255]).length n = 1 := by show min 1 n = 1; omega
    rw [e1]
    refine congrArg _ (Prod.ext rfl (Prod.ext rfl (Prod.ext rfl (Prod.ext rfl ?_))))
    show List.take 0 (List.replicate n CV.any) ++ List.take 1 (by8 [255]) ++ List.drop 1 (List.replicate n CV.any) = rowR n 1
    rw [List.drop_replicate]
    rfl
  simp only [wi]
  by_cases h8 : (n : Int) > 8192
  · rw [decide_eq_true h8]
    have e2 : IntKind.wrap .i64 (IntKind.wrap .i64 (Int.tdiv 8192 (((by8 [255]).length : Nat) : Int)) * (((by8 [255]).length : Nat) : Int)) = ((8192 : Nat) : Int) := by decide
    simp only [cond_true, e2]
    rw [show (((8192 : Nat) : Int) == 0) = false by decide]
    simp only [cond_false]
    exact J 8192 (by decide) (by decide)
  · rw [decide_eq_false h8]
    simp only [cond_false]
    exact J n h0 hn
/-- How many sectors there are, and of how many bytes. -/
def sN (x : Int) : Nat := if x < 1 then 1 else if 64 < x then 64 else x.toNat
def zN (x : Int) : Nat := if x < 16 then 16 else if 4096 < x then 4096 else x.toNat
theorem sN_eq (x : Int) : (if 64 < (if 1 > x then 1 else x) then 64 else (if 1 > x then 1 else x)) = ((sN x : Nat) : Int) := by
  unfold sN
  repeat' split
  all_goals omega
theorem zN_eq (x : Int) : (if 4096 < (if 16 > x then 16 else x) then 4096 else (if 16 > x then 16 else x)) = ((zN x : Nat) : Int) := by
  unfold zN
  repeat' split
  all_goals omega
theorem sN_b (x : Int) : 1 ≤ sN x ∧ sN x ≤ 64 := by
  unfold sN
  repeat' split
  all_goals omega
theorem zN_b (x : Int) : 16 ≤ zN x ∧ zN x ≤ 4096 := by
  unfold zN
  repeat' split
  all_goals omega
theorem sz_b (x y : Int) : 16 ≤ sN x * zN y ∧ sN x * zN y ≤ 262144 := by
  have h1 := sN_b x
  have h2 := zN_b y
  have h3 : 1 * 16 ≤ sN x * zN y := Nat.mul_le_mul h1.1 h2.1
  have h4 : sN x * zN y ≤ 64 * 4096 := Nat.mul_le_mul h1.2 h2.2
  omega
theorem sz_w (x y : Int) : IntKind.wrap .i64 (((sN x : Nat) : Int) * ((zN y : Nat) : Int)) = ((sN x * zN y : Nat) : Int) := by
  have := sz_b x y
  rw [show ((sN x : Nat) : Int) * ((zN y : Nat) : Int) = ((sN x * zN y : Nat) : Int) by simp]
  exact wrap64N (by omega)
def by64 (xs : List Int) : List CV := xs.map (CV.int .i64)
theorem by64_length (bs : List Int) : (by64 bs).length = bs.length := by simp [by64]
theorem new_eq {k : Nat} (K : Nat × Int × Nat × List CV × List CV → Option X) (hk : 400000 < k) (x y : Int) : f6 k K x y = K (sN x * zN y, ((zN y : Nat) : Int), sN x, by8 (List.replicate (sN x * zN y) 255), by64 (List.replicate (sN x) 0)) := by
  have hb := sz_b x y
  have h1 := sN_b x
  unfold f6 f6_A f6_T
  simp only [sN_eq, zN_eq, sz_w]
  refine (repeat_eq _ hk (sN x * zN y) (by omega) (by omega)).trans ?_
  simp only [dec0, grd_true, Nat.zero_add, Int.toNat_natCast, decLe, Nat.le_refl, decide_true]
  refine (grdT (decide_eq_true (by omega))).trans ?_
  rw [take_all _ _ (by simp [by8_length]), take_all _ _ (by simp)]
  simp [by64]
end
section
variable {X : Type}
/-- A flash, as the methods hand it on. -/
def fl (B : List Int) (sec : Int) (W : List Int) (t : Nat) (l : Int) (d : Bool) : Nat × Int × Nat × Int × Int × Bool × List CV × List CV := (B.length, sec, W.length, (t : Int), l, d, by8 B, by64 W)
theorem t8 (B : List Int) : List.take (0 + B.length) (by8 B) = by8 B := take_all _ _ (by simp [by8_length])
theorem t64 (B : List Int) : List.take (0 + B.length) (by64 B) = by64 B := take_all _ _ (by simp [by64_length])
def wiB (L : Nat) (at_ n : Int) : Bool := decide (0 ≤ at_ ∧ 0 ≤ n ∧ at_ ≤ L ∧ n ≤ L - at_)
theorem within_eq {k : Nat} (K : Bool × Nat × Int × Nat × Int × Int × Bool × List CV × List CV → Option X) (at_ n sec l : Int) (B W : List Int) (t : Nat) (d : Bool) (hB : B.length ≤ 300000) :
    f32 k K at_ n B.length sec W.length t l d (by8 B) (by64 W) = K (wiB B.length at_ n, fl B sec W t l d) := by
  unfold f32 f32_A f32_T
  simp only [t8, t64]
  by_cases h1 : at_ ≥ 0
  · rw [decide_eq_true h1]
    simp only [cond_true]
    by_cases h2 : n ≥ 0
    · rw [decide_eq_true h2]
      simp only [cond_true]
      by_cases h3 : at_ ≤ (B.length : Int)
      · rw [decide_eq_true h3]
        simp only [cond_true]
        rw [wrap64 (by omega) (by omega)]
        refine congrArg K (Prod.ext ?_ rfl)
        exact decide_eq_decide.2 ⟨fun h => ⟨h1, h2, h3, h⟩, fun h => h.2.2.2⟩
      · rw [decide_eq_false h3]
        refine congrArg K (Prod.ext ?_ rfl)
        exact (decide_eq_false fun h => h3 h.2.2.1).symm
    · rw [decide_eq_false h2]
      refine congrArg K (Prod.ext ?_ rfl)
      exact (decide_eq_false fun h => h2 h.2.1).symm
  · rw [decide_eq_false h1]
    refine congrArg K (Prod.ext ?_ rfl)
    exact (decide_eq_false fun h => h1 h.1).symm
/-- What is read. -/
def rdE (B : List Int) (d : Bool) (at_ n : Int) : Int := if d = true then 30 else if wiB B.length at_ n = true then 0 else 1
def rdV (B : List Int) (d : Bool) (at_ n : Int) : List Int := if rdE B d at_ n = 0 then (B.drop at_.toNat).take n.toNat else []
theorem read_eq {k : Nat} (K : Nat × Int × Nat × Int × Nat × Int × Int × Bool × List CV × List CV × List CV → Option X) (at_ n sec l : Int) (B W : List Int) (t : Nat) (d : Bool) (hB : B.length ≤ 300000) :
    f20 k K at_ n B.length sec W.length t l d (by8 B) (by64 W) = K ((rdV B d at_ n).length, rdE B d at_ n, B.length, sec, W.length, (t : Int), l, d, by8 B, by64 W, by8 (rdV B d at_ n)) := by
  unfold f20 f20_A f20_T
  simp only [t8, t64]
  cases d with
  | true => rfl
  | false =>
    simp only [cond_false]
    rw [within_eq _ _ _ _ _ _ _ _ _ hB]
    cases h : wiB B.length at_ n with
    | false =>
      have e : rdE B false at_ n = 1 := by simp [rdE, h]
      simp only [fl, Bool.not_false, cond_true, t8, t64, rdV, e]
      rfl
    | true =>
      have e : rdE B false at_ n = 0 := by simp [rdE, h]
      obtain ⟨h1, h2, h3, h4⟩ := of_decide_eq_true h
      simp only [fl, Bool.not_true, cond_false, t8, t64, rdV, e, if_true, by8_length]
      rw [wrap64 (by omega) (by omega)]
      refine (grdT (decide_eq_true (by omega))).trans ?_
      refine (grdT (decide_eq_true (by omega))).trans ?_
      refine (grdT (decide_eq_true (by omega))).trans ?_
      have e3 : List.take ((at_ + n).toNat - at_.toNat) (List.drop (0 + at_.toNat) (by8 B)) = by8 ((B.drop at_.toNat).take n.toNat) := by
        rw [by8_take, by8_drop, Nat.zero_add]
        congr 1; omega
      rw [e3]
      have hy : ((B.drop at_.toNat).take n.toNat).length ≤ 300000 := by rw [List.length_take, List.length_drop]; omega
      generalize (B.drop at_.toNat).take n.toNat = ys at hy ⊢
      refine (clone_eq _ _ (by rw [by8_length]; omega)).trans ?_
      simp only [by8_length, t8]
theorem size_eq {k : Nat} (K : Int × Nat × Int × Nat × Int × Int × Bool × List CV × List CV → Option X) (sec l : Int) (B W : List Int) (t : Nat) (d : Bool) : f25 k K B.length sec W.length t l d (by8 B) (by64 W) = K ((B.length : Int), fl B sec W t l d) := by
  unfold f25 f25_A f25_T
  simp only [t8, t64]; rfl
theorem sector_eq {k : Nat} (K : Int × Nat × Int × Nat × Int × Int × Bool × List CV × List CV → Option X) (sec l : Int) (B W : List Int) (t : Nat) (d : Bool) : f19 k K B.length sec W.length t l d (by8 B) (by64 W) = K (sec, fl B sec W t l d) := by
  unfold f19 f19_A f19_T
  simp only [t8, t64]; rfl
theorem down_eq {k : Nat} (K : Bool × Nat × Int × Nat × Int × Int × Bool × List CV × List CV → Option X) (sec l : Int) (B W : List Int) (t : Nat) (d : Bool) : f36 k K B.length sec W.length t l d (by8 B) (by64 W) = K (d, fl B sec W t l d) := by
  unfold f36 f36_A f36_T
  simp only [t8, t64]; rfl
theorem image_eq {k : Nat} (K : Nat × Nat × Int × Nat × Int × Int × Bool × List CV × List CV × List CV → Option X) (sec l : Int) (B W : List Int) (t : Nat) (d : Bool) (hB : B.length ≤ 300000) : f16 k K B.length sec W.length t l d (by8 B) (by64 W) = K (B.length, B.length, sec, W.length, (t : Int), l, d, by8 B, by64 W, by8 B) := by
  unfold f16 f16_A f16_T
  simp only [List.drop_zero]
  rw [take_all (by8 B) B.length (by simp [by8_length])]
  refine (clone_eq _ _ (by rw [by8_length]; omega)).trans ?_
  simp only [t8, t64, by8_length]
/-- Bytes are laid over others. -/
def over (B : List Int) (a : Nat) (xs : List Int) : List Int := B.take a ++ xs ++ B.drop (a + xs.length)
theorem over_len {B : List Int} {a : Nat} {xs : List Int} (h : a + xs.length ≤ B.length) : (over B a xs).length = B.length := by simp [over]; omega
theorem over_set {B : List Int} {a : Nat} {xs : List Int} {x : Int} (h : a + xs.length < B.length) : (over B a xs).set (a + xs.length) x = over B a (xs ++ [x]) := by
  unfold over
  have hl : (B.take a ++ xs).length = a + xs.length := by simp; omega
  rw [List.set_append_right _ _ (by rw [hl]; exact Nat.le_refl _), hl, Nat.sub_self, List.drop_eq_getElem_cons h, List.set_cons_zero]
  simp [List.append_assoc, Nat.add_assoc]
def tmin (t j : Nat) : Nat := min (t + j) 1073741824
theorem min_one (t i m : Nat) : min (min (t + i) m + 1) m = min (t + (i + 1)) m := by omega
theorem tmin_one (t i : Nat) : tmin (tmin t i) 1 = tmin t (i + 1) := min_one t i 1073741824
/-- How many bytes are turned, of so many that are asked. -/
def goes (l : Int) (n : Nat) : Nat := if l < 0 then n else min n l.toNat
def leftL (l : Int) (n : Nat) : Int := if l < 0 then l else l - (goes l n : Nat)
theorem turn_eq {k : Nat} (K : Bool × Nat × Int × Nat × Int × Int × Bool × List CV × List CV → Option X) (a : Nat) (x sec l : Int) (B W : List Int) (t : Nat) (d : Bool) (ha : a < B.length) (ht : t ≤ 1073741824) (hl : l < 9223372036854775808) :
    f39 k K (a : Int) x B.length sec W.length t l d (by8 B) (by64 W) = if l = 0 then K (false, fl B sec W t l true) else K (true, fl (B.set a x) sec W (tmin t 1) (if l < 0 then l else l - 1) d) := by
  unfold f39 f39_A f39_T
  simp only [t8, t64]
  have J : ∀ l' : Int, f39_J1 k K (a : Int) (x, B.length, sec, W.length, (t : Int), l', d, by8 B, by64 W) = K (true, fl (B.set a x) sec W (tmin t 1) l' d) := fun l' => by
    unfold f39_J1
    simp only [dec0, grd_true, Int.toNat_natCast, Nat.zero_add, by8_length, by8_set]
    refine (grdT (decide_eq_true (by omega))).trans ?_
    refine (grdT (decide_eq_true (by omega))).trans ?_
    have e1 : (if 1073741824 < IntKind.wrap .i64 ((t : Int) + 1) then 1073741824 else IntKind.wrap .i64 ((t : Int) + 1)) = ((tmin t 1 : Nat) : Int) := by
      rw [wrap64 (by omega) (by omega)]
      unfold tmin
      split <;> omega
    rw [e1, take_all (by8 (B.set a x)) _ (by simp [by8_length]), take_all (by64 W) _ (by simp [by64_length])]
    simp only [fl, List.length_set]
  by_cases h0 : l = 0
  · rw [if_pos h0, h0]; rfl
  · rw [if_neg h0]
    refine (bifF (beq_f h0)).trans ?_
    by_cases hp : l > 0
    · rw [decide_eq_true hp]
      simp only [cond_true]
      rw [wrap64 (by omega) (by omega), J, if_neg (by omega)]
    · rw [decide_eq_false hp]
      simp only [cond_false]
      rw [J, if_pos (by omega)]
/-- What an erase, or a program, leaves: as far as the power goes. -/
def endR (B : List Int) (a : Nat) (ys : List Int) (sec : Int) (W : List Int) (t : Nat) (l : Int) : Int × Nat × Int × Nat × Int × Int × Bool × List CV × List CV :=
  if goes l ys.length < ys.length then (30, fl (over B a (ys.take (goes l ys.length))) sec W (tmin t (goes l ys.length)) 0 true) else (0, fl (over B a ys) sec W (tmin t ys.length) (leftL l ys.length) false)
theorem erase_loop {k0 : Nat} (K : Int × Nat × Int × Nat × Int × Int × Bool × List CV × List CV → Option X) (B W : List Int) (s z : Nat) (hz : s * z + z ≤ B.length) (hB : B.length ≤ 300000) (t : Nat) (ht : t ≤ 1073741824) (l : Int) (hl : l < 9223372036854775808) :
    ∀ (k i : Nat), z - i < k → i ≤ z → i ≤ goes l z → iterV (f29_L1 (fun X => @f39 X k0) k0 K) k ((s : Int), (z : Int), (i : Int), (over B (s * z) (List.replicate i 255)).length, (z : Int), W.length, ((tmin t i : Nat) : Int), (if l < 0 then l else l - i), false, by8 (over B (s * z) (List.replicate i 255)), by64 W) = K (endR B (s * z) (List.replicate z 255) z W t l)
  | 0, i, h, _, _ => by omega
  | k + 1, i, h, hi, hg => by
    have ih := fun i h1 h2 h3 => erase_loop (k0 := k0) K B W s z hz hB t ht l hl k i h1 h2 h3
    show f29_L1 _ k0 K (iterV (f29_L1 (fun X => @f39 X k0) k0 K) k) _ = _
    generalize iterV (f29_L1 (fun X => @f39 X k0) k0 K) k = rc at ih ⊢
    unfold f29_L1 f29_T1
    have hol : (over B (s * z) (List.replicate i 255)).length = B.length := over_len (by simp; omega)
    have htm : tmin t i ≤ 1073741824 := Nat.min_le_right _ _
    by_cases hlt : i < z
    · simp only [decLt, decide_eq_true hlt, cond_true]
      have hm : s * z ≤ 300000 := by omega
      have e1 : IntKind.wrap .i64 (IntKind.wrap .i64 ((s : Int) * (z : Int)) + (i : Int)) = ((s * z + i : Nat) : Int) := by
        have e : (s : Int) * (z : Int) = ((s * z : Nat) : Int) := by simp
        rw [e, wrap64N (by omega), wrap64 (by omega) (by omega)]; simp
      rw [e1]
      refine (turn_eq _ (s * z + i) 255 _ _ _ W (tmin t i) false (by omega) htm (by split <;> omega)).trans ?_
      by_cases h0 : (if l < 0 then l else l - (i : Int)) = 0
      · rw [if_pos h0]
        have hl0 : ¬ l < 0 := fun e => by rw [if_pos e] at h0; omega
        rw [if_neg hl0] at h0
        have hgo : goes l z = i := by unfold goes; rw [if_neg hl0]; omega
        simp only [fl, Bool.not_false, cond_true, t8, t64]
        unfold endR
        rw [List.length_replicate, hgo, if_pos hlt, List.take_replicate, Nat.min_eq_left hi, if_neg hl0, h0]
        rfl
      · rw [if_neg h0]
        simp only [fl, Bool.not_true, cond_false]
        have hset : (over B (s * z) (List.replicate i 255)).set (s * z + i) 255 = over B (s * z) (List.replicate (i + 1) 255) := by
          have := over_set (B := B) (a := s * z) (xs := List.replicate i 255) (x := 255) (by simp; omega)
          rw [List.length_replicate] at this
          rw [this, List.replicate_succ' ]
        rw [hset]
        have hg2 : i + 1 ≤ goes l z := by
          unfold goes at hg ⊢
          by_cases hl0 : l < 0
          · rw [if_pos hl0]; omega
          · rw [if_neg hl0] at h0 hg ⊢; omega
        rw [← ih (i + 1) (by omega) (by omega) hg2]
        refine congrArg rc (Prod.ext rfl (Prod.ext rfl (Prod.ext ?_ (Prod.ext rfl (Prod.ext rfl (Prod.ext rfl (Prod.ext ?_ (Prod.ext ?_ rfl))))))))
        · exact wrap64_s (by omega)
        · exact congrArg (fun n : Nat => (n : Int)) (tmin_one t i)
        · show (if (if l < 0 then l else l - (i : Int)) < 0 then (if l < 0 then l else l - (i : Int)) else (if l < 0 then l else l - (i : Int)) - 1) = if l < 0 then l else l - ((i + 1 : Nat) : Int)
          by_cases hl0 : l < 0
          · simp only [if_pos hl0]
          · simp only [if_neg hl0] at h0 ⊢
            have : (i : Int) ≤ l := by unfold goes at hg2; rw [if_neg hl0] at hg2; omega
            rw [if_neg (by omega)]; omega
    · have hie : i = z := by omega
      subst hie
      simp only [decLt, Nat.lt_irrefl, decide_false, cond_false, t8, t64]
      have hgo : goes l i = i := by
        have : goes l i ≤ i := by unfold goes; split <;> omega
        omega
      unfold endR
      rw [List.length_replicate, hgo, if_neg (Nat.lt_irrefl _)]
      refine congrArg K (Prod.ext rfl (Prod.ext rfl (Prod.ext rfl (Prod.ext rfl (Prod.ext rfl (Prod.ext ?_ rfl))))))
      show (if l < 0 then l else l - (i : Int)) = leftL l i
      unfold leftL
      rw [hgo]
def wmin (x : Int) : Int := if 1073741824 < IntKind.wrap .i64 (x + 1) then 1073741824 else IntKind.wrap .i64 (x + 1)
theorem erase_eq {k : Nat} (K : Int × Nat × Int × Nat × Int × Int × Bool × List CV × List CV → Option X) (hk : 300000 < k) (s l : Int) (B W : List Int) (z t : Nat) (hz : W.length * z = B.length) (hB : B.length ≤ 262144) (hzz : z ≤ 4096) (ht : t ≤ 1073741824) (hl : l < 9223372036854775808) :
    f29 k K s B.length z W.length t l false (by8 B) (by64 W) = if s < 0 ∨ s ≥ W.length then K (1, fl B z W t l false) else K (endR B (s.toNat * z) (List.replicate z 255) z (W.set s.toNat (wmin (W.getD s.toNat 0))) t l) := by
  unfold f29 f29_A f29_T
  simp only [t8, t64, cond_false, bif_dec]
  by_cases h1 : s < 0
  · rw [if_pos h1, if_pos (Or.inl h1)]; rfl
  rw [if_neg h1]
  by_cases h2 : s ≥ (W.length : Int)
  · rw [if_pos h2, if_pos (Or.inr h2)]; rfl
  rw [if_neg h2, if_neg (fun e => e.elim h1 h2)]
  obtain ⟨s, rfl⟩ : ∃ n : Nat, s = n := ⟨s.toNat, by omega⟩
  have hs : s < W.length := by omega
  have hg : (by64 W)[s]? = some (.int .i64 W[s]) := by simp [by64, List.getElem?_eq_getElem hs]
  have hset : ∀ x, (by64 W).set s (CV.int .i64 x) = by64 (W.set s x) := fun x => by simp [by64, List.map_set]
  simp only [dec0, grd_true, Int.toNat_natCast, Nat.zero_add, decLt, hs, decide_true, hg, Option.bind_some, isI_int, toI_int, by64_length, hset]
  have hD : W.getD s 0 = W[s] := by simp [List.getD, List.getElem?_eq_getElem hs]
  rw [hD]
  have hmul : s * z + z ≤ B.length := by
    have : (s + 1) * z ≤ W.length * z := Nat.mul_le_mul_right _ hs
    rw [Nat.succ_mul] at this
    omega
  have := erase_loop (k0 := k) K B (W.set s (wmin W[s])) s z hmul (by omega) t ht l hl k 0 (by omega) (by omega) (Nat.zero_le _)
  refine Eq.trans ?_ this
  refine congrArg _ (Prod.ext rfl (Prod.ext rfl (Prod.ext rfl (Prod.ext ?_ (Prod.ext rfl (Prod.ext ?_ (Prod.ext ?_ (Prod.ext ?_ (Prod.ext rfl (Prod.ext ?_ rfl))))))))))
  · show B.length = (over B (s * z) (List.replicate 0 255)).length
    rw [over_len (by simp; omega)]
  · show W.length = (W.set s (wmin W[s])).length
    simp
  · show (t : Int) = ((tmin t 0 : Nat) : Int)
    unfold tmin; omega
  · show l = if l < 0 then l else l - ((0 : Nat) : Int)
    split <;> omega
  · show by8 B = by8 (over B (s * z) (List.replicate 0 255))
    simp [over]
end
section
variable {X : Type}
end
section
variable {X : Type}
/-- Would no bit have to be set? -/
def clB (B : List Int) (a : Nat) (xs : List Int) : Bool := (xs.zip (B.drop a)).all fun p => bop .andNot .u8 p.1 p.2 == 0
theorem clears_eq {k : Nat} (K : Bool × Nat × Int × Nat × Int × Int × Bool × List CV × List CV → Option X) (a : Nat) (xs : List Int) (sec l : Int) (B W : List Int) (t : Nat) (d : Bool) (hB : B.length ≤ 300000) (ha : a + xs.length ≤ B.length) (hk : 300000 < k) :
    f38 k K (a : Int) (by8 xs) B.length sec W.length t l d (by8 B) (by64 W) = K (clB B a xs, fl B sec W t l d) := by
  unfold f38 f38_A f38_T
  have key := iterV_spec (T := f38_L1 k K) (fun i => ((a : Int), by8 xs, (xs.length : Int), (i : Int), B.length, sec, W.length, (t : Int), l, d, by8 B, by64 W)) (fun i => K (clB B (a + i) (xs.drop i), fl B sec W t l d)) xs.length (fun i rec hi hr => by
    unfold f38_L1 f38_T1
    have hb : a + i < B.length := by omega
    have e1 : IntKind.wrap .i64 ((a : Int) + (i : Int)) = ((a + i : Nat) : Int) := by rw [wrap64 (by omega) (by omega)]; simp
    simp only [decLt, decide_eq_true hi, cond_true, dec0, grd_true, Int.toNat_natCast, e1, by8_get, List.getElem?_eq_getElem hi, List.getElem?_eq_getElem hb, Nat.zero_add, Option.map_some, Option.bind_some, isI_int, toI_int, hb, decide_true]
    have e2 : clB B (a + i) (xs.drop i) = ((bop .andNot .u8 xs[i] B[a + i] == 0) && clB B (a + (i + 1)) (xs.drop (i + 1))) := by
      unfold clB
      rw [List.drop_eq_getElem_cons hi, List.drop_eq_getElem_cons hb, List.zip_cons_cons, List.all_cons]
      rfl
    rw [e2]
    cases h : bop .andNot .u8 xs[i] B[a + i] == 0 with
    | true =>
      rw [show (bop .andNot .u8 xs[i] B[a + i] != 0) = false by unfold bne; rw [h]; rfl]
      simp only [cond_false, Bool.true_and]
      rw [← hr]
      refine congrArg rec (Prod.ext rfl (Prod.ext rfl (Prod.ext rfl (Prod.ext ?_ rfl))))
      exact wrap64_s (by omega)
    | false =>
      rw [show (bop .andNot .u8 xs[i] B[a + i] != 0) = true by unfold bne; rw [h]; rfl]
      simp only [cond_true, Bool.false_and, take_all (by8 B) B.length (by simp [by8_length]), take_all (by64 W) W.length (by simp [by64_length])]
      rfl) (fun rec => by
    unfold f38_L1 f38_T1
    simp only [decLt, Nat.lt_irrefl, decide_false, cond_false, t8, t64]
    refine congrArg K (Prod.ext ?_ rfl)
    unfold clB
    rw [List.drop_eq_nil_of_le (Nat.le_refl _)]
    rfl) k 0 (Nat.zero_le _) (by omega)
  refine Eq.trans ?_ key
  refine congrArg _ (Prod.ext rfl (Prod.ext rfl (Prod.ext ?_ rfl)))
  show ((by8 xs).length : Int) = _
  rw [by8_length]
theorem prog_loop {k0 : Nat} (K : Int × Nat × Int × Nat × Int × Int × Bool × List CV × List CV → Option X) (B W : List Int) (a : Nat) (xs : List Int) (sec : Int) (hz : a + xs.length ≤ B.length) (hB : B.length ≤ 300000) (t : Nat) (ht : t ≤ 1073741824) (l : Int) (hl : l < 9223372036854775808) :
    ∀ (k i : Nat), xs.length - i < k → i ≤ xs.length → i ≤ goes l xs.length → iterV (f27_L1 (fun X => @f32 X k0) (fun X => @f38 X k0) (fun X => @f39 X k0) k0 K) k ((a : Int), by8 xs, (xs.length : Int), (i : Int), (over B a (xs.take i)).length, sec, W.length, ((tmin t i : Nat) : Int), (if l < 0 then l else l - i), false, by8 (over B a (xs.take i)), by64 W) = K (endR B a xs sec W t l)
  | 0, i, h, _, _ => by omega
  | k + 1, i, h, hi, hg => by
    have ih := fun i h1 h2 h3 => prog_loop (k0 := k0) K B W a xs sec hz hB t ht l hl k i h1 h2 h3
    show f27_L1 _ _ _ k0 K (iterV (f27_L1 (fun X => @f32 X k0) (fun X => @f38 X k0) (fun X => @f39 X k0) k0 K) k) _ = _
    generalize iterV (f27_L1 (fun X => @f32 X k0) (fun X => @f38 X k0) (fun X => @f39 X k0) k0 K) k = rc at ih ⊢
    unfold f27_L1 f27_T1
    have htl : (xs.take i).length = i := by rw [List.length_take]; omega
    have hol : (over B a (xs.take i)).length = B.length := over_len (by omega)
    have htm : tmin t i ≤ 1073741824 := Nat.min_le_right _ _
    by_cases hlt : i < xs.length
    · simp only [decLt, decide_eq_true hlt, cond_true, dec0, grd_true, Int.toNat_natCast, by8_get, List.getElem?_eq_getElem hlt, Option.map_some, Option.bind_some, isI_int, toI_int]
      have e1 : IntKind.wrap .i64 ((a : Int) + (i : Int)) = ((a + i : Nat) : Int) := by rw [wrap64 (by omega) (by omega)]; simp
      rw [e1]
      refine (turn_eq _ (a + i) xs[i] _ _ _ W (tmin t i) false (by omega) htm (by split <;> omega)).trans ?_
      by_cases h0 : (if l < 0 then l else l - (i : Int)) = 0
      · rw [if_pos h0]
        have hl0 : ¬ l < 0 := fun e => by rw [if_pos e] at h0; omega
        rw [if_neg hl0] at h0
        have hgo : goes l xs.length = i := by unfold goes; rw [if_neg hl0]; omega
        simp only [fl, Bool.not_false, cond_true, t8, t64]
        unfold endR
        rw [hgo, if_pos hlt, if_neg hl0, h0]
        rfl
      · rw [if_neg h0]
        simp only [fl, Bool.not_true, cond_false]
        have hset : (over B a (xs.take i)).set (a + i) xs[i] = over B a (xs.take (i + 1)) := by
          have := over_set (B := B) (a := a) (xs := xs.take i) (x := xs[i]) (by omega)
          rw [htl] at this
          rw [this, List.take_append_getElem hlt]
        rw [hset]
        have hg2 : i + 1 ≤ goes l xs.length := by
          unfold goes at hg ⊢
          by_cases hl0 : l < 0
          · rw [if_pos hl0]; omega
          · rw [if_neg hl0] at h0 hg ⊢; omega
        rw [← ih (i + 1) (by omega) (by omega) hg2]
        refine congrArg rc (Prod.ext rfl (Prod.ext rfl (Prod.ext rfl (Prod.ext ?_ (Prod.ext rfl (Prod.ext rfl (Prod.ext rfl (Prod.ext ?_ (Prod.ext ?_ rfl)))))))))
        · exact wrap64_s (by omega)
        · exact congrArg (fun n : Nat => (n : Int)) (tmin_one t i)
        · show (if (if l < 0 then l else l - (i : Int)) < 0 then (if l < 0 then l else l - (i : Int)) else (if l < 0 then l else l - (i : Int)) - 1) = if l < 0 then l else l - ((i + 1 : Nat) : Int)
          by_cases hl0 : l < 0
          · simp only [if_pos hl0]
          · simp only [if_neg hl0] at h0 ⊢
            have : (i : Int) ≤ l := by unfold goes at hg2; rw [if_neg hl0] at hg2; omega
            rw [if_neg (by omega)]; omega
    · have hie : i = xs.length := by omega
      subst hie
      simp only [decLt, Nat.lt_irrefl, decide_false, cond_false, t8, t64, List.take_length]
      have hgo : goes l xs.length = xs.length := by
        have : goes l xs.length ≤ xs.length := by unfold goes; split <;> omega
        omega
      unfold endR
      rw [hgo, if_neg (Nat.lt_irrefl _)]
      refine congrArg K (Prod.ext rfl (Prod.ext rfl (Prod.ext rfl (Prod.ext rfl (Prod.ext rfl (Prod.ext ?_ rfl))))))
      show (if l < 0 then l else l - (xs.length : Int)) = leftL l xs.length
      unfold leftL
      rw [hgo]
theorem prog_eq {k : Nat} (K : Int × Nat × Int × Nat × Int × Int × Bool × List CV × List CV → Option X) (hk : 300000 < k) (at_ : Int) (xs : List Int) (sec l : Int) (B W : List Int) (t : Nat) (d : Bool) (hB : B.length ≤ 262144) (ht : t ≤ 1073741824) (hl : l < 9223372036854775808) :
    f27 k K at_ (by8 xs) B.length sec W.length t l d (by8 B) (by64 W) = if d = true then K (30, fl B sec W t l d) else if wiB B.length at_ xs.length = false then K (1, fl B sec W t l d) else if clB B at_.toNat xs = false then K (31, fl B sec W t l d) else K (endR B at_.toNat xs sec W t l) := by
  unfold f27 f27_A f27_T
  simp only [t8, t64, by8_length]
  cases d with
  | true => rfl
  | false =>
    simp only [cond_false]
    rw [within_eq _ _ _ _ _ _ _ _ _ (by omega), if_neg (by decide)]
    cases h : wiB B.length at_ xs.length with
    | false =>
      rw [if_pos rfl]
      simp only [fl, Bool.not_false, cond_true, t8, t64]
    | true =>
      rw [if_neg (by decide)]
      simp only [fl, Bool.not_true, cond_false]
      obtain ⟨h1, h2, h3, h4⟩ := of_decide_eq_true h
      obtain ⟨a, rfl⟩ : ∃ n : Nat, at_ = n := ⟨at_.toNat, by omega⟩
      refine (clears_eq _ a xs sec l B W t false (by omega) (by omega) hk).trans ?_
      simp only [Int.toNat_natCast]
      cases hc : clB B a xs with
      | false =>
        rw [if_pos rfl]
        simp only [fl, Bool.not_false, cond_true, t8, t64]
      | true =>
        rw [if_neg (by decide)]
        simp only [fl, Bool.not_true, cond_false]
        have := prog_loop (k0 := k) K B W a xs sec (by omega) (by omega) t ht l hl k 0 (by omega) (by omega) (Nat.zero_le _)
        refine Eq.trans ?_ this
        refine congrArg _ (Prod.ext rfl (Prod.ext rfl (Prod.ext rfl (Prod.ext rfl (Prod.ext ?_ (Prod.ext rfl (Prod.ext rfl (Prod.ext ?_ (Prod.ext ?_ (Prod.ext rfl (Prod.ext ?_ rfl)))))))))))
        · show B.length = (over B a (xs.take 0)).length
          rw [over_len (by simp; omega)]
        · show (t : Int) = ((tmin t 0 : Nat) : Int)
          unfold tmin; omega
        · show l = if l < 0 then l else l - ((0 : Nat) : Int)
          split <;> omega
        · show by8 B = by8 (over B a (xs.take 0))
          simp [over]
theorem andNot_full (x : Int) : bop .andNot .u8 x 255 = 0 := by
  show IntKind.wrap .u8 (((BitVec.ofInt 8 x &&& ~~~ BitVec.ofInt 8 255).toNat : Nat) : Int) = 0
  have : ~~~ BitVec.ofInt 8 255 = 0#8 := by decide
  rw [this, BitVec.and_zero]; rfl
theorem andNot_self (x : Int) : bop .andNot .u8 x x = 0 := by
  show IntKind.wrap .u8 (((BitVec.ofInt 8 x &&& ~~~ BitVec.ofInt 8 x).toNat : Nat) : Int) = 0
  rw [BitVec.and_not_self]; rfl
theorem cl_full (xs : List Int) (n a : Nat) : clB (List.replicate n 255) a xs = true := by
  unfold clB
  rw [List.all_eq_true]
  intro p hp
  have h2 := (List.of_mem_zip hp).2
  rw [List.drop_replicate] at h2
  rw [(List.mem_replicate.1 h2).2, andNot_full]; rfl
theorem over_drop (B : List Int) (a : Nat) (xs : List Int) (h : a ≤ B.length) : (over B a xs).drop a = xs ++ B.drop (a + xs.length) := by
  unfold over
  rw [List.append_assoc, List.drop_append, List.drop_eq_nil_of_le (by simp; omega)]
  simp [Nat.min_eq_left h]
theorem cl_over (B : List Int) (a : Nat) (xs : List Int) (h : a ≤ B.length) : clB (over B a xs) a xs = true := by
  unfold clB
  rw [over_drop B a xs h, List.all_eq_true]
  intro p hp
  have : xs.zip (xs ++ B.drop (a + xs.length)) = xs.zip xs := by
    conv => lhs; rw [← List.append_nil xs]
    rw [List.zip_append (by simp)]
    simp
  rw [this] at hp
  have : p.1 = p.2 := by
    have h := List.mem_iff_getElem.1 hp
    obtain ⟨i, hi, rfl⟩ := h
    simp
  rw [this, andNot_self]; rfl
theorem over_over (B : List Int) (a : Nat) (xs : List Int) (h : a + xs.length ≤ B.length) : over (over B a xs) a xs = over B a xs := by
  have h1 : (over B a xs).take a = B.take a := by
    unfold over
    rw [List.append_assoc, List.take_append_of_le_length (by simp; omega), List.take_take, Nat.min_self]
  have h2 : (over B a xs).drop (a + xs.length) = B.drop (a + xs.length) := by
    rw [← List.drop_drop, over_drop B a xs (by omega), List.drop_append, List.drop_length, Nat.sub_self]; rfl
  show (over B a xs).take a ++ xs ++ (over B a xs).drop (a + xs.length) = _
  rw [h1, h2]; rfl
theorem take_drop0 (a : List Int) : List.take a.length (List.drop 0 (by8 a)) = by8 a := by
  rw [List.drop_zero, take_all _ _ (by rw [by8_length]; exact Nat.le_refl _)]
end
section
variable {X : Type}
theorem cut_eq {k : Nat} (K : Nat × Int × Nat × Int × Int × Bool × List CV × List CV → Option X) (n sec l : Int) (B W : List Int) (t : Nat) (d : Bool) : f17 k K n B.length sec W.length t l d (by8 B) (by64 W) = K (fl B sec W t (if (-1) > n then (-1) else n) d) := by
  unfold f17 f17_A f17_T
  simp only [t8, t64]; rfl
theorem restore_eq {k : Nat} (K : Nat × Int × Nat × Int × List CV × List CV → Option X) (sec l : Int) (B W : List Int) (t : Nat) (d : Bool) : f18 k K B.length sec W.length t l d (by8 B) (by64 W) = K (B.length, sec, W.length, (t : Int), by8 B, by64 W) := by
  unfold f18 f18_A f18_T
  simp only [t8, t64]
theorem wear_eq {k : Nat} (K : Int × Nat × Int × Nat × Int × Int × Bool × List CV × List CV → Option X) (s : Nat) (sec l : Int) (B W : List Int) (t : Nat) (d : Bool) (hs : s < W.length) : f33 k K (s : Int) B.length sec W.length t l d (by8 B) (by64 W) = K (W[s], fl B sec W t l d) := by
  unfold f33 f33_A f33_T
  have hg : (by64 W)[s]? = some (.int .i64 W[s]) := by simp [by64, List.getElem?_eq_getElem hs]
  refine (bifF (decide_eq_false (by omega))).trans ?_
  refine (bifF (decide_eq_false (by omega))).trans ?_
  simp only [t8, t64]
  simp only [dec0, grd_true, Int.toNat_natCast, Nat.zero_add, decLt, hs, decide_true, hg, Option.bind_some, isI_int, toI_int]
  rfl
/-- What is laid into a flash. -/
def laid (B ws : List Int) : List Int := ws.take (min ws.length B.length) ++ B.drop (min ws.length B.length)
theorem laid_len (B ws : List Int) : (laid B ws).length = B.length := by simp [laid]; omega
theorem load_eq {k : Nat} (K : Nat × Int × Nat × Int × List CV × List CV → Option X) (ws : List Int) (sec l : Int) (B W : List Int) (t : Nat) (d : Bool) : f15 k K (by8 ws) B.length sec W.length t l d (by8 B) (by64 W) = K ((laid B ws).length, sec, W.length, (t : Int), by8 (laid B ws), by64 W) := by
  unfold f15 f15_A f15_T
  refine (grdT (decide_eq_true (by rw [by8_length]; omega))).trans ?_
  have e : List.take 0 (by8 B) ++ List.take (min (by8 ws).length B.length) (by8 ws) ++ List.drop (0 + min (by8 ws).length B.length) (by8 B) = by8 (laid B ws) := by
    rw [by8_length, List.take_zero, List.nil_append, Nat.zero_add, ← by8_take, ← by8_drop, ← by8_append]; rfl
  simp only [e]
  have h := restore_eq (k := k) (X := X) (fun u1 => K (u1.1, u1.2.1, u1.2.2.1, u1.2.2.2.1, List.take (0 + u1.1) u1.2.2.2.2.1, List.take (0 + u1.2.2.1) u1.2.2.2.2.2)) sec l (laid B ws) W t d
  rw [laid_len] at h
  refine h.trans ?_
  have := t8 (laid B ws)
  rw [laid_len] at this
  simp only [t64, this, laid_len]
theorem over_get (B : List Int) (a : Nat) (xs : List Int) (h : a + xs.length ≤ B.length) (i : Nat) : (over B a xs)[i]? = if a ≤ i ∧ i < a + xs.length then xs[i - a]? else B[i]? := by
  unfold over
  have hl : (B.take a).length = a := by simp; omega
  by_cases h1 : i < a
  · rw [if_neg (by omega), List.append_assoc, List.getElem?_append_left (by omega), List.getElem?_take_of_lt h1]
  · by_cases h2 : i < a + xs.length
    · rw [if_pos ⟨by omega, h2⟩, List.append_assoc, List.getElem?_append_right (by omega), hl, List.getElem?_append_left (by omega)]
    · rw [if_neg (by omega), List.getElem?_append_right (by simp; omega), List.getElem?_drop]
      congr 1
      simp; omega
/-- What of a flash is turned. -/
structure Made (B C : List Int) (a : Int) (xs : List Int) (N : Nat) (e : Int) (d : Bool) : Prop where
  len : C.length = B.length
  down : d = (e == 30)
  get : ∀ i, i < B.length → C[i]? = if (a ≤ i ∧ i - a < xs.length ∧ i - a < N ∧ 0 ≤ a) ∧ (e = 0 ∨ e = 30) then xs[(i - a).toNat]? else B[i]?
theorem endR_made (B : List Int) (a : Nat) (xs : List Int) (sec : Int) (W : List Int) (t N : Nat) (h : a + xs.length ≤ B.length) :
    ∃ C e l' t' d, endR B a xs sec W t N = (e, fl C sec W t' l' d) ∧ Made B C a xs N e d ∧ (e = 30 ↔ N < xs.length) ∧ (e = 0 ∨ e = 30) ∧ t' ≤ 1073741824 := by
  have hg : goes (N : Int) xs.length = min xs.length N := by unfold goes; rw [if_neg (by omega)]; simp
  unfold endR
  rw [hg]
  by_cases hN : min xs.length N < xs.length
  · rw [if_pos hN]
    have hm : min xs.length N = N := by omega
    rw [hm]
    have htl : (xs.take N).length = N := by rw [List.length_take]; omega
    refine ⟨_, 30, _, _, true, rfl, ⟨over_len (by omega), rfl, fun i hi => ?_⟩, by omega, .inr rfl, Nat.min_le_right _ _⟩
    rw [over_get _ _ _ (by omega), htl]
    by_cases hc : a ≤ i ∧ i < a + N
    · rw [if_pos hc, if_pos ⟨by omega, .inr rfl⟩, List.getElem?_take_of_lt (by omega)]
      congr 1; omega
    · rw [if_neg hc, if_neg (fun q => hc (by omega))]
  · rw [if_neg hN]
    refine ⟨_, 0, _, _, false, rfl, ⟨over_len h, rfl, fun i hi => ?_⟩, by omega, .inl rfl, Nat.min_le_right _ _⟩
    rw [over_get _ _ _ h]
    by_cases hc : a ≤ i ∧ i < a + xs.length
    · rw [if_pos hc, if_pos ⟨by omega, .inl rfl⟩]
      congr 1; omega
    · rw [if_neg hc, if_neg (fun q => hc (by omega))]
theorem prog_made {k : Nat} (at_ : Int) (xs : List Int) (sec : Int) (B W : List Int) (t N : Nat) (hk : 300000 < k) (hB : B.length ≤ 262144) (ht : t ≤ 1073741824) (hN : N < 128) :
    ∃ C e l' t' d, Made B C at_ xs N e d ∧ t' ≤ 1073741824 ∧ ∀ (Y : Type) (K : Int × Nat × Int × Nat × Int × Int × Bool × List CV × List CV → Option Y), f27 k K at_ (by8 xs) B.length sec W.length t N false (by8 B) (by64 W) = K (e, fl C sec W t' l' d) := by
  have no : ∀ e : Int, e = 1 ∨ e = 31 → Made B B at_ xs N e false := fun e he => ⟨rfl, by rcases he with rfl | rfl <;> rfl, fun i hi => by rw [if_neg (fun q => by rcases he with rfl | rfl <;> rcases q.2 with h | h <;> cases h)]⟩
  cases hw : wiB B.length at_ xs.length with
  | false =>
    refine ⟨B, 1, N, t, false, no 1 (.inl rfl), ht, fun Y K => (prog_eq K hk at_ xs sec N B W t false hB ht (by omega)).trans ?_⟩
    rw [if_neg (by decide), if_pos hw]
  | true =>
    obtain ⟨g1, g2, g3, g4⟩ := of_decide_eq_true hw
    cases hc : clB B at_.toNat xs with
    | false =>
      refine ⟨B, 31, N, t, false, no 31 (.inr rfl), ht, fun Y K => (prog_eq K hk at_ xs sec N B W t false hB ht (by omega)).trans ?_⟩
      rw [if_neg (by decide), if_neg (by rw [hw]; decide), if_pos hc]
    | true =>
      obtain ⟨a, rfl⟩ : ∃ n : Nat, at_ = n := ⟨at_.toNat, by omega⟩
      obtain ⟨C, e, l', t', d, h1, h2, h3, h4, h5⟩ := endR_made B a xs sec W t N (by omega)
      refine ⟨C, e, l', t', d, h2, h5, fun Y K => (prog_eq K hk (a : Int) xs sec N B W t false hB ht (by omega)).trans ?_⟩
      rw [if_neg (by decide), if_neg (by rw [hw]; decide), if_neg (by rw [hc]; decide), Int.toNat_natCast, h1]
theorem maskN (x : Int) (n : Nat) (hn : n < 62) : ∃ r : Nat, r < 2 ^ n ∧ bop .and .i64 x ((2 ^ n - 1 : Nat) : Int) = r := by
  rw [bop_mask64 x n hn]
  have hp : 0 < 2 ^ n := Nat.two_pow_pos n
  have h1 := Int.emod_lt_of_pos x (show (0 : Int) < ((2 ^ n : Nat) : Int) by omega)
  have h2 := Int.emod_nonneg x (show ((2 ^ n : Nat) : Int) ≠ 0 by omega)
  exact ⟨(x % ((2 ^ n : Nat) : Int)).toNat, by omega, by omega⟩
end
section
variable {X : Type}
end
section
variable {X : Type}
/-- No bit is set that was not. -/
structure Cl (B D : List Int) : Prop where
  len : D.length = B.length
  get : ∀ i (h : i < B.length) (h' : i < D.length), bop .andNot .u8 D[i] B[i] = 0
theorem Cl.refl (B : List Int) : Cl B B := ⟨rfl, fun i h h' => andNot_self _⟩
theorem cl_get {B : List Int} {a : Nat} {xs : List Int} (h : clB B a xs = true) (ha : a + xs.length ≤ B.length) (j : Nat) (hj : j < xs.length) : bop .andNot .u8 xs[j] (B[a + j]'(by omega)) = 0 := by
  unfold clB at h
  rw [List.all_eq_true] at h
  have hj2 : j < (B.drop a).length := by rw [List.length_drop]; omega
  have hz : j < (xs.zip (B.drop a)).length := by rw [List.length_zip]; omega
  have := h _ (List.getElem_mem hz)
  rw [List.getElem_zip] at this
  simp only [List.getElem_drop] at this
  exact eq_of_beq this
theorem over_cl {B : List Int} {a : Nat} {xs : List Int} (h : clB B a xs = true) (ha : a + xs.length ≤ B.length) (g : Nat) : Cl B (over B a (xs.take g)) := by
  have htl : (xs.take g).length ≤ xs.length := by rw [List.length_take]; omega
  refine ⟨over_len (by omega), fun i hi hi' => ?_⟩
  have hget := over_get B a (xs.take g) (by omega) i
  rw [List.getElem?_eq_getElem hi'] at hget
  by_cases hc : a ≤ i ∧ i < a + (xs.take g).length
  · rw [if_pos hc, List.getElem?_eq_getElem (by omega), List.getElem_take] at hget
    rw [Option.some.inj hget]
    have := cl_get h ha (i - a) (by omega)
    have e : a + (i - a) = i := by omega
    simp only [e] at this
    exact this
  · rw [if_neg hc, List.getElem?_eq_getElem hi] at hget
    rw [Option.some.inj hget]
    exact andNot_self _
theorem prog_cl {k : Nat} (at_ : Int) (xs : List Int) (sec l : Int) (B W : List Int) (t : Nat) (d : Bool) (hk : 300000 < k) (hB : B.length ≤ 262144) (ht : t ≤ 1073741824) (hl : l < 9223372036854775808) :
    ∃ D e l' t' d', Cl B D ∧ (e ≠ 0 → e ≠ 30 → D = B) ∧ t' ≤ 1073741824 ∧ l' < 9223372036854775808 ∧ ∀ (Y : Type) (K : Int × Nat × Int × Nat × Int × Int × Bool × List CV × List CV → Option Y), f27 k K at_ (by8 xs) B.length sec W.length t l d (by8 B) (by64 W) = K (e, fl D sec W t' l' d') := by
  cases hd : d with
  | true => exact ⟨B, 30, l, t, true, Cl.refl B, fun _ h => absurd rfl h, ht, hl, fun Y K => (prog_eq K hk at_ xs sec l B W t true hB ht hl).trans (if_pos rfl)⟩
  | false =>
  cases hw : wiB B.length at_ xs.length with
  | false => exact ⟨B, 1, l, t, false, Cl.refl B, fun _ _ => rfl, ht, hl, fun Y K => (prog_eq K hk at_ xs sec l B W t false hB ht hl).trans (by rw [if_neg (by decide), if_pos hw])⟩
  | true =>
    obtain ⟨g1, g2, g3, g4⟩ := of_decide_eq_true hw
    cases hc : clB B at_.toNat xs with
    | false => exact ⟨B, 31, l, t, false, Cl.refl B, fun _ _ => rfl, ht, hl, fun Y K => (prog_eq K hk at_ xs sec l B W t false hB ht hl).trans (by rw [if_neg (by decide), if_neg (by rw [hw]; decide), if_pos hc])⟩
    | true =>
      have key : ∀ (Y : Type) (K : Int × Nat × Int × Nat × Int × Int × Bool × List CV × List CV → Option Y), f27 k K at_ (by8 xs) B.length sec W.length t l false (by8 B) (by64 W) = K (endR B at_.toNat xs sec W t l) := fun Y K => (prog_eq K hk at_ xs sec l B W t false hB ht hl).trans (by rw [if_neg (by decide), if_neg (by rw [hw]; decide), if_neg (by rw [hc]; decide)])
      have ha : at_.toNat + xs.length ≤ B.length := by omega
      by_cases hN : goes l xs.length < xs.length
      · exact ⟨_, 30, 0, _, true, over_cl hc ha (goes l xs.length), fun _ h => absurd rfl h, Nat.min_le_right (t + goes l xs.length) 1073741824, by omega, fun Y K => (key Y K).trans (by unfold endR; rw [if_pos hN]; rfl)⟩
      · have hcl := over_cl hc ha xs.length
        rw [List.take_length] at hcl
        exact ⟨_, 0, leftL l xs.length, _, false, hcl, fun h => absurd rfl h, Nat.min_le_right (t + xs.length) 1073741824, by unfold leftL; split <;> omega, fun Y K => (key Y K).trans (by unfold endR; rw [if_neg hN]; rfl)⟩
end
section
variable {X : Type}
theorem incU_zero (r : List Int) : incU r 0 = r := rfl
abbrev Opv := Int × Int × Int × List Int
def opv (p : Opv) : CV := .agg [.int .i64 p.1, .int .i64 p.2.1, .int .i64 p.2.2.1, .slc none (by8 p.2.2.2)]
theorem opv_a (p : Opv) : CV.isA 4 (opv p) = true := rfl
theorem opv_0 (p : Opv) : CV.cellD 0 (opv p) = .int .i64 p.1 := rfl
theorem opv_1 (p : Opv) : CV.cellD 1 (opv p) = .int .i64 p.2.1 := rfl
theorem opv_2 (p : Opv) : CV.cellD 2 (opv p) = .int .i64 p.2.2.1 := rfl
theorem opv_3 (p : Opv) : CV.cellD 3 (opv p) = .slc none (by8 p.2.2.2) := rfl
/-- Are steps few, of few bytes? -/
def smB : Nat → List Opv → Bool
  | n, [] => true
  | n, p :: l => if (p.2.2.2.length : Int) > 3000 - n then false else smB (n + p.2.2.2.length) l
theorem smB_len : ∀ (l : List Opv) (n : Nat), smB n l = true → ∀ p ∈ l, p.2.2.2.length ≤ 3000
  | [], n, _, p, hp => by simp at hp
  | q :: l, n, h, p, hp => by
    unfold smB at h
    split at h
    · cases h
    · rcases List.mem_cons.1 hp with rfl | hp
      · omega
      · exact smB_len l _ h p hp
end
end Go.Proofs.YtgkopcfbdcbjbaaD
