/- Blocks: the law on a body that is cut, and put together in order. -/
import Derived.Test.YtidniahglagllaaPe
namespace Go.Proofs.YtidniahglagllaaD
open Go Go.Proofs.YtidniahglagllaaS Go.Proofs
set_option linter.unusedVariables false
set_option linter.unusedSimpArgs false
section
variable {X : Type}
theorem rd_wr (q s : Nat) (m : Bool) (hq : q < 1048576) (hs : s ≤ 6) : wr (q : Int) m ((16 * 2 ^ s : Nat) : Int) = ((be (wnum q m ((16 * 2 ^ s : Nat) : Int))).length, 0, by8 (be (wnum q m ((16 * 2 ^ s : Nat) : Int)))) ∧ rd (be (wnum q m ((16 * 2 ^ s : Nat) : Int))) = (blk q m ((16 * 2 ^ s : Nat) : Int), 0) := by
  refine ⟨if_pos (Rt.mk hs hq), ?_⟩
  have hw : wnum (q : Int) m ((16 * 2 ^ s : Nat) : Int) = q * 16 + s + (if m then 8 else 0) := by unfold wnum; rw [pw_of hs]; simp
  rw [hw]
  have hlt : q * 16 + s + (if m then 8 else 0) < 16777216 := by split <;> omega
  have hn := numN_be (q * 16 + s + (if m then 8 else 0)) (by omega)
  have hl := be_len_le 3 (q * 16 + s + (if m then 8 else 0)) hlt
  unfold rd
  rw [hn]
  have h8 : (q * 16 + s + (if m then 8 else 0)) % 8 = s := by split <;> omega
  rw [if_neg (by omega), h8]
  have h16 : (q * 16 + s + (if m then 8 else 0)) / 16 = q := by split <;> omega
  have hb : decide ((q * 16 + s + (if m then 8 else 0)) / 8 % 2 = 1) = m := by
    cases m
    · exact decide_eq_false (by simp; omega)
    · exact decide_eq_true (by simp; omega)
  rw [h16, hb]
theorem back_cut {k0 : Nat} {Y : Type} (K : Nat × Bool × Bool × List CV → Option Y) (hk : 300000 < k0) (body : List Int) (hb : body.length ≤ 4000) (q s : Nat) (hs : s ≤ 6) (hq : q * (16 * 2 ^ s) < body.length ∨ q = 0) :
    f13 k0 K (by8 body) q ((16 * 2 ^ s : Nat) : Int) = K ((part body q ((16 * 2 ^ s : Nat) : Int)).length, decide (q * (16 * 2 ^ s) + 16 * 2 ^ s < body.length), true, by8 (part body q ((16 * 2 ^ s : Nat) : Int))) := by
  refine (cut_eq _ (by omega) body (by omega) _ _).trans ?_
  rw [(put_step body hb q s hs hq).2.1]
/-- The next block is put: whether one is put already counts only behind the first. -/
theorem back_put {k0 : Nat} {Y : Type} (K : Bool × Int × Int × Nat × Bool × List CV → Option Y) (hk : 300000 < k0) (body : List Int) (hb : body.length ≤ 4000) (q s : Nat) (hs : s ≤ 6) (hq : q * (16 * 2 ^ s) < body.length ∨ q = 0) (on : Bool) (hon : 0 < q → on = true) :
    f18 k0 K (blk q (decide (q * (16 * 2 ^ s) + 16 * 2 ^ s < body.length)) ((16 * 2 ^ s : Nat) : Int)) (by8 (part body q ((16 * 2 ^ s : Nat) : Int))) (body.length : Int) (body.take (q * (16 * 2 ^ s))).length on (by8 (body.take (q * (16 * 2 ^ s)))) =
      K (!(decide (q * (16 * 2 ^ s) + 16 * 2 ^ s < body.length)), 0, body.length, (body.take (q * (16 * 2 ^ s) + 16 * 2 ^ s)).length, decide (q * (16 * 2 ^ s) + 16 * 2 ^ s < body.length), by8 (body.take (q * (16 * 2 ^ s) + 16 * 2 ^ s))) := by
  refine (put_eq (k := k0) K (by omega) (body.length : Int) on (body.take (q * (16 * 2 ^ s))) (part body q ((16 * 2 ^ s : Nat) : Int)) (q : Int) ((16 * 2 ^ s : Nat) : Int) (decide (q * (16 * 2 ^ s) + 16 * 2 ^ s < body.length)) ⟨by omega, by omega⟩ (by rw [List.length_take]; omega)).trans ?_
  have hp := (put_step body hb q s hs hq).2.2
  have hput : put (body.length : Int) on (body.take (q * (16 * 2 ^ s))) (q : Int) (decide (q * (16 * 2 ^ s) + 16 * 2 ^ s < body.length)) ((16 * 2 ^ s : Nat) : Int) (part body q ((16 * 2 ^ s : Nat) : Int)) = (!(decide (q * (16 * 2 ^ s) + 16 * 2 ^ s < body.length)), 0, decide (q * (16 * 2 ^ s) + 16 * 2 ^ s < body.length), body.take (q * (16 * 2 ^ s) + 16 * 2 ^ s)) := by
    unfold put
    by_cases h0 : q = 0
    · rw [if_pos (by omega)]
      subst h0
      simpa using hp
    · rw [if_neg (by omega), hon (by omega)]
      exact hp
  rw [hput]
theorem take_drop0 (a : List Int) : List.take a.length (List.drop 0 (by8 a)) = by8 a := by
  rw [List.drop_zero, take_all _ _ (by rw [by8_length]; exact Nat.le_refl _)]
theorem again_loop {k0 : Nat} (K : Bool → Option X) (hk : 300000 < k0) (body : List Int) (hb : body.length ≤ 4000) (s : Nat) (hs : s ≤ 6) (out : Nat) (ho : out * (16 * 2 ^ s) < body.length ∨ out = 0) : ∀ (k i : Nat) (on : Bool), out + 1 - i < k → i ≤ out + 1 → (0 < i → on = decide (i * (16 * 2 ^ s) < body.length)) →
    iterV (f5_L2 (fun X => @f7 X k0) (fun X => @f16 X k0) (fun X => @f13 X k0) (fun X => @f8 X k0) (fun X => @f11 X k0) (fun X => @f18 X k0) (fun X => @f21 X k0) (fun X => @f15 X k0) (fun X => @f20 X k0) k0 K) k (by8 body, ((16 * 2 ^ s : Nat) : Int), (out : Int), (i : Int), (body.length : Int), (body.take (i * (16 * 2 ^ s))).length, on, by8 (body.take (i * (16 * 2 ^ s)))) = K true
  | 0, i, on, h, _, _ => by omega
  | k + 1, i, on, h, hi, hon => by
    obtain ⟨z1, z2⟩ := sz hs
    show f5_L2 _ _ _ _ _ _ _ _ _ k0 K (iterV _ k) _ = _
    unfold f5_L2 f5_T2
    have hob : out ≤ 4000 := by
      rcases ho with ho | ho
      · have : out * 16 ≤ out * (16 * 2 ^ s) := Nat.mul_le_mul_left _ z1
        omega
      · omega
    by_cases hio : i ≤ out
    · have hq : i * (16 * 2 ^ s) < body.length ∨ i = 0 := by
        rcases ho with ho | ho
        · have := Nat.mul_le_mul_right (16 * 2 ^ s) hio
          omega
        · omega
      have hm : i * (16 * 2 ^ s) + 16 * 2 ^ s = (i + 1) * (16 * 2 ^ s) := (Nat.succ_mul i (16 * 2 ^ s)).symm
      refine (bifT (decide_eq_true (by simp only []; omega))).trans ?_
      refine (back_cut _ hk body hb i s hs hq).trans ?_
      simp only [take_drop0]
      refine (back_put _ hk body hb i s hs hq on (fun e => by
        rcases hq with hq | hq
        · rw [hon e]; exact decide_eq_true hq
        · omega)).trans ?_
      simp only []
      rw [wrap64_s (by omega), hm]
      exact again_loop K hk body hb s hs out ho k (i + 1) _ (by omega) (by omega) (fun _ => rfl)
    · have hi' : i = out + 1 := by omega
      subst hi'
      have hm : out * (16 * 2 ^ s) + 16 * 2 ^ s = (out + 1) * (16 * 2 ^ s) := (Nat.succ_mul out (16 * 2 ^ s)).symm
      refine (bifF (decide_eq_false (by simp only []; omega))).trans ?_
      refine (back_cut _ hk body hb out s hs ho).trans ?_
      simp only [take_drop0]
      refine (put_eq (k := k0) _ (by omega) (body.length : Int) on (body.take ((out + 1) * (16 * 2 ^ s))) (part body out ((16 * 2 ^ s : Nat) : Int)) (out : Int) ((16 * 2 ^ s : Nat) : Int) (decide (out * (16 * 2 ^ s) + 16 * 2 ^ s < body.length)) ⟨by omega, by omega⟩ (by rw [List.length_take]; omega)).trans ?_
      by_cases h0 : out = 0
      · have hp := (put_step body hb out s hs ho).2.2
        subst h0
        have hput : put (body.length : Int) on (body.take ((0 + 1) * (16 * 2 ^ s))) ((0 : Nat) : Int) (decide (0 * (16 * 2 ^ s) + 16 * 2 ^ s < body.length)) ((16 * 2 ^ s : Nat) : Int) (part body ((0 : Nat) : Int) ((16 * 2 ^ s : Nat) : Int)) = (!(decide (0 * (16 * 2 ^ s) + 16 * 2 ^ s < body.length)), 0, decide (0 * (16 * 2 ^ s) + 16 * 2 ^ s < body.length), body.take (0 * (16 * 2 ^ s) + 16 * 2 ^ s)) := by
          rw [Nat.zero_mul, List.take_zero] at hp
          rw [Nat.zero_mul]
          exact (if_pos rfl).trans hp
        rw [hput]
        rfl
      · have hl : ¬ out * (16 * 2 ^ s) = (body.take ((out + 1) * (16 * 2 ^ s))).length := by
          rw [List.length_take]; omega
        have hput : put (body.length : Int) on (body.take ((out + 1) * (16 * 2 ^ s))) (out : Int) (decide (out * (16 * 2 ^ s) + 16 * 2 ^ s < body.length)) ((16 * 2 ^ s : Nat) : Int) (part body (out : Int) ((16 * 2 ^ s : Nat) : Int)) = (false, 4, false, []) := by
          unfold put
          rw [if_neg (by omega)]
          have hE : putE (body.length : Int) on (body.take ((out + 1) * (16 * 2 ^ s))) (out : Int) (decide (out * (16 * 2 ^ s) + 16 * 2 ^ s < body.length)) ((16 * 2 ^ s : Nat) : Int) (part body (out : Int) ((16 * 2 ^ s : Nat) : Int)) = 4 := by
            unfold putE
            rw [if_neg (fun e => e (Rt.mk hs (by omega)))]
            exact if_pos (fun e => hl (by have := e.2; simpa only [Int.toNat_natCast] using this))
          unfold putR
          rw [hE]
          rfl
        rw [hput]
        simp only []
        rw [show (((out : Nat) : Int) == 0) = false from beq_f (by omega)]
        simp only [cond_false]
        refine (bifT (decide_eq_true (by omega))).trans ?_
        refine (bifT (by rfl)).trans ?_
        refine (got_eq _ _ false []).trans ?_
        rfl
theorem count_eq (L Z n : Nat) (hz : 16 ≤ Z) (hz2 : Z ≤ 1024) (hL : L ≤ 4000) (h1 : n * Z < L ∨ n = 0) (h2 : L ≤ n * Z + Z) :
    (if IntKind.wrap .i64 (Int.tdiv (IntKind.wrap .i64 (IntKind.wrap .i64 ((L : Int) + (Z : Int)) - 1)) (Z : Int)) > 1 then IntKind.wrap .i64 (Int.tdiv (IntKind.wrap .i64 (IntKind.wrap .i64 ((L : Int) + (Z : Int)) - 1)) (Z : Int)) else 1) = ((n + 1 : Nat) : Int) := by
  have e1 : IntKind.wrap .i64 (IntKind.wrap .i64 ((L : Int) + (Z : Int)) - 1) = ((L + Z - 1 : Nat) : Int) := by
    rw [wrap64 (n := (L : Int) + (Z : Int)) (by omega) (by omega), wrap64 (by omega) (by omega)]; omega
  have e2 : IntKind.wrap .i64 (Int.tdiv ((L + Z - 1 : Nat) : Int) (Z : Int)) = (((L + Z - 1) / Z : Nat) : Int) := by
    rw [tdiv_eq (by omega)]
    have h3 : (L + Z - 1) / Z ≤ L + Z - 1 := Nat.div_le_self _ _
    have : ((L + Z - 1 : Nat) : Int) / (Z : Int) = (((L + Z - 1) / Z : Nat) : Int) := rfl
    rw [this]
    exact wrap64N (by omega)
  rw [e1, e2]
  rcases h1 with h1 | h1
  · have hd : (L + Z - 1) / Z = n + 1 := by
      refine (Nat.div_eq_iff (by omega)).2 ⟨?_, ?_⟩
      · rw [Nat.succ_mul]; omega
      · rw [Nat.succ_mul]; omega
    rw [hd]
    split <;> omega
  · subst h1
    have hd : (L + Z - 1) / Z ≤ 1 := by
      have : (L + Z - 1) / Z < 2 := by
        rw [Nat.div_lt_iff_lt_mul (by omega)]; omega
      omega
    rw [if_neg (by omega)]
    rfl
theorem back_loop {k0 : Nat} (K : Bool → Option X) (hk : 300000 < k0) (body : List Int) (hb : body.length ≤ 4000) (s : Nat) (hs : s ≤ 6) (x : Int) : ∀ (k q : Nat) (on : Bool), body.length - q * (16 * 2 ^ s) < k → (q * (16 * 2 ^ s) < body.length ∨ q = 0) → (0 < q → on = true) →
    iterV (f5_L1 (fun X => @f7 X k0) (fun X => @f16 X k0) (fun X => @f13 X k0) (fun X => @f8 X k0) (fun X => @f11 X k0) (fun X => @f18 X k0) (fun X => @f21 X k0) (fun X => @f15 X k0) (fun X => @f20 X k0) k0 K) k (by8 body, ((16 * 2 ^ s : Nat) : Int), x, (q : Int), (body.length : Int), (body.take (q * (16 * 2 ^ s))).length, on, by8 (body.take (q * (16 * 2 ^ s)))) = K true
  | 0, q, on, h, _, _ => by omega
  | k + 1, q, on, h, hq, hon => by
    obtain ⟨z1, z2⟩ := sz hs
    have hqb : q ≤ 4000 := by
      rcases hq with hq | hq
      · have : q * 16 ≤ q * (16 * 2 ^ s) := Nat.mul_le_mul_left _ z1
        omega
      · omega
    have hm : q * (16 * 2 ^ s) + 16 * 2 ^ s = (q + 1) * (16 * 2 ^ s) := (Nat.succ_mul q (16 * 2 ^ s)).symm
    show f5_L1 _ _ _ _ _ _ _ _ _ k0 K (iterV _ k) _ = _
    unfold f5_L1 f5_T1
    refine (back_cut _ hk body hb q s hs hq).trans ?_
    simp only [Bool.not_true, cond_false]
    generalize hmo : decide (q * (16 * 2 ^ s) + 16 * 2 ^ s < body.length) = more
    obtain ⟨hw, hr⟩ := rd_wr q s more (by omega) hs
    refine (write_eq _ (by omega) (q : Int) ((16 * 2 ^ s : Nat) : Int) more).trans ?_
    rw [hw]
    simp only [take_drop0]
    refine (read_eq _ (by omega) _ (be_byt _)).trans ?_
    rw [hr]
    simp only [blk_a, blk_0, blk_1, blk_2, isI_int, isB_bool, toI_int, toB_bool, grd_true]
    subst hmo
    refine (back_put _ hk body hb q s hs hq on hon).trans ?_
    simp only [bne_self_eq_false, cond_false]
    have hne : ∀ b : Bool, ((!b) == b) = false := fun b => by cases b <;> rfl
    rw [hne]
    simp only [cond_false]
    by_cases hmore : q * (16 * 2 ^ s) + 16 * 2 ^ s < body.length
    · rw [decide_eq_true hmore]
      simp only [Bool.not_true, cond_false]
      rw [wrap64_s (by omega), hm]
      exact back_loop K hk body hb s hs x k (q + 1) true (by rw [← hm]; omega) (.inl (by rw [← hm]; exact hmore)) (fun _ => rfl)
    · rw [decide_eq_false hmore]
      simp only [Bool.not_false, cond_true, wrap64_s (show q < 9223372036854775807 by omega)]
      refine (cut_eq _ (by omega) body (by omega) _ _).trans ?_
      have hbe : (ct body ((q + 1 : Nat) : Int) ((16 * 2 ^ s : Nat) : Int)).2.2.1 = false := by
        unfold ct
        rw [if_neg (by simp only [Int.toNat_natCast]; omega)]
      have hall : body.take (q * (16 * 2 ^ s) + 16 * 2 ^ s) = body := List.take_of_length_le (by omega)
      rw [hall]
      refine (bytes_eq _ _ false body (by omega)).trans ?_
      simp only [take_drop0]
      refine (same_eq _ body body (by omega) (by omega)).trans ?_
      rw [decide_eq_true rfl]
      simp only [Bool.not_true, cond_false, hbe]
      refine (grdT (bne_t (by omega))).trans ?_
      have hc := count_eq body.length (16 * 2 ^ s) q z1 z2 hb hq (by omega)
      rw [by8_length]
      rw [hc]
      simp only [bne_self_eq_false, cond_false]
      refine (new_eq _ _).trans ?_
      rw [mst_len hb]
      refine (grdT (bne_t (by omega))).trans ?_
      obtain ⟨r, hr1, hr2⟩ := masked x (q + 1) (by omega)
      simp only [hr2]
      have ho : r * (16 * 2 ^ s) < body.length ∨ r = 0 := by
        rcases hq with hq | hq
        · have := Nat.mul_le_mul_right (16 * 2 ^ s) (show r ≤ q by omega)
          omega
        · omega
      have := again_loop (k0 := k0) K hk body hb s hs r ho k0 0 false (by omega) (by omega) (fun e => by omega)
      rw [Nat.zero_mul] at this
      exact this
theorem back_eq {k : Nat} (K : Bool → Option X) (hk : 300000 < k) (body : List Int) (y x : Int) : f5 k K (by8 body) y x = K true := by
  unfold f5 f5_A f5_T
  refine (alive_eq _ (by omega)).trans ?_
  simp only [Bool.not_true, cond_false, by8_length, bif_dec]
  split
  · rfl
  rename_i hb
  obtain ⟨r, hr, hx⟩ := masked y 7 (by decide)
  rw [show ((7 : Nat) : Int) = 7 from rfl] at hx
  simp only [hx, Int.toNat_natCast, sh16 r (by omega)]
  refine (grdT (decide_eq_true (by omega))).trans ?_
  refine (new_eq _ _).trans ?_
  rw [mst_len (by omega)]
  have := back_loop (k0 := k) K hk body (by omega) r (by omega) x k 0 false (by omega) (.inr rfl) (fun e => by omega)
  rw [Nat.zero_mul] at this
  exact this
end
end Go.Proofs.YtidniahglagllaaD
