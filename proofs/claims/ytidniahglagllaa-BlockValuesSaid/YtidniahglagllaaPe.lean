/- Blocks: the laws on a body that is cut and put together. -/
import Derived.Test.YtidniahglagllaaPd
namespace Go.Proofs.YtidniahglagllaaD
open Go Go.Proofs.YtidniahglagllaaS Go.Proofs
set_option linter.unusedVariables false
set_option linter.unusedSimpArgs false
section
variable {X : Type}
theorem part_take (body : List Int) (q Z : Nat) : body.take (q * Z) ++ part body q Z = body.take (q * Z + Z) := by
  unfold part
  simp only [Int.toNat_natCast]
  rw [List.take_add]
theorem mst_len {n : Nat} (h : n ≤ 4000) : mst (n : Int) = n := by
  unfold mst; rw [if_neg (by omega), if_neg (by omega)]
/-- The next block of a body, put behind those ahead. -/
theorem put_step (body : List Int) (hb : body.length ≤ 4000) (q s : Nat) (hs : s ≤ 6) (hq : q * (16 * 2 ^ s) < body.length ∨ q = 0) :
    Rt (q : Int) ((16 * 2 ^ s : Nat) : Int) ∧ ct body q ((16 * 2 ^ s : Nat) : Int) = ((part body q ((16 * 2 ^ s : Nat) : Int)).length, decide (q * (16 * 2 ^ s) + 16 * 2 ^ s < body.length), true, by8 (part body q ((16 * 2 ^ s : Nat) : Int))) ∧
    putR (body.length : Int) true (body.take (q * (16 * 2 ^ s))) q (decide (q * (16 * 2 ^ s) + 16 * 2 ^ s < body.length)) ((16 * 2 ^ s : Nat) : Int) (part body q ((16 * 2 ^ s : Nat) : Int)) =
      (!(decide (q * (16 * 2 ^ s) + 16 * 2 ^ s < body.length)), 0, decide (q * (16 * 2 ^ s) + 16 * 2 ^ s < body.length), body.take (q * (16 * 2 ^ s) + 16 * 2 ^ s)) := by
  obtain ⟨z1, z2⟩ := sz hs
  have hqb : q < 1048576 := by
    rcases hq with hq | hq
    · have : q * 16 ≤ q * (16 * 2 ^ s) := Nat.mul_le_mul_left _ z1
      omega
    · omega
  have hR : Rt (q : Int) ((16 * 2 ^ s : Nat) : Int) := Rt.mk hs hqb
  refine ⟨hR, ?_, ?_⟩
  · unfold ct
    rw [if_pos ⟨hR, by simp only [Int.toNat_natCast]; omega⟩]
    simp only [Int.toNat_natCast]
  · have hpl : (part body q ((16 * 2 ^ s : Nat) : Int)).length = min (16 * 2 ^ s) (body.length - q * (16 * 2 ^ s)) := by
      unfold part; simp only [Int.toNat_natCast, List.length_take, List.length_drop]
    have htl : (body.take (q * (16 * 2 ^ s))).length = q * (16 * 2 ^ s) := by
      rw [List.length_take]
      rcases hq with hq | hq
      · omega
      · subst hq; simp
    have hle : q * (16 * 2 ^ s) ≤ body.length := by
      rcases hq with hq | hq
      · omega
      · subst hq; simp
    have hE : putE (body.length : Int) true (body.take (q * (16 * 2 ^ s))) q (decide (q * (16 * 2 ^ s) + 16 * 2 ^ s < body.length)) ((16 * 2 ^ s : Nat) : Int) (part body q ((16 * 2 ^ s : Nat) : Int)) = 0 := by
      unfold putE
      rw [if_neg (fun e => e hR), if_neg (fun e => e ⟨rfl, by rw [htl]; simp only [Int.toNat_natCast]⟩), hpl, htl]
      generalize 16 * 2 ^ s = Z at *
      generalize q * Z = a at *
      rw [if_neg (by simp only [decide_eq_true_eq]; omega), if_neg (by omega)]
    unfold putR
    rw [if_pos hE, part_take]
theorem mixes_loop {k0 : Nat} (K : Bool → Option X) (hk : 300000 < k0) (body : List Int) (hb : body.length ≤ 2000) (s : Nat) (hs : s ≤ 6) : ∀ (k q : Nat) (last on : Bool), body.length - q * (16 * 2 ^ s) < k →
    (last = true → body.length ≤ q * (16 * 2 ^ s)) → (last = false → on = true ∧ 0 < q ∧ q * (16 * 2 ^ s) < body.length) →
    iterV (f6_L1 (fun X => @f7 X k0) (fun X => @f16 X k0) (fun X => @f13 X k0) (fun X => @f18 X k0) (fun X => @f20 X k0) (fun X => @f21 X k0) (fun X => @f15 X k0) k0 K) k (by8 body, ((16 * 2 ^ s : Nat) : Int), last, (body.length : Int), (body.take (q * (16 * 2 ^ s))).length, on, by8 (body.take (q * (16 * 2 ^ s)))) = K true
  | 0, q, last, on, h, _, _ => by omega
  | k + 1, q, last, on, h, hl, hn => by
    obtain ⟨z1, z2⟩ := sz hs
    show f6_L1 _ _ _ _ _ _ _ k0 K (iterV _ k) _ = _
    unfold f6_L1 f6_T1
    cases last with
    | true =>
      have := hl rfl
      rw [List.take_of_length_le this]
      simp only [Bool.not_true, cond_false]
      refine (bytes_eq _ _ on body (by omega)).trans ?_
      simp only [List.drop_zero]
      rw [take_all _ _ (by rw [by8_length]; exact Nat.le_refl _)]
      refine (same_eq _ body body (by omega) (by omega)).trans ?_
      rw [decide_eq_true rfl]
    | false =>
      obtain ⟨rfl, hq0, hq⟩ := hn rfl
      have htl : (body.take (q * (16 * 2 ^ s))).length = q * (16 * 2 ^ s) := by rw [List.length_take]; omega
      simp only [Bool.not_false, cond_true]
      refine (got_eq _ _ true (body.take (q * (16 * 2 ^ s)))).trans ?_
      obtain ⟨hR, hc, hp⟩ := put_step body (by omega) q s hs (.inl hq)
      have e1 : IntKind.wrap .i64 (Int.tdiv ((q * (16 * 2 ^ s) : Nat) : Int) ((16 * 2 ^ s : Nat) : Int)) = (q : Int) := by
        rw [tdiv_eq (by omega)]
        have : ((q * (16 * 2 ^ s) : Nat) : Int) / ((16 * 2 ^ s : Nat) : Int) = ((q * (16 * 2 ^ s) / (16 * 2 ^ s) : Nat) : Int) := rfl
        rw [this, Nat.mul_div_cancel _ (by omega)]
        have : q * 16 ≤ q * (16 * 2 ^ s) := Nat.mul_le_mul_left _ z1
        exact wrap64N (by omega)
      simp only [htl, e1]
      refine (grdT (bne_t (by omega))).trans ?_
      refine (cut_eq _ (by omega) body (by omega) _ _).trans ?_
      rw [hc]
      simp only [Bool.not_true, cond_false]
      have e2 : List.take (part body q ((16 * 2 ^ s : Nat) : Int)).length (List.drop 0 (by8 (part body q ((16 * 2 ^ s : Nat) : Int)))) = by8 (part body q ((16 * 2 ^ s : Nat) : Int)) := by
        rw [List.drop_zero, take_all _ _ (by rw [by8_length]; exact Nat.le_refl _)]
      rw [e2]
      have hput := put_eq (k := k0) (X := X) (fun u13 => bif u13.2.1 != 0 then K false else iterV (f6_L1 (fun X => @f7 X k0) (fun X => @f16 X k0) (fun X => @f13 X k0) (fun X => @f18 X k0) (fun X => @f20 X k0) (fun X => @f21 X k0) (fun X => @f15 X k0) k0 K) k (by8 body, ((16 * 2 ^ s : Nat) : Int), u13.1, u13.2.2.1, u13.2.2.2.1, u13.2.2.2.2.1, u13.2.2.2.2.2)) (by omega) (body.length : Int) true (body.take (q * (16 * 2 ^ s))) (part body q ((16 * 2 ^ s : Nat) : Int)) (q : Int) ((16 * 2 ^ s : Nat) : Int) (decide (q * (16 * 2 ^ s) + 16 * 2 ^ s < body.length)) ⟨by omega, by omega⟩ (by omega)
      rw [show put (body.length : Int) true (body.take (q * (16 * 2 ^ s))) (q : Int) (decide (q * (16 * 2 ^ s) + 16 * 2 ^ s < body.length)) ((16 * 2 ^ s : Nat) : Int) (part body q ((16 * 2 ^ s : Nat) : Int)) = _ from (if_neg (by omega)).trans hp] at hput
      rw [htl] at hput
      refine hput.trans ?_
      simp only [bne_self_eq_false, cond_false]
      have hm : q * (16 * 2 ^ s) + 16 * 2 ^ s = (q + 1) * (16 * 2 ^ s) := (Nat.succ_mul q (16 * 2 ^ s)).symm
      rw [hm]
      exact mixes_loop K hk body hb s hs k (q + 1) _ _ (by rw [← hm]; omega) (fun e => by simpa using e) (fun e => ⟨by simpa using e, by omega, by simpa using e⟩)
theorem sh16 (s : Nat) (h : s ≤ 6) : IntKind.wrap .i64 (16 * 2 ^ (min s 64)) = ((16 * 2 ^ s : Nat) : Int) := by
  match s, h with
  | 0, _ => rfl
  | 1, _ => rfl
  | 2, _ => rfl
  | 3, _ => rfl
  | 4, _ => rfl
  | 5, _ => rfl
  | 6, _ => rfl
theorem sh32 (s : Nat) (h : s ≤ 5) : IntKind.wrap .i64 (32 * 2 ^ (min s 64)) = ((16 * 2 ^ (s + 1) : Nat) : Int) ∧ IntKind.wrap .i64 (Int.tdiv ((16 * 2 ^ (s + 1) : Nat) : Int) 2) = ((16 * 2 ^ s : Nat) : Int) := by
  match s, h with
  | 0, _ => exact ⟨rfl, rfl⟩
  | 1, _ => exact ⟨rfl, rfl⟩
  | 2, _ => exact ⟨rfl, rfl⟩
  | 3, _ => exact ⟨rfl, rfl⟩
  | 4, _ => exact ⟨rfl, rfl⟩
  | 5, _ => exact ⟨rfl, rfl⟩
theorem masked (x : Int) (d : Nat) (hd : 0 < d) : ∃ r : Nat, r < d ∧ Int.tmod (bop .and .i64 x 1023) (d : Int) = r := by
  have h := bop_mask64 x 10 (by decide)
  have h' : bop .and .i64 x 1023 = x % (2 ^ 10 : Nat) := h
  have h0 : (0 : Int) ≤ x % (2 ^ 10 : Nat) := Int.emod_nonneg _ (by decide)
  rw [h', tmod_eq h0]
  refine ⟨((x % (2 ^ 10 : Nat)) % (d : Int)).toNat, ?_, ?_⟩
  · have := Int.emod_lt_of_pos (x % (2 ^ 10 : Nat)) (show (0 : Int) < d by omega)
    have := Int.emod_nonneg (x % (2 ^ 10 : Nat)) (show (d : Int) ≠ 0 by omega)
    omega
  · have := Int.emod_nonneg (x % (2 ^ 10 : Nat)) (show (d : Int) ≠ 0 by omega)
    omega
theorem mixes_eq {k : Nat} (K : Bool → Option X) (hk : 300000 < k) (body : List Int) (x : Int) (half : Bool) : f6 k K (by8 body) x half = K true := by
  unfold f6 f6_A f6_T
  refine (alive_eq _ (by omega)).trans ?_
  simp only [Bool.not_true, cond_false, by8_length, bif_dec]
  split
  · rfl
  rename_i hb
  obtain ⟨r, hr, hx⟩ := masked x 6 (by decide)
  obtain ⟨e1, e2⟩ := sh32 r (by omega)
  rw [show ((6 : Nat) : Int) = 6 from rfl] at hx
  simp only [hx, Int.toNat_natCast, e1, e2]
  refine (grdT (decide_eq_true (by omega))).trans ?_
  refine (new_eq _ _).trans ?_
  rw [mst_len (by omega)]
  refine (cut_eq _ (by omega) body (by omega) _ _).trans ?_
  obtain ⟨hR, hc, hp⟩ := put_step body (by omega) 0 (r + 1) (by omega) (.inr rfl)
  rw [show ((0 : Nat) : Int) = 0 from rfl] at hR hc hp
  simp only [Nat.zero_mul, Nat.zero_add, List.take_zero] at hc hp
  rw [hc]
  have e3 : List.take (part body 0 ((16 * 2 ^ (r + 1) : Nat) : Int)).length (List.drop 0 (by8 (part body 0 ((16 * 2 ^ (r + 1) : Nat) : Int)))) = by8 (part body 0 ((16 * 2 ^ (r + 1) : Nat) : Int)) := by
    rw [List.drop_zero, take_all _ _ (by rw [by8_length]; exact Nat.le_refl _)]
  simp only [e3]
  refine (put_eq _ (by omega) (body.length : Int) false [] (part body 0 ((16 * 2 ^ (r + 1) : Nat) : Int)) 0 ((16 * 2 ^ (r + 1) : Nat) : Int) (decide (16 * 2 ^ (r + 1) < body.length)) ⟨by omega, by omega⟩ (by simp)).trans ?_
  have hp' : put (body.length : Int) false [] 0 (decide (16 * 2 ^ (r + 1) < body.length)) ((16 * 2 ^ (r + 1) : Nat) : Int) (part body 0 ((16 * 2 ^ (r + 1) : Nat) : Int)) = (!decide (16 * 2 ^ (r + 1) < body.length), 0, decide (16 * 2 ^ (r + 1) < body.length), body.take (16 * 2 ^ (r + 1))) := (if_pos rfl).trans hp
  rw [hp']
  simp only [Bool.not_true, bne_self_eq_false, cond_false]
  have hne : ∀ b : Bool, ((!b) == b) = false := fun b => by cases b <;> rfl
  rw [hne]
  simp only [cond_false]
  obtain ⟨z1, z2⟩ := sz (show r + 1 ≤ 6 by omega)
  cases half
  · simp only [cond_false]
    have := mixes_loop (k0 := k) K hk body (by omega) (r + 1) (by omega) k 1 (!decide (16 * 2 ^ (r + 1) < body.length)) (decide (16 * 2 ^ (r + 1) < body.length)) (by omega) (fun e => by simpa using e) (fun e => by simpa using e)
    simp only [Nat.one_mul] at this
    exact this
  · simp only [cond_true]
    have hpw : 2 * (16 * 2 ^ r) = 16 * 2 ^ (r + 1) := by rw [Nat.pow_succ]; omega
    have := mixes_loop (k0 := k) K hk body (by omega) r (by omega) k 2 (!decide (16 * 2 ^ (r + 1) < body.length)) (decide (16 * 2 ^ (r + 1) < body.length)) (by omega) (fun e => by rw [hpw]; simpa using e) (fun e => by rw [hpw]; simpa using e)
    rw [hpw] at this
    exact this
end
end Go.Proofs.YtidniahglagllaaD
