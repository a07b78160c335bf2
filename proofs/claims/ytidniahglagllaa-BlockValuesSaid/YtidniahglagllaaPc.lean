/- Blocks that are put together: what each function of the program and of the document answers, in plain words. -/
import Derived.Test.YtidniahglagllaaPb
namespace Go.Proofs.YtidniahglagllaaD
open Go Go.Proofs.YtidniahglagllaaS Go.Proofs
set_option linter.unusedVariables false
set_option linter.unusedSimpArgs false
section
variable {X : Type}
/-- What a block makes of what has come: was it the last one, the error, may one follow, what has come. -/
def putE (most : Int) (on : Bool) (B : List Int) (n : Int) (m : Bool) (z : Int) (data : List Int) : Int :=
  if ¬ Rt n z then 1 else if ¬ (on = true ∧ n.toNat * z.toNat = B.length) then 4 else if (data.length : Int) > z ∨ (m = true ∧ (data.length : Int) < z) then 20 else if (B.length : Int) + data.length > most then 2 else 0
def putR (most : Int) (on : Bool) (B : List Int) (n : Int) (m : Bool) (z : Int) (data : List Int) : Bool × Int × Bool × List Int :=
  if putE most on B n m z data = 0 then (!m, 0, m, B ++ data) else (false, putE most on B n m z data, false, [])
def put (most : Int) (on : Bool) (B : List Int) (n : Int) (m : Bool) (z : Int) (data : List Int) : Bool × Int × Bool × List Int :=
  if n = 0 then putR most true [] n m z data else putR most on B n m z data
theorem fault_eq {k : Nat} (K : Int × Int × Nat × Bool × List CV → Option X) (hk : 100 < k) (most : Int) (on : Bool) (B data : List Int) (n z : Int) (m : Bool) (hm : 0 ≤ most ∧ most ≤ 1048576) (hB : B.length ≤ 1048576) :
    f31 k K (blk n m z) (by8 data) most B.length on (by8 B) = K (putE most on B n m z data, most, B.length, on, by8 B) := by
  unfold f31 f31_A f31_T
  simp only [blk_a, blk_0, blk_1, blk_2, isI_int, isB_bool, toI_int, toB_bool, grd_true]
  rw [right_eq _ hk]
  unfold putE
  have hT : List.take (0 + B.length) (by8 B) = by8 B := take_all _ _ (by simp [by8_length])
  by_cases h : Rt n z
  · obtain ⟨N, s, rfl, hN, hs, rfl, hp⟩ := h.of
    obtain ⟨z1, z2⟩ := sz hs
    rw [decide_eq_true h, if_neg (fun e => e h)]
    generalize hZ : 16 * 2 ^ s = Z at h z1 z2 hp ⊢
    have hmu := mulb hN z2
    simp only [Bool.not_true, cond_false, wmul hN z2, Int.toNat_natCast, hT]
    cases on
    · rw [if_pos (by simp)]; rfl
    simp only [Bool.not_true, cond_false, true_and]
    by_cases hl : ¬ N * Z = B.length
    · rw [if_pos hl]; exact bifT (bne_t (by omega))
    have hl := Decidable.not_not.1 hl
    rw [if_neg (fun e => e hl)]
    rw [show (((N * Z : Nat) : Int) != (B.length : Int)) = false by simp [hl]]
    simp only [cond_false, by8_length]
    have J : ∀ b : Bool, (b = true ↔ ((data.length : Int) > (Z : Int) ∨ (m = true ∧ (data.length : Int) < (Z : Int)))) → f31_J1 (fun X => @f22 X k) k K (by8 data) most (b, B.length, true, by8 B) = K (if (data.length : Int) > (Z : Int) ∨ (m = true ∧ (data.length : Int) < (Z : Int)) then 20 else if (B.length : Int) + data.length > most then 2 else 0, most, B.length, true, by8 B) := fun b hb => by
      unfold f31_J1
      by_cases h20 : (data.length : Int) > (Z : Int) ∨ (m = true ∧ (data.length : Int) < (Z : Int))
      · rw [if_pos h20, hb.2 h20]
        simp only [cond_true, hT]
      · rw [if_neg h20, show b = false by cases b; rfl; exact absurd (hb.1 rfl) h20]
        simp only [cond_false, hT, by8_length]
        rw [wrap64 (by omega) (by omega), bif_dec]
        by_cases h2 : (B.length : Int) + data.length > most
        · rw [if_pos h2, if_pos (by omega)]
        · rw [if_neg h2, if_neg (by omega)]
    cases m
    · simp only [cond_false]
      exact J _ (by simp)
    · simp only [cond_true]
      by_cases hd : (data.length : Int) = (Z : Int)
      · rw [show ((data.length : Int) != (Z : Int)) = false by simp [hd]]
        simp only [cond_false]
        exact (J _ ⟨fun e => Or.inl (of_decide_eq_true e), fun e => decide_eq_true (by rcases e with e | ⟨_, e⟩ <;> omega)⟩).trans (by simp only [true_and])
      · rw [bne_t hd]
        simp only [cond_true]
        exact (J _ ⟨fun _ => (Int.lt_or_gt_of_ne hd).elim (fun e => Or.inr ⟨rfl, e⟩) Or.inl, fun _ => rfl⟩).trans (by simp only [true_and])
  · rw [decide_eq_false h, if_pos h]
    simp only [Bool.not_false, cond_true, hT]
theorem putE_len {most : Int} {on : Bool} {B : List Int} {n : Int} {m : Bool} {z : Int} {data : List Int} (hm : most ≤ 1048576) (h : putE most on B n m z data = 0) : B.length + data.length ≤ 1048576 := by
  unfold putE at h
  split at h
  · exact absurd h (by decide)
  split at h
  · exact absurd h (by decide)
  split at h
  · exact absurd h (by decide)
  split at h
  · exact absurd h (by decide)
  omega
theorem put_eq {k : Nat} (K : Bool × Int × Int × Nat × Bool × List CV → Option X) (hk : 100 < k) (most : Int) (on : Bool) (B data : List Int) (n z : Int) (m : Bool) (hm : 0 ≤ most ∧ most ≤ 1048576) (hB : B.length ≤ 1048576) :
    f18 k K (blk n m z) (by8 data) most B.length on (by8 B) = K ((put most on B n m z data).1, (put most on B n m z data).2.1, most, (put most on B n m z data).2.2.2.length, (put most on B n m z data).2.2.1, by8 (put most on B n m z data).2.2.2) := by
  unfold f18 f18_A f18_T
  simp only [blk_a, blk_0, blk_1, blk_2, isI_int, isB_bool, toI_int, toB_bool, grd_true]
  have J : ∀ (on : Bool) (B : List Int), B.length ≤ 1048576 → f18_J1 (fun X => @f31 X k) k K (blk n m z) (by8 data, most, B.length, on, by8 B) = K ((putR most on B n m z data).1, (putR most on B n m z data).2.1, most, (putR most on B n m z data).2.2.2.length, (putR most on B n m z data).2.2.1, by8 (putR most on B n m z data).2.2.2) := fun on B hB => by
    unfold f18_J1
    simp only [blk_0, blk_1, blk_2, toI_int, toB_bool]
    refine (fault_eq _ hk most on B data n z m hm hB).trans ?_
    unfold putR
    by_cases h : putE most on B n m z data = 0
    · have hlen := putE_len hm.2 h
      rw [if_pos h, h]
      simp only [by8_length]
      refine (grdT (decide_eq_true (by omega))).trans ?_
      rw [take_all (by8 B) _ (by rw [by8_length]; exact Nat.le_refl _), ← by8_append, take_all _ _ (by rw [by8_length, List.length_append]; omega), List.length_append]
    · rw [if_neg h]
      exact bifT (bne_t h)
  unfold put
  by_cases h0 : n = 0
  · rw [if_pos h0]
    refine (bifT (by simp [h0])).trans ?_
    exact J true [] (by simp)
  · rw [if_neg h0]
    refine (bifF (beq_f h0)).trans ?_
    exact J on B hB
theorem got_eq {k : Nat} (K : Int × Int × Nat × Bool × List CV → Option X) (most : Int) (on : Bool) (B : List Int) : f20 k K most B.length on (by8 B) = K ((B.length : Int), most, B.length, on, by8 B) := by
  unfold f20 f20_A f20_T
  rw [take_all _ _ (by simp [by8_length])]
theorem bytes_eq {k : Nat} (K : Nat × Int × Nat × Bool × List CV × List CV → Option X) (most : Int) (on : Bool) (B : List Int) (hB : B.length ≤ 1048576) : f21 k K most B.length on (by8 B) = K (B.length, most, B.length, on, by8 B, by8 B) := by
  unfold f21 f21_A f21_T
  simp only [List.drop_zero]
  rw [take_all (by8 B) B.length (by simp [by8_length])]
  refine (clone_eq _ _ (by rw [by8_length]; omega)).trans ?_
  simp only [by8_length, Nat.zero_add]
  rw [take_all (by8 B) B.length (by simp [by8_length])]
def mst (m : Int) : Int := if m < 0 then 0 else if m > 1048576 then 1048576 else m
theorem mst_b (m : Int) : 0 ≤ mst m ∧ mst m ≤ 1048576 := by unfold mst; split <;> (try split) <;> omega
theorem new_eq {k : Nat} (K : Int × List CV → Option X) (m : Int) : f16 k K m = K (mst m, []) := by
  unfold f16 f16_A f16_T
  refine congrArg K (Prod.ext ?_ rfl)
  show (if (1048576 : Int) < (if 0 > m then 0 else m) then 1048576 else (if 0 > m then 0 else m)) = mst m
  unfold mst
  repeat' split
  all_goals omega
theorem refNew_eq {k : Nat} (K : Int × List CV → Option X) (m : Int) : f17 k K m = K (mst m, []) := by
  unfold f17 f17_A f17_T f17_J2 f17_J1 mst
  simp only [bif_dec]
  repeat' split
  all_goals first | rfl | (exfalso; omega)
/-- What has come, as a value of the document's. -/
def jn (most : Int) (on : Bool) (B : List Int) : CV := .agg [.int .i64 most, .slc none (by8 B), .bool on]
theorem jn_a (a : Int) (b : Bool) (c : List Int) : CV.isA 3 (jn a b c) = true := rfl
theorem jn_0 (a : Int) (b : Bool) (c : List Int) : CV.cellD 0 (jn a b c) = .int .i64 a := rfl
theorem jn_1 (a : Int) (b : Bool) (c : List Int) : CV.cellD 1 (jn a b c) = .slc none (by8 c) := rfl
theorem jn_2 (a : Int) (b : Bool) (c : List Int) : CV.cellD 2 (jn a b c) = .bool b := rfl
theorem refPut_eq {k : Nat} (K : Int × Nat × Bool × Bool × Int × List CV → Option X) (most : Int) (on : Bool) (B data : List Int) (n z : Int) (m : Bool) (hm : 0 ≤ most ∧ most ≤ 1048576) (hB : B.length ≤ 100000) (hd : data.length ≤ 100000) (hk : 200100 < k) :
    f19 k K (jn most on B) (blk n m z) (by8 data) = K (most, (put most on B n m z data).2.2.2.length, (put most on B n m z data).2.2.1, (put most on B n m z data).1, (put most on B n m z data).2.1, by8 (put most on B n m z data).2.2.2) := by
  unfold f19 f19_A f19_T
  simp only [blk_a, blk_0, blk_1, blk_2, jn_a, jn_0, jn_1, jn_2, isI_int, isB_bool, isL_slc, toI_int, toB_bool, toL_slc, grd_true]
  have J : ∀ (on : Bool) (B : List Int) (on' : Bool) (B' : List Int), B.length ≤ 100000 → f19_J2 (fun X => @f25 X k) (fun X => @f32 X k) k K (jn most on' B') (by8 data, by8 B, on, n, m, z) = K (most, (putR most on B n m z data).2.2.2.length, (putR most on B n m z data).2.2.1, (putR most on B n m z data).1, (putR most on B n m z data).2.1, by8 (putR most on B n m z data).2.2.2) := fun on B on' B' hB => by
    unfold f19_J2
    simp only [jn_0, toI_int]
    refine (refRight_eq _ (by omega) _ _).trans ?_
    by_cases h : Rt n z
    · obtain ⟨N, s, rfl, hN, hs, rfl, hp⟩ := h.of
      obtain ⟨z1, z2⟩ := sz hs
      rw [decide_eq_true h]
      generalize hZ : 16 * 2 ^ s = Z at h z1 z2 hp ⊢
      have hmu := mulb hN z2
      simp only [Bool.not_true, cond_false, wmul hN z2, Int.toNat_natCast, by8_length]
      by_cases h4 : ¬ (on = true ∧ N * Z = B.length)
      · have hE : putE most on B (N : Int) m (Z : Int) data = 4 := by
          unfold putE
          rw [if_neg (fun e => e h)]
          exact if_pos h4
        rw [putR, hE]
        cases on
        · rfl
        · simp only [Bool.not_true, cond_false]
          exact bifT (bne_t (by intro e; exact h4 ⟨rfl, by omega⟩))
      have h4' := Decidable.not_not.1 h4
      obtain ⟨rfl, hl⟩ := h4'
      simp only [Bool.not_true, cond_false, hl]
      rw [show ((B.length : Int) != (B.length : Int)) = false by simp]
      simp only [cond_false]
      have J1 : ¬ ((data.length : Int) > (Z : Int) ∨ (m = true ∧ (data.length : Int) < (Z : Int))) → f19_J1 (fun X => @f25 X k) (fun X => @f32 X k) k K (by8 data, by8 B, true, (N : Int), m, (Z : Int)) (jn most on' B') () = if (B.length : Int) + data.length > most then K (most, 0, false, false, 2, []) else K (most, (B ++ data).length, m, !m, 0, by8 (B ++ data)) := fun h20 => by
        unfold f19_J1
        simp only [jn_0, toI_int, by8_length]
        rw [wrap64 (by omega) (by omega), bif_dec]
        split
        · rfl
        · refine (join_eq (k := k) _ [B, data] (by simp; omega) (by simp; omega) (by simp)).trans ?_
          simp only [Nat.zero_add, List.flatten_cons, List.flatten_nil, List.append_nil]
          rw [take_all _ _ (by rw [by8_length]; exact Nat.le_refl _)]
      by_cases h20 : (data.length : Int) > (Z : Int) ∨ (m = true ∧ (data.length : Int) < (Z : Int))
      · have hE : putE most true B (N : Int) m (Z : Int) data = 20 := by
          unfold putE
          rw [if_neg (fun e => e h), if_neg (show ¬¬(true = true ∧ (N : Int).toNat * (Z : Int).toNat = B.length) from h4)]
          exact if_pos h20
        rw [putR, hE]
        by_cases hg : (data.length : Int) > (Z : Int)
        · rw [decide_eq_true hg]; rfl
        · rw [decide_eq_false hg]
          rcases h20 with h20 | ⟨rfl, h20⟩
          · exact absurd h20 hg
          · simp only [cond_false, cond_true]
            rw [decide_eq_true h20]; rfl
      · have hE : putE most true B (N : Int) m (Z : Int) data = if (B.length : Int) + data.length > most then 2 else 0 := by
          unfold putE
          rw [if_neg (fun e => e h), if_neg (show ¬¬(true = true ∧ (N : Int).toNat * (Z : Int).toNat = B.length) from h4)]
          exact if_neg h20
        rw [putR, hE]
        rw [decide_eq_false (fun e => h20 (Or.inl e))]
        simp only [cond_false]
        have e : (bif m then (bif decide ((data.length : Int) < (Z : Int)) then K (most, 0, false, false, 20, List.take 0 []) else f19_J1 (fun X => @f25 X k) (fun X => @f32 X k) k K (by8 data, by8 B, true, (N : Int), m, (Z : Int)) (jn most on' B') ()) else f19_J1 (fun X => @f25 X k) (fun X => @f32 X k) k K (by8 data, by8 B, true, (N : Int), m, (Z : Int)) (jn most on' B') ()) = f19_J1 (fun X => @f25 X k) (fun X => @f32 X k) k K (by8 data, by8 B, true, (N : Int), m, (Z : Int)) (jn most on' B') () := by
          cases m
          · rfl
          · rw [decide_eq_false (fun e => h20 (Or.inr ⟨rfl, e⟩))]; rfl
        refine e.trans ((J1 h20).trans ?_)
        split <;> rfl
    · have hE : putE most on B n m z data = 1 := by
        unfold putE
        rw [if_pos h]
      rw [decide_eq_false h, putR, hE]
      rfl
  unfold put
  by_cases h0 : n = 0
  · rw [if_pos h0]
    refine (bifT (by simp [h0])).trans ?_
    exact J true [] on B (by simp)
  · rw [if_neg h0]
    refine (bifF (beq_f h0)).trans ?_
    exact J on B on B hB
theorem alive_eq {k : Nat} (K : Bool → Option X) (hk : 100 < k) : f7 k K = K true := by
  obtain ⟨k, rfl⟩ : ∃ j, k = j + 40 := ⟨k - 40, by omega⟩
  kernel_rfl
theorem as_eq {k : Nat} (K : CV → Option X) (n z : Int) (m : Bool) : f10 k K (blk n m z) = K (blk n m z) := by
  unfold f10 f10_A f10_T
  simp only [blk_a, blk_0, blk_1, blk_2, isI_int, isB_bool, toI_int, toB_bool, grd_true]
  rfl
end
end Go.Proofs.YtidniahglagllaaD
