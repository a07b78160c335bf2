/- Blocks: the laws on values and on rows of blocks. -/
import Derived.Test.YtidniahglagllaaPc
namespace Go.Proofs.YtidniahglagllaaD
open Go Go.Proofs.YtidniahglagllaaS Go.Proofs
set_option linter.unusedVariables false
set_option linter.unusedSimpArgs false
section
variable {X : Type}
theorem same_self {k : Nat} (K : Bool → Option X) (n : Nat) (a : List Int) (hn : n = a.length) (hk : a.length < k) (hl : a.length < 4611686018427387904) : f15 k K (List.take n (List.drop 0 (by8 a))) (List.take n (List.drop 0 (by8 a))) = K true := by
  rw [List.drop_zero, take_all _ _ (by rw [by8_length, hn]; exact Nat.le_refl _)]
  refine (same_eq K a a hk hl).trans ?_
  rw [decide_eq_true rfl]
theorem rd_blk (bs : List Int) : ∃ n m z, (rd bs).1 = blk n m z := by
  unfold rd
  split
  · exact ⟨_, _, _, rfl⟩
  · exact ⟨_, _, _, rfl⟩
theorem wr_bytes (n : Int) (m : Bool) (z : Int) : ∃ bs : List Int, bs.length ≤ 8 ∧ (wr n m z).1 = bs.length ∧ (wr n m z).2.2 = by8 bs := by
  unfold wr
  split
  · exact ⟨_, be_len _, rfl, rfl⟩
  · exact ⟨[], by simp, rfl, rfl⟩
theorem ct_bytes (body : List Int) (n z : Int) (h : body.length ≤ 100000) : ∃ bs : List Int, bs.length ≤ 100000 ∧ (ct body n z).1 = bs.length ∧ (ct body n z).2.2.2 = by8 bs := by
  unfold ct
  split
  · exact ⟨_, by unfold part; simp; omega, rfl, rfl⟩
  · exact ⟨[], by simp, rfl, rfl⟩
theorem values_eq {k : Nat} (K : Bool → Option X) (hk : 300000 < k) (n z : Int) (m : Bool) (val body : List Int) (hv : Byt val) : f3 k K (blk n m z) (by8 val) (by8 body) = K true := by
  unfold f3 f3_A f3_T
  simp only [blk_a, blk_0, blk_1, blk_2, isI_int, isB_bool, toI_int, toB_bool, grd_true]
  rw [alive_eq _ (by omega)]
  simp only [Bool.not_true, cond_false, by8_length, bif_dec]
  split
  · rfl
  split
  · rfl
  rename_i hb
  refine (write_eq _ (by omega) n z m).trans ?_
  refine (as_eq _ n z m).trans ?_
  refine (refWrite_eq _ (by omega) n z m).trans ?_
  refine (read_eq _ (by omega) val hv).trans ?_
  obtain ⟨a, b, c, hrd⟩ := rd_blk val
  simp only [hrd, blk_a, blk_0, blk_1, blk_2, isI_int, isB_bool, toI_int, toB_bool, grd_true]
  refine (refRead_eq _ (by omega) val hv).trans ?_
  simp only [hrd, blk_a, blk_0, blk_1, blk_2, isI_int, isB_bool, toI_int, toB_bool, grd_true]
  refine (cut_eq _ (by omega) body (by omega) n z).trans ?_
  refine (refCut_eq _ (by omega) body (by omega) n z).trans ?_
  simp only [beq_self_eq_true, cond_true]
  obtain ⟨w1, hw1, hw2, hw3⟩ := wr_bytes n m z
  obtain ⟨c1, hc1, hc2, hc3⟩ := ct_bytes body n z (by omega)
  rw [hw2, hw3, hc2, hc3]
  refine (same_self _ _ w1 rfl (by omega) (by omega)).trans ?_
  simp only [cond_true]
  refine (as_eq _ a c b).trans ?_
  simp only [blk_a, blk_0, blk_1, blk_2, isI_int, isB_bool, toI_int, toB_bool, grd_true, beq_self_eq_true, Bool.and_self, cond_true]
  refine (same_self _ _ c1 rfl (by omega) (by omega)).trans ?_
  simp only [cond_true]
/-- A block with its bytes, as a value of the law's. -/
def pce (p : (Int × Bool × Int) × List Int) : CV := .agg [.int .i64 p.1.1, .bool p.1.2.1, .int .i64 p.1.2.2, .slc none (by8 p.2)]
theorem pce_a (p : (Int × Bool × Int) × List Int) : CV.isA 4 (pce p) = true := rfl
theorem pce_0 (p : (Int × Bool × Int) × List Int) : CV.cellD 0 (pce p) = .int .i64 p.1.1 := rfl
theorem pce_1 (p : (Int × Bool × Int) × List Int) : CV.cellD 1 (pce p) = .bool p.1.2.1 := rfl
theorem pce_2 (p : (Int × Bool × Int) × List Int) : CV.cellD 2 (pce p) = .int .i64 p.1.2.2 := rfl
theorem pce_3 (p : (Int × Bool × Int) × List Int) : CV.cellD 3 (pce p) = .slc none (by8 p.2) := rfl
def tot (ps : List ((Int × Bool × Int) × List Int)) : Nat := (ps.map fun p => p.2.length).sum
theorem tot_cons (p : (Int × Bool × Int) × List Int) (ps) : tot (p :: ps) = p.2.length + tot ps := rfl
theorem put_len (most : Int) (on : Bool) (B : List Int) (n : Int) (m : Bool) (z : Int) (data : List Int) : (put most on B n m z data).2.2.2.length ≤ B.length + data.length := by
  unfold put putR
  split <;> split <;> simp
/-- Of each row of blocks every answer is the same. -/
theorem plays_loop {k0 : Nat} (K : Bool → Option X) (hk : 300000 < k0) (all : List ((Int × Bool × Int) × List Int)) (most : Int) : ∀ (k i : Nat) (on : Bool) (B : List Int), all.length - i < k → B.length + tot (all.drop i) ≤ 6000 → all.length ≤ 30 →
    iterV (f4_L2 (fun X => @f7 X k0) (fun X => @f16 X k0) (fun X => @f17 X k0) (fun X => @f18 X k0) (fun X => @f10 X k0) (fun X => @f19 X k0) (fun X => @f20 X k0) (fun X => @f21 X k0) (fun X => @f15 X k0) k0 K) k (all.map pce, (all.length : Int), (i : Int), mst most, B.length, on, by8 B, mst most, B.length, on, by8 B) = K true
  | 0, i, on, B, h, _, _ => by omega
  | k + 1, i, on, B, h, hB, hal => by
    have hm := mst_b most
    show f4_L2 _ _ _ _ _ _ _ _ _ k0 K (iterV _ k) _ = _
    unfold f4_L2 f4_T2
    simp only [decLt]
    by_cases hi : i < all.length
    · rw [decide_eq_true hi]
      have g : (all.map pce)[i]? = some (pce all[i]) := by rw [List.getElem?_map, List.getElem?_eq_getElem hi]; rfl
      have hd : all.drop i = all[i] :: all.drop (i + 1) := List.drop_eq_getElem_cons hi
      rw [hd, tot_cons] at hB
      generalize hp : all[i] = p at g hB
      simp only [cond_true, dec0, grd_true, Int.toNat_natCast, g, Option.bind_some, pce_a, pce_0, pce_1, pce_2, pce_3, isI_int, isB_bool, isL_slc, toI_int, toB_bool, toL_slc]
      refine (put_eq _ (by omega) (mst most) on B p.2 p.1.1 p.1.2.2 p.1.2.1 hm (by omega)).trans ?_
      refine (as_eq _ p.1.1 p.1.2.2 p.1.2.1).trans ?_
      have e0 : CV.slc none (List.take B.length (List.drop 0 (by8 B))) = CV.slc none (by8 B) := by
        rw [List.drop_zero, take_all _ _ (by rw [by8_length]; exact Nat.le_refl _)]
      simp only [e0]
      refine (refPut_eq _ (mst most) on B p.2 p.1.1 p.1.2.2 p.1.2.1 hm (by omega) (by omega) (by omega)).trans ?_
      have hpl := put_len (mst most) on B p.1.1 p.1.2.1 p.1.2.2 p.2
      generalize put (mst most) on B p.1.1 p.1.2.1 p.1.2.2 p.2 = r at hpl
      obtain ⟨r1, r2, r3, r4⟩ := r
      simp only [beq_self_eq_true, Bool.not_true, cond_false, bne_self_eq_false]
      refine (got_eq _ (mst most) r3 r4).trans ?_
      simp only [bne_self_eq_false, cond_false]
      refine (bytes_eq _ (mst most) r3 r4 (by simp only [] at hpl; omega)).trans ?_
      simp only []
      refine (same_self _ _ r4 rfl (by simp only [] at hpl; omega) (by simp only [] at hpl; omega)).trans ?_
      simp only [Bool.not_true, cond_false]
      rw [wrap64_s (by omega)]
      exact plays_loop K hk all most k (i + 1) r3 r4 (by omega) (by simp only [] at hpl; omega) hal
    · rw [decide_eq_false hi]
      rfl
theorem plays_eq {k : Nat} (K : Bool → Option X) (most : Int) (all : List ((Int × Bool × Int) × List Int)) (hl : ∀ p ∈ all, p.2.length ≤ maxLen) (hk : 300000 + all.length < k) (ha : all.length ≤ maxLen) : f4 k K most (all.map pce) = K true := by
  unfold f4 f4_A f4_T
  have hM := maxLen_lt
  refine (alive_eq _ (by omega)).trans ?_
  simp only [Bool.not_true, cond_false, List.length_map]
  -- the bytes of all
  have key : ∀ (j i S : Nat), i + j = all.length → S ≤ 6000 → S = tot (all.take i) → ∀ n, j < n →
      iterV (f4_L1 (fun X => @f7 X k) (fun X => @f16 X k) (fun X => @f17 X k) (fun X => @f18 X k) (fun X => @f10 X k) (fun X => @f19 X k) (fun X => @f20 X k) (fun X => @f21 X k) (fun X => @f15 X k) k K) n (most, all.map pce, (S : Int), all.map pce, (all.length : Int), (i : Int)) = K true := by
    intro j
    induction j with
    | zero =>
      intro i S hij hS hSt n hn
      obtain ⟨n, rfl⟩ : ∃ q, n = q + 1 := ⟨n - 1, by omega⟩
      show f4_L1 _ _ _ _ _ _ _ _ _ k K (iterV _ n) _ = _
      unfold f4_L1 f4_T1
      simp only [decLt, List.length_map]
      rw [decide_eq_false (by omega)]
      simp only [cond_false, bif_dec]
      split
      · rfl
      · rename_i h30
        refine (new_eq _ most).trans ?_
        refine (refNew_eq _ most).trans ?_
        have := plays_loop (k0 := k) K (by omega) all most k 0 false [] (by omega) (by rw [List.drop_zero]; rw [List.take_of_length_le (by omega)] at hSt; simp; omega) (by omega)
        exact this
    | succ j ih =>
      intro i S hij hS hSt n hn
      obtain ⟨n, rfl⟩ : ∃ q, n = q + 1 := ⟨n - 1, by omega⟩
      show f4_L1 _ _ _ _ _ _ _ _ _ k K (iterV _ n) _ = _
      unfold f4_L1 f4_T1
      have hi : i < all.length := by omega
      have g : (all.map pce)[i]? = some (pce all[i]) := by rw [List.getElem?_map, List.getElem?_eq_getElem hi]; rfl
      have hpm := hl all[i] (List.getElem_mem hi)
      have htk : tot (all.take (i + 1)) = tot (all.take i) + all[i].2.length := by
        unfold tot
        rw [← List.take_append_getElem hi, List.map_append, List.sum_append]; simp
      generalize hp : all[i] = p at g hpm htk
      simp only [decLt, decide_eq_true hi, cond_true, dec0, grd_true, Int.toNat_natCast, g, Option.bind_some, pce_a, pce_0, pce_1, pce_2, pce_3, isI_int, isB_bool, isL_slc, toI_int, toB_bool, toL_slc, by8_length]
      rw [wrap64 (n := 6000 - (S : Int)) (by omega) (by omega), bif_dec]
      split
      · rfl
      · rw [wrap64_s (by omega), wrap64 (n := (S : Int) + (p.2.length : Int)) (by omega) (by omega)]
        have := ih (i + 1) (S + p.2.length) (by omega) (by omega) (by omega) n (by omega)
        have e : ((S + p.2.length : Nat) : Int) = (S : Int) + (p.2.length : Int) := by simp
        rw [e] at this
        exact this
  exact key all.length 0 0 (by omega) (by omega) (by simp [tot]) k (by omega)
end
end Go.Proofs.YtidniahglagllaaD
