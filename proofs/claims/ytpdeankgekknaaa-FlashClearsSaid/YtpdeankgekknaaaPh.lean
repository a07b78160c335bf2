/- A flash: but by an erase no bit is ever set: the law. -/
import Derived.Test.YtpdeankgekknaaaPg
namespace Go.Proofs.YtpdeankgekknaaaD
open Go Go.Proofs.YtpdeankgekknaaaS Go.Proofs
set_option linter.unusedVariables false
set_option linter.unusedSimpArgs false
section
variable {X : Type}
theorem incU_zero (r : List Int) : incU r 0 = r := rfl
theorem over2 {k0 : Nat} (K : Bool → Option X) (rec1 : List CV × Int × Int × Nat × Int × Nat × Int × Int × Bool × List CV × List CV → Option X) (C F M W : List Int) (ops dat : List CV) (len idx kd A Bn sec l e : Int) (t : Nat) (d : Bool) (h : Cl C F) (hC : C.length ≤ 262144) (hM : M.length ≤ 300000) (hk : 300000 < k0) (he : e ≠ 0 → e ≠ 30 → F = C) (hkd : kd = 0 ∨ F = C) :
    iterV (f4_L2 (fun X => @f7 X k0) (fun X => @f13 X k0) (fun X => @f8 X k0) (fun X => @f14 X k0) (fun X => @f15 X k0) (fun X => @f16 X k0) (fun X => @f9 X k0) (fun X => @f17 X k0) (fun X => @f18 X k0) k0 K rec1) k0 (C.length, e, M.length, ops, len, idx, (M.length : Int), ((0 : Nat) : Int), kd, A, Bn, dat, by8 C, by8 (incU M 0), F.length, sec, W.length, (t : Int), l, d, by8 F, by64 W) = rec1 (ops, len, IntKind.wrap .i64 (idx + 1), F.length, sec, W.length, (t : Int), l, d, by8 F, by64 W) := by
  refine iterV_spec (T := f4_L2 (fun X => @f7 X k0) (fun X => @f13 X k0) (fun X => @f8 X k0) (fun X => @f14 X k0) (fun X => @f15 X k0) (fun X => @f16 X k0) (fun X => @f9 X k0) (fun X => @f17 X k0) (fun X => @f18 X k0) k0 K rec1) (fun i => (C.length, e, M.length, ops, len, idx, (M.length : Int), (i : Int), kd, A, Bn, dat, by8 C, by8 (incU M i), F.length, sec, W.length, (t : Int), l, d, by8 F, by64 W)) (fun _ => rec1 (ops, len, IntKind.wrap .i64 (idx + 1), F.length, sec, W.length, (t : Int), l, d, by8 F, by64 W)) M.length (fun i rec hi hr => ?_) (fun rec => ?_) k0 0 (Nat.zero_le _) (by omega)
  · unfold f4_L2 f4_T2
    simp only [decLt, decide_eq_true hi, cond_true, dec0, grd_true, Int.toNat_natCast, Nat.zero_add, by8_get, incU_get M i i hi, Option.map_some, Option.bind_some, isI_int, toI_int, hi, decide_true, by8_length, incU_length, by8_set]
    rw [← hr]
    rw [wrap64_s (by omega)]
    rfl
  · unfold f4_L2 f4_T2
    simp only [decLt, Nat.lt_irrefl, decide_false, cond_false]
    refine (image_eq _ sec l F W t d (by rw [h.len]; omega)).trans ?_
    exact chk3 K rec1 C F F W ops dat len idx kd A Bn sec l e t d h hC hk he hkd
theorem over4 {k0 : Nat} (K : Bool → Option X) (rec1 : List CV × Int × Int × Nat × Int × Nat × Int × Int × Bool × List CV × List CV → Option X) (C F M W : List Int) (ops dat : List CV) (len idx kd A Bn sec l e : Int) (t : Nat) (d : Bool) (h : Cl C F) (hC : C.length ≤ 262144) (hM : M.length ≤ 300000) (hk : 300000 < k0) (he : e ≠ 0 → e ≠ 30 → F = C) (hkd : kd = 0 ∨ F = C) :
    iterV (f4_L4 (fun X => @f7 X k0) (fun X => @f13 X k0) (fun X => @f8 X k0) (fun X => @f14 X k0) (fun X => @f15 X k0) (fun X => @f16 X k0) (fun X => @f9 X k0) (fun X => @f17 X k0) (fun X => @f18 X k0) k0 K rec1) k0 (C.length, M.length, e, ops, len, idx, (M.length : Int), ((0 : Nat) : Int), kd, A, Bn, dat, by8 C, by8 (incU M 0), F.length, sec, W.length, (t : Int), l, d, by8 F, by64 W) = rec1 (ops, len, IntKind.wrap .i64 (idx + 1), F.length, sec, W.length, (t : Int), l, d, by8 F, by64 W) := by
  refine iterV_spec (T := f4_L4 (fun X => @f7 X k0) (fun X => @f13 X k0) (fun X => @f8 X k0) (fun X => @f14 X k0) (fun X => @f15 X k0) (fun X => @f16 X k0) (fun X => @f9 X k0) (fun X => @f17 X k0) (fun X => @f18 X k0) k0 K rec1) (fun i => (C.length, M.length, e, ops, len, idx, (M.length : Int), (i : Int), kd, A, Bn, dat, by8 C, by8 (incU M i), F.length, sec, W.length, (t : Int), l, d, by8 F, by64 W)) (fun _ => rec1 (ops, len, IntKind.wrap .i64 (idx + 1), F.length, sec, W.length, (t : Int), l, d, by8 F, by64 W)) M.length (fun i rec hi hr => ?_) (fun rec => ?_) k0 0 (Nat.zero_le _) (by omega)
  · unfold f4_L4 f4_T4
    simp only [decLt, decide_eq_true hi, cond_true, dec0, grd_true, Int.toNat_natCast, Nat.zero_add, by8_get, incU_get M i i hi, Option.map_some, Option.bind_some, isI_int, toI_int, hi, decide_true, by8_length, incU_length, by8_set]
    rw [← hr]
    rw [wrap64_s (by omega)]
    rfl
  · unfold f4_L4 f4_T4
    simp only [decLt, Nat.lt_irrefl, decide_false, cond_false]
    refine (image_eq _ sec l F W t d (by rw [h.len]; omega)).trans ?_
    exact chk5 K rec1 C F F W ops dat len idx kd A Bn sec l e t d h hC hk he hkd
abbrev Opv := Int × Int × Int × List Int
def opv (p : Opv) : CV := .agg [.int .i64 p.1, .int .i64 p.2.1, .int .i64 p.2.2.1, .slc none (by8 p.2.2.2)]
theorem opv_a (p : Opv) : CV.isA 4 (opv p) = true := rfl
theorem opv_0 (p : Opv) : CV.cellD 0 (opv p) = .int .i64 p.1 := rfl
theorem opv_1 (p : Opv) : CV.cellD 1 (opv p) = .int .i64 p.2.1 := rfl
theorem opv_2 (p : Opv) : CV.cellD 2 (opv p) = .int .i64 p.2.2.1 := rfl
theorem opv_3 (p : Opv) : CV.cellD 3 (opv p) = .slc none (by8 p.2.2.2) := rfl
theorem steps_eq {k0 : Nat} (K : Bool → Option X) (hk : 300000 < k0) (all : List Opv) (hall : ∀ p ∈ all, p.2.2.2.length ≤ 3000 ∧ p.2.1 < 9223372036854775808) (z : Int) : ∀ (k i : Nat) (B W : List Int) (t : Nat) (l : Int) (d : Bool), all.length - i < k → all.length ≤ 30 → B.length ≤ 262144 → t ≤ 1073741824 → l < 9223372036854775808 →
    iterV (f4_L1 (fun X => @f7 X k0) (fun X => @f13 X k0) (fun X => @f8 X k0) (fun X => @f14 X k0) (fun X => @f15 X k0) (fun X => @f16 X k0) (fun X => @f9 X k0) (fun X => @f17 X k0) (fun X => @f18 X k0) k0 K) k (all.map opv, (all.length : Int), (i : Int), B.length, z, W.length, (t : Int), l, d, by8 B, by64 W) = K true
  | 0, i, B, W, t, l, d, h, _, _, _, _ => by omega
  | k + 1, i, B, W, t, l, d, h, h30, hB, ht, hl => by
    have ih := fun B W t l d h1 h2 h3 h4 h5 => steps_eq (k0 := k0) K hk all hall z k (i + 1) B W t l d h1 h2 h3 h4 h5
    show f4_L1 _ _ _ _ _ _ _ _ _ k0 K (iterV (f4_L1 (fun X => @f7 X k0) (fun X => @f13 X k0) (fun X => @f8 X k0) (fun X => @f14 X k0) (fun X => @f15 X k0) (fun X => @f16 X k0) (fun X => @f9 X k0) (fun X => @f17 X k0) (fun X => @f18 X k0) k0 K) k) _ = _
    generalize iterV (f4_L1 (fun X => @f7 X k0) (fun X => @f13 X k0) (fun X => @f8 X k0) (fun X => @f14 X k0) (fun X => @f15 X k0) (fun X => @f16 X k0) (fun X => @f9 X k0) (fun X => @f17 X k0) (fun X => @f18 X k0) k0 K) k = rc at ih ⊢
    unfold f4_L1 f4_T1
    by_cases hi : i < all.length
    · have g : (all.map opv)[i]? = some (opv all[i]) := by rw [List.getElem?_map, List.getElem?_eq_getElem hi]; rfl
      obtain ⟨hp, hpa⟩ := hall all[i] (List.getElem_mem hi)
      generalize all[i] = p at g hp hpa
      simp only [decLt, decide_eq_true hi, cond_true, dec0, grd_true, Int.toNat_natCast, g, Option.bind_some, opv_a, opv_0, opv_1, opv_2, opv_3, isI_int, isL_slc, toI_int, toL_slc]
      refine (image_eq _ z l B W t d (by omega)).trans ?_
      simp only []
      by_cases h0 : p.1 = 0
      · rw [h0]
        refine (bifT rfl).trans ?_
        refine (copy_eq _ p.2.2.2 (by omega) (by omega)).trans ?_
        simp only [take_drop0]
        obtain ⟨D, e, l', t', d', hcl, he, ht', hl', hP⟩ := prog_cl (k := k0) p.2.1 p.2.2.2 z l B W t d hk hB ht hl
        refine (hP _ _).trans ?_
        simp only [fl]
        have := over2 K rc B D p.2.2.2 W (all.map opv) (by8 p.2.2.2) (all.length : Int) (i : Int) 0 p.2.1 p.2.2.1 z l' e t' d' hcl hB (by omega) hk he (.inl rfl)
        refine Eq.trans this ?_
        rw [wrap64_s (by omega)]
        exact ih D W t' l' d' (by omega) h30 (by rw [hcl.len]; omega) ht' hl'
      refine (bifF (beq_f h0)).trans ?_
      by_cases h2 : p.1 = 2
      · rw [h2]
        refine (bifT rfl).trans ?_
        refine (read_eq _ p.2.1 p.2.2.1 z l B W t d (by omega)).trans ?_
        simp only []
        have hrl : (rdV B d p.2.1 p.2.2.1).length ≤ 300000 := by
          unfold rdV; split
          · rw [List.length_take, List.length_drop]; omega
          · simp
        have := over4 K rc B B (rdV B d p.2.1 p.2.2.1) W (all.map opv) (by8 p.2.2.2) (all.length : Int) (i : Int) 2 p.2.1 p.2.2.1 z l (rdE B d p.2.1 p.2.2.1) t d (Cl.refl B) hB hrl hk (fun _ _ => rfl) (.inr rfl)
        refine Eq.trans this ?_
        rw [wrap64_s (by omega)]
        exact ih B W t l d (by omega) h30 hB ht hl
      refine (bifF (beq_f h2)).trans ?_
      by_cases h3 : p.1 = 3
      · rw [h3]
        refine (bifT rfl).trans ?_
        refine (cut_eq _ p.2.1 z l B W t d).trans ?_
        simp only [fl]
        have hl2 : (if (-1) > p.2.1 then (-1) else p.2.1) < 9223372036854775808 := by split <;> omega
        generalize (if (-1) > p.2.1 then (-1) else p.2.1) = l2 at hl2 ⊢
        refine (image_eq _ z l2 B W t d (by omega)).trans ?_
        simp only []
        have := chk6 K rc B B B W (all.map opv) (by8 p.2.2.2) (all.length : Int) (i : Int) 3 p.2.1 p.2.2.1 z l2 t d (Cl.refl B) hB hk (.inr rfl)
        refine Eq.trans this ?_
        rw [wrap64_s (by omega)]
        exact ih B W t l2 d (by omega) h30 hB ht hl2
      refine (bifF (beq_f h3)).trans ?_
      by_cases h4 : p.1 = 4
      · rw [h4]
        refine (bifT rfl).trans ?_
        refine (restore_eq _ z l B W t d).trans ?_
        simp only []
        refine (image_eq _ z (-1) B W t false (by omega)).trans ?_
        simp only []
        have := chk7 K rc B B B W (all.map opv) (by8 p.2.2.2) (all.length : Int) (i : Int) 4 p.2.1 p.2.2.1 z (-1) t false (Cl.refl B) hB hk (.inr rfl)
        refine Eq.trans this ?_
        rw [wrap64_s (by omega)]
        exact ih B W t (-1) false (by omega) h30 hB ht (by omega)
      refine (bifF (beq_f h4)).trans ?_
      rw [wrap64_s (by omega)]
      exact ih B W t l d (by omega) h30 hB ht hl
    · simp only [decLt]
      rw [decide_eq_false hi]
      rfl
/-- Are steps few, of few bytes? -/
def smB : Nat → List Opv → Bool
  | n, [] => true
  | n, p :: l => if (p.2.2.2.length : Int) > 3000 - n then false else smB (n + p.2.2.2.length) l
theorem smB_len : ∀ (l : List Opv) (n : Nat), smB n l = true → ∀ p ∈ l, p.2.2.2.length ≤ 3000
  | [], n, _, p, hp => by simp at hp
  | q :: l, n, h, p, hp => by
    unfold smB at h
    split at h
    · cases h
    · rcases List.mem_cons.1 hp with rfl | hp
      · omega
      · exact smB_len l _ h p hp
theorem small_loop {k0 : Nat} (K : Bool → Option X) (all : List Opv) (hm : all.length ≤ 30) : ∀ (k i n : Nat), all.length - i < k → n ≤ 3000 → iterV (f13_L1 k0 K) k ((n : Int), all.map opv, (all.length : Int), (i : Int)) = K (smB n (all.drop i))
  | 0, i, n, h, _ => by omega
  | k + 1, i, n, h, hn => by
    have ih := fun n h1 h2 => small_loop (k0 := k0) K all hm k (i + 1) n h1 h2
    show f13_L1 k0 K (iterV (f13_L1 k0 K) k) _ = _
    generalize iterV (f13_L1 k0 K) k = rc at ih ⊢
    unfold f13_L1 f13_T1
    by_cases hi : i < all.length
    · have g : (all.map opv)[i]? = some (opv all[i]) := by rw [List.getElem?_map, List.getElem?_eq_getElem hi]; rfl
      rw [List.drop_eq_getElem_cons hi]
      generalize all[i] = p at g
      simp only [decLt, decide_eq_true hi, cond_true, dec0, grd_true, Int.toNat_natCast, g, Option.bind_some, opv_a, opv_0, opv_1, opv_2, opv_3, isI_int, isL_slc, toI_int, toL_slc, by8_length]
      rw [wrap64 (n := 3000 - (n : Int)) (by omega) (by omega), bif_dec]
      unfold smB
      by_cases hb : (p.2.2.2.length : Int) > 3000 - (n : Int)
      · rw [if_pos hb, if_pos hb]
      · rw [if_neg hb, if_neg hb, wrap64_s (by omega), wrap64 (n := (n : Int) + (p.2.2.2.length : Int)) (by omega) (by omega)]
        have := ih (n + p.2.2.2.length) (by omega) (by omega)
        rw [show ((n + p.2.2.2.length : Nat) : Int) = (n : Int) + (p.2.2.2.length : Int) by simp] at this
        exact this
    · rw [List.drop_eq_nil_of_le (by omega)]
      simp only [decLt]
      rw [decide_eq_false hi]
      rfl
theorem clears_law {k : Nat} (K : Bool → Option X) (hk : 400000 < k) (x y : Int) (all : List Opv) (hall : ∀ p ∈ all, p.2.1 < 9223372036854775808) : f4 k K x y (all.map opv) = K true := by
  have h1 := sN_b x
  have h2 := zN_b y
  have hb := sz_b x y
  unfold f4 f4_A f4_T
  refine (alive_eq _ hk).trans ?_
  simp only [Bool.not_true, cond_false, List.length_map, bif_dec]
  split
  · rfl
  split
  · rfl
  unfold f13 f13_A f13_T
  simp only [List.length_map]
  by_cases h30 : (all.length : Int) > 30
  · rw [decide_eq_true h30]; rfl
  rw [decide_eq_false h30]
  simp only [cond_false]
  have hsm := small_loop (k0 := k) (fun u4 => bif !u4 then K true else f8 k (fun u5 => iterV (f4_L1 (fun X => @f7 X k) (fun X => @f13 X k) (fun X => @f8 X k) (fun X => @f14 X k) (fun X => @f15 X k) (fun X => @f16 X k) (fun X => @f9 X k) (fun X => @f17 X k) (fun X => @f18 X k) k K) k (all.map opv, (all.length : Int), 0, u5.1, u5.2.1, u5.2.2.1, 0, (-1), false, u5.2.2.2.1, u5.2.2.2.2)) x y) all (by omega) k 0 0 (by omega) (by omega)
  refine Eq.trans ?_ (hsm.trans ?_)
  · rfl
  rw [List.drop_zero]
  cases hs : smB 0 all with
  | false => rfl
  | true =>
    simp only [Bool.not_true, cond_false]
    refine (new_eq _ hk x y).trans ?_
    have hlen : (List.replicate (sN x * zN y) (255 : Int)).length = sN x * zN y := by simp
    have hW : (List.replicate (sN x) (0 : Int)).length = sN x := by simp
    generalize List.replicate (sN x * zN y) (255 : Int) = B at hlen ⊢
    generalize List.replicate (sN x) (0 : Int) = W at hW ⊢
    simp only []
    rw [← hlen, ← hW]
    exact steps_eq (k0 := k) K (by omega) all (fun p hp => ⟨smB_len all 0 hs p hp, hall p hp⟩) (zN y : Int) k 0 B W 0 (-1) false (by omega) (by omega) (by omega) (by omega) (by omega)
theorem law_clears (x0 : Int) (_ : (Lit.int .i64 x0).wf = true) (x1 : Int) (_ : (Lit.int .i64 x1).wf = true) (x2 : List (Int × Int × Int × List Int × Unit)) (w2 : x2.length ≤ maxLen ∧ ∀ x ∈ x2, (Lit.int .i64 x.1).wf = true ∧ (Lit.int .i64 x.2.1).wf = true ∧ (Lit.int .i64 x.2.2.1).wf = true ∧ (x.2.2.2.1.length ≤ maxLen ∧ ∀ y ∈ x.2.2.2.1, (Lit.int .u8 y).wf = true) ∧ True) :
    ∃ k, ∀ K : Bool → Option Out, f4 k K x0 x1 (x2.map fun x => .agg [.int .i64 x.1, .int .i64 x.2.1, .int .i64 x.2.2.1, .slc none (x.2.2.2.1.map fun y => .int .u8 y)]) = K true := ⟨400001, fun K => by
  have h := clears_law (k := 400001) K (by omega) x0 x1 (x2.map fun x => (x.1, x.2.1, x.2.2.1, x.2.2.2.1)) (fun p hp => by
    obtain ⟨x, hx, rfl⟩ := List.mem_map.1 hp
    exact (wf64 (w2.2 x hx).2.1).2)
  rw [List.map_map] at h
  exact h⟩
end
end Go.Proofs.YtpdeankgekknaaaD
