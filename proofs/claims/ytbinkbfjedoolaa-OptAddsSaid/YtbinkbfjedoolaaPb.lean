/- Numbers; options added, looked up, left out: the laws. -/
import Derived.Test.YtbinkbfjedoolaaPa
namespace Go.Proofs.YtbinkbfjedoolaaD
open Go Go.Proofs.YtbinkbfjedoolaaS Go.Proofs
set_option linter.unusedVariables false
set_option linter.unusedSimpArgs false
section
variable {X : Type}
theorem leF_last : ∀ (f n : Nat), 0 < n → n < 256 ^ f → ∃ A d, Uin.leF f n = A ++ [d] ∧ d ≠ 0
  | 0, n, h, h2 => by simp at h2; omega
  | f + 1, n, h, h2 => by
    unfold Uin.leF
    rw [if_neg (by omega)]
    by_cases h3 : n / 256 = 0
    · refine ⟨[], ((n % 256 : Nat) : Int), ?_, by omega⟩
      rw [h3]
      have : Uin.leF f 0 = [] := by cases f <;> simp [Uin.leF]
      rw [this]; rfl
    · obtain ⟨A, d, e, hd⟩ := leF_last f (n / 256) (by omega) (by rw [Nat.pow_succ] at h2; omega)
      exact ⟨((n % 256 : Nat) : Int) :: A, d, by rw [e]; rfl, hd⟩
theorem be_head (n : Nat) (h : 0 < n) (h2 : n < 9223372036854775808) : ∃ d t, Uin.be n = d :: t ∧ d ≠ 0 := by
  obtain ⟨A, d, e, hd⟩ := leF_last 8 n h (Nat.lt_of_lt_of_le h2 (by decide))
  refine ⟨d, A.reverse, ?_, hd⟩
  unfold Uin.be
  rw [e, List.reverse_append]; rfl
theorem uint_neg {k : Nat} (K : Nat × List CV → Option X) (hk : 100 < k) (n : Int) (hn : n ≤ 0) : f18 k K n = K (0, []) := by
  obtain ⟨k, rfl⟩ : ∃ j, k = j + 60 := ⟨k - 60, by omega⟩
  unfold f18 f18_A f18_T
  refine (iterV_one _ _ _).trans ?_
  unfold f18_L1 f18_T1
  dsimp only
  refine (bifF (decide_eq_false (by omega))).trans ?_
  kernel_rfl
theorem numbers_eq {k : Nat} (K : Bool → Option X) (hk : 1000000 < k) (n : Int) (hn : n < 9223372036854775808) : f6 k K n = K true := by
  unfold f6 f6_A f6_T
  refine (alive_eq _ (by omega)).trans ?_
  refine (bifF rfl).trans ?_
  by_cases h0 : n ≤ 0
  · refine (uint_neg _ (by omega) n h0).trans ?_
    dsimp only
    refine (Uin.number_eq _ (by omega) [] Byt.nil).trans ?_
    rw [if_neg (by simp)]
    dsimp only
    refine (bifT (decide_eq_true h0)).trans ?_
    refine (bifT rfl).trans ?_
    refine (bifT rfl).trans ?_
    rfl
  · obtain ⟨m, rfl⟩ : ∃ m : Nat, n = m := ⟨n.toNat, by omega⟩
    have hm : m < 9223372036854775808 := by omega
    refine (Uin.uint_eq _ (by omega) m hm).trans ?_
    dsimp only
    rw [d8]
    refine (Uin.number_eq _ (by omega) _ (Uin.be_byt m)).trans ?_
    have hle := Uin.be_len m
    have hnum := Uin.numN_be m hm
    by_cases h7 : (Uin.be m).length > 7
    · rw [if_pos h7]
      dsimp only
      refine (bifF (decide_eq_false h0)).trans ?_
      have hbig : ¬ m < 72057594037927936 := fun h => by
        have := Uin.be_len_le 7 m (by simpa using h)
        omega
      refine (bifT (decide_eq_true (by omega))).trans ?_
      refine (bifT rfl).trans ?_
      refine (bifT rfl).trans ?_
      have : (Uin.be m).length = 8 := by omega
      rw [this]; rfl
    · rw [if_neg h7]
      dsimp only
      refine (bifF (decide_eq_false h0)).trans ?_
      have hsm : m < 72057594037927936 := by
        have h1 := Uin.numN_lt _ (Uin.be_byt m)
        rw [hnum] at h1
        exact Nat.lt_of_lt_of_le h1 (Nat.pow_le_pow_right (by decide) (by omega : (Uin.be m).length ≤ 7))
      refine (bifF (decide_eq_false (by omega))).trans ?_
      refine (bifT rfl).trans ?_
      refine (bifT (by rw [hnum]; exact beq_self_eq_true _)).trans ?_
      obtain ⟨d, t, e, hd⟩ := be_head m (by omega) hm
      rw [e]
      refine (grdT (decide_eq_true (by simp))).trans ?_
      refine (bAt (c := .int .u8 d) rfl _).trans ?_
      refine (grdT rfl).trans ?_
      have : ((CV.toI (CV.int .u8 d)) != 0) = true := by simpa [CV.toI] using hd
      rw [this]
/-- One more option. -/
def pG (num : Int) (o : Op) : Bool := decide (num < o.1)
theorem ins_ix (num : Int) (v : List Int) : ∀ (l : List Op) (i : Nat), ins (num, v) l = match ixf (pG num) i l with
    | some j => l.take (j - i) ++ (num, v) :: l.drop (j - i)
    | none => l ++ [(num, v)]
  | [], i => rfl
  | b :: l, i => by
    unfold ins ixf
    by_cases h : num < b.1
    · rw [if_pos h]
      have : pG num b = true := decide_eq_true h
      rw [this]
      simp
    · rw [if_neg h]
      have : pG num b = false := decide_eq_false h
      rw [this, ins_ix num v l (i + 1)]
      simp only [Bool.false_eq_true, if_false]
      cases e : ixf (pG num) (i + 1) l with
      | none => rfl
      | some j =>
        have := (ixf_some e).1
        simp only
        rw [show j - i = (j - (i + 1)) + 1 by omega]
        rfl
theorem gt_eq {k : Nat} (K : Bool → Option X) (o : Op) (num : Int) : f35 k K (opv o) num = K (pG num o) := by
  refine Eq.trans (b := K (decide (o.1 > num))) ?_ rfl
  kernel_rfl
theorem ixA_eq {k : Nat} (K : Int → Option X) (l : List Op) (num : Int) (hk : l.length < k) (hl : l.length < 1000000) : f34 k K (ops l) num = K (ixI (ixf (pG num) 0 l)) := by
  refine ixLoop0 (T := f34_L1 (fun X => @f35 X k) k K) (fun i => (ops l, num, ((ops l).length : Int), (i : Int))) (pG num) l K (fun i rec h => ?_) (fun rec => ?_) k hk
  · unfold f34_L1 f34_T1
    dsimp only
    refine (bifT (decide_eq_true (by rw [ops_length]; omega))).trans ?_
    refine (grdT (dec0 _)).trans ?_
    rw [Int.toNat_natCast]
    refine (bAt (ops_nth l i h) _).trans ?_
    refine (gt_eq _ _ _).trans ?_
    rw [wrap64_s (by omega)]
  · unfold f34_L1 f34_T1
    dsimp only
    exact bifF (decide_eq_false (by rw [ops_length]; omega))
theorem copied_eq {k : Nat} (K : Int × Nat × List CV → Option X) (o : Op) (h : o.2.length < 100000) : f36 k K (opv o) = K (o.1, o.2.length, by8 o.2) := by
  have e : f36 k K (opv o) = f38 k (fun u => K (o.1, List.length u, List.take (0 + List.length u) u)) (by8 o.2) := by kernel_rfl
  rw [e, clone_eq _ _ (by rw [by8_length]; omega), by8_length, t8]
theorem insert_eq {k : Nat} (K : Nat × List CV → Option X) (xs : List CV) (y : CV) (j : Nat) (hj : j ≤ xs.length) (hl : xs.length < 100000) : f37 k K xs.length (j : Int) [y] xs = K (xs.length + 1, xs.take j ++ y :: xs.drop j) := by
  unfold f37
  by_cases h : j = xs.length
  · subst h
    refine (bifT (beq_self_eq_true _)).trans ?_
    unfold f37e f37e_A f37e_T
    refine (grdT (dec0 _)).trans ?_
    refine (grdT (decide_eq_true (Int.le_refl _))).trans ?_
    refine (grdT (decide_eq_true (Int.le_refl _))).trans ?_
    refine (bifF rfl).trans ?_
    refine (bifT (beq_self_eq_true _)).trans ?_
    refine (grdT (decide_eq_true (by simp; omega))).trans ?_
    rw [List.take_length, List.drop_length, Nat.zero_add, List.take_of_length_le (by simp)]
    rfl
  · refine (bifF (by simp; omega)).trans ?_
    dsimp only
    refine (grdT (decide_eq_true (by omega))).trans ?_
    refine (grdT (decide_eq_true (by omega))).trans ?_
    refine (grdT (decide_eq_true (Nat.le_refl _))).trans ?_
    refine (grdT (decide_eq_true (by omega))).trans ?_
    rw [Int.toNat_natCast, List.take_length]
def toP (o : Op) : List CV := [opv o]
theorem addL {k : Nat} (K : Nat × List CV → Option X) (L : List Op) (v : List Int) (num : Int) (at' : Nat) (hk : 1000 < k) (hL : L.length ≤ 1000) (ha : at' ≤ L.length) (hv : v.length < 100000) (hvs : ∀ o ∈ L, o.2.length < 100000) :
    iterV (f20_L1 (fun X => @f34 X k) (fun X => @f36 X k) (fun X => @f38 X k) (fun X => @f37 X k) k K) k (by8 v, (at' : Int), 0, ops L, ((ops L).length : Int), 0, num, []) = K (L.length + 1, ops (L.take at' ++ (num, v) :: L.drop at')) := by
  refine iterV_spec (T := f20_L1 (fun X => @f34 X k) (fun X => @f36 X k) (fun X => @f38 X k) (fun X => @f37 X k) k K) (fun i => (by8 v, (at' : Int), i, ops L, ((ops L).length : Int), (i : Int), num, ops (L.take i))) (fun _ => K (L.length + 1, ops (L.take at' ++ (num, v) :: L.drop at'))) L.length (fun i rec h hr => ?_) (fun rec => ?_) k 0 (Nat.zero_le _) (by omega)
  · unfold f20_L1 f20_T1
    dsimp only
    refine (bifT (decide_eq_true (by rw [ops_length]; omega))).trans ?_
    refine (grdT (dec0 _)).trans ?_
    rw [Int.toNat_natCast]
    refine (bAt (ops_nth L i h) _).trans ?_
    refine (grdT rfl).trans ?_
    refine (grdT rfl).trans ?_
    refine (grdT rfl).trans ?_
    refine (copied_eq _ L[i] (hvs _ (List.getElem_mem _))).trans ?_
    dsimp only
    refine (grdT (decide_eq_true (by simp; omega))).trans ?_
    rw [wrap64_s (by omega)]
    have e1 : List.take 1 (List.drop 0 [CV.agg [CV.int .i64 L[i].1, CV.slc none (List.take L[i].2.length (List.drop 0 (by8 L[i].2)))]]) = ops [L[i]] := by rw [d8]; rfl
    rw [e1]
    have e2 : List.take i (ops (L.take i)) ++ ops [L[i]] = ops (L.take (i + 1)) := by
      rw [List.take_of_length_le (by rw [ops_length, List.length_take]; omega), ← ops_append, List.take_append_getElem h]
    rw [e2]
    exact hr
  · unfold f20_L1 f20_T1
    dsimp only
    refine (bifF (decide_eq_false (by rw [ops_length]; omega))).trans ?_
    refine (clone_eq _ _ (by rw [by8_length]; omega)).trans ?_
    have e1 : List.take 1 (List.drop 0 [CV.agg [CV.int .i64 num, CV.slc none (List.take (List.length (by8 v)) (List.drop 0 (by8 v)))]]) = [opv (num, v)] := by rw [by8_length, d8]; rfl
    rw [e1, List.take_length]
    have := insert_eq (k := k) (fun u13 => K (u13.1, List.take (0 + u13.1) u13.2)) (ops L) (opv (num, v)) at' (by rw [ops_length]; exact ha) (by rw [ops_length]; omega)
    rw [ops_length] at this
    refine this.trans ?_
    dsimp only
    rw [Nat.zero_add, List.take_of_length_le (by simp [ops_length]; omega)]
    congr 2
    simp [ops, List.map_take, List.map_drop]
theorem optAdd_eq {k : Nat} (K : Nat × List CV → Option X) (L : List Op) (v : List Int) (num : Int) (hk : 1000 < k) (hL : L.length ≤ 1000) (hv : v.length < 100000) (hvs : ∀ o ∈ L, o.2.length < 100000) :
    f20 k K (ops L) num (by8 v) = K (L.length + 1, ops (ins (num, v) L)) := by
  unfold f20 f20_A f20_T
  refine (ixA_eq _ L num (by omega) (by omega)).trans ?_
  unfold f20_J1
  have hi := ins_ix num v L 0
  cases e : ixf (pG num) 0 L with
  | none =>
    rw [e] at hi
    refine (bifT rfl).trans ?_
    rw [hi, ops_length]
    have := addL K L v num L.length hk hL (Nat.le_refl _) hv hvs
    rw [List.take_length, List.drop_length] at this
    rw [← ops_length] at this ⊢
    exact this
  | some j =>
    rw [e] at hi
    have hj := ixf_some e
    refine (bifF (decide_eq_false (show ¬ ((j : Int) < 0) by omega))).trans ?_
    rw [hi]
    simp only [Nat.sub_zero]
    exact addL K L v num j hk hL (by omega) hv hvs
def vals (vs : List (List Int)) : List CV := vs.map fun v => CV.slc none (by8 v)
theorem vals_length (vs : List (List Int)) : (vals vs).length = vs.length := by simp [vals]
def allV (num : Int) (l : List Op) : List (List Int) := (l.filter fun o => o.1 == num).map (·.2)
theorem all_eq {k : Nat} (K : Nat × List CV → Option X) (L : List Op) (num : Int) (hk : 1000 < k) (hL : L.length ≤ 1000) (hvs : ∀ o ∈ L, o.2.length < 100000) :
    f21 k K (ops L) num = K ((allV num L).length, vals (allV num L)) := by
  unfold f21 f21_A f21_T
  have hlen : ∀ i, (allV num (L.take i)).length ≤ L.length := fun i => by
    unfold allV; rw [List.length_map]; exact Nat.le_trans (List.length_filter_le _ _) (by rw [List.length_take]; omega)
  refine (iterV_spec (T := f21_L1 (fun X => @f38 X k) k K) (fun i => (num, (allV num (L.take i)).length, ops L, ((ops L).length : Int), (i : Int), vals (allV num (L.take i)))) (fun _ => K ((allV num L).length, vals (allV num L))) L.length (fun i rec h hr => ?_) (fun rec => ?_) k 0 (Nat.zero_le _) (by omega))
  · unfold f21_L1 f21_T1 f21_J1
    dsimp only
    have := hlen i
    refine (bifT (decide_eq_true (by rw [ops_length]; omega))).trans ?_
    refine (grdT (dec0 _)).trans ?_
    rw [Int.toNat_natCast]
    refine (bAt (ops_nth L i h) _).trans ?_
    refine (grdT rfl).trans ?_
    refine (grdT rfl).trans ?_
    refine (grdT rfl).trans ?_
    rw [opvI, opvL, wrap64_s (by omega)]
    have hs : L.take (i + 1) = L.take i ++ [L[i]] := (List.take_append_getElem h).symm
    by_cases hn : L[i].1 = num
    · refine (bifT (by rw [hn]; exact beq_self_eq_true _)).trans ?_
      refine (clone_eq _ _ (by rw [by8_length]; have := hvs _ (List.getElem_mem h); omega)).trans ?_
      refine (grdT (decide_eq_true (by simp; omega))).trans ?_
      rw [by8_length, d8]
      have e1 : allV num (L.take (i + 1)) = allV num (L.take i) ++ [L[i].2] := by
        unfold allV
        rw [hs, List.filter_append, List.map_append, List.filter_cons_of_pos (by rw [hn]; exact beq_self_eq_true _)]; rfl
      rw [e1] at hr
      have e2 : List.take (allV num (L.take i)).length (vals (allV num (L.take i))) = vals (allV num (L.take i)) := List.take_of_length_le (by rw [vals_length]; exact Nat.le_refl _)
      rw [e2]
      have e3 : vals (allV num (L.take i)) ++ List.take 1 (List.drop 0 [CV.slc none (by8 L[i].2)]) = vals (allV num (L.take i) ++ [L[i].2]) := by simp [vals]
      rw [e3]
      rw [List.length_append] at hr
      exact hr
    · refine (bifF (beq_eq_false_iff_ne.2 hn)).trans ?_
      have e1 : allV num (L.take (i + 1)) = allV num (L.take i) := by
        unfold allV
        rw [hs, List.filter_append, List.filter_cons_of_neg (by simpa using hn)]; simp
      rw [e1] at hr
      exact hr
  · unfold f21_L1 f21_T1
    dsimp only
    refine (bifF (decide_eq_false (by rw [ops_length]; omega))).trans ?_
    rw [List.take_length, Nat.zero_add, List.take_of_length_le (by rw [vals_length]; exact Nat.le_refl _)]
def without (num : Int) (l : List Op) : List Op := l.filter fun o => o.1 != num
theorem without_eq {k : Nat} (K : Nat × List CV → Option X) (L : List Op) (num : Int) (hk : 1000 < k) (hL : L.length ≤ 1000) (hvs : ∀ o ∈ L, o.2.length < 100000) :
    f22 k K (ops L) num = K ((without num L).length, ops (without num L)) := by
  unfold f22 f22_A f22_T
  have hlen : ∀ i, (without num (L.take i)).length ≤ L.length := fun i => by
    unfold without; exact Nat.le_trans (List.length_filter_le _ _) (by rw [List.length_take]; omega)
  refine (iterV_spec (T := f22_L1 (fun X => @f36 X k) k K) (fun i => (num, (without num (L.take i)).length, ops L, ((ops L).length : Int), (i : Int), ops (without num (L.take i)))) (fun _ => K ((without num L).length, ops (without num L))) L.length (fun i rec h hr => ?_) (fun rec => ?_) k 0 (Nat.zero_le _) (by omega))
  · unfold f22_L1 f22_T1 f22_J1
    dsimp only
    have := hlen i
    refine (bifT (decide_eq_true (by rw [ops_length]; omega))).trans ?_
    refine (grdT (dec0 _)).trans ?_
    rw [Int.toNat_natCast]
    refine (bAt (ops_nth L i h) _).trans ?_
    refine (grdT rfl).trans ?_
    refine (grdT rfl).trans ?_
    refine (grdT rfl).trans ?_
    rw [opvI, wrap64_s (by omega)]
    have hs : L.take (i + 1) = L.take i ++ [L[i]] := (List.take_append_getElem h).symm
    by_cases hn : L[i].1 = num
    · refine (bifF (by rw [hn]; simp)).trans ?_
      have e1 : without num (L.take (i + 1)) = without num (L.take i) := by
        unfold without
        rw [hs, List.filter_append, List.filter_cons_of_neg (by simpa using hn)]; simp
      rw [e1] at hr
      exact hr
    · refine (bifT (by simpa using hn)).trans ?_
      refine (copied_eq _ L[i] (hvs _ (List.getElem_mem _))).trans ?_
      dsimp only
      refine (grdT (decide_eq_true (by simp; omega))).trans ?_
      have e1 : List.take 1 (List.drop 0 [CV.agg [CV.int .i64 L[i].1, CV.slc none (List.take L[i].2.length (List.drop 0 (by8 L[i].2)))]]) = ops [L[i]] := by rw [d8]; rfl
      rw [e1, tO, ← ops_append]
      have e2 : without num (L.take (i + 1)) = without num (L.take i) ++ [L[i]] := by
        unfold without
        rw [hs, List.filter_append, List.filter_cons_of_pos (by simpa using hn)]; rfl
      rw [e2, List.length_append] at hr
      exact hr
  · unfold f22_L1 f22_T1
    dsimp only
    refine (bifF (decide_eq_false (by rw [ops_length]; omega))).trans ?_
    rw [List.take_length, Nat.zero_add, tO]
theorem allV_flt {l m : List Op} (h : Flt l m) (num : Int) : allV num m = allV num l := by unfold allV; rw [h num]
theorem allV_ins (num : Int) (v : List Int) {l : List Op} (h : Srt l) : allV num (ins (num, v) l) = allV num l ++ [v] := by
  rw [allV_flt (ins_flt (num, v) h)]
  unfold allV
  rw [List.filter_append, List.map_append, List.filter_cons_of_pos (by simp)]; rfl
theorem without_ins (num : Int) (v : List Int) : ∀ (l : List Op), without num (ins (num, v) l) = without num l
  | [] => by unfold ins without; rw [List.filter_cons_of_neg (by simp)]
  | b :: l => by
    unfold ins
    split
    · unfold without; rw [List.filter_cons_of_neg (by simp)]
    · have := without_ins num v l
      unfold without at this ⊢
      by_cases hb : b.1 = num
      · rw [List.filter_cons_of_neg (by simpa using hb), List.filter_cons_of_neg (by simpa using hb), this]
      · rw [List.filter_cons_of_pos (by simpa using hb), List.filter_cons_of_pos (by simpa using hb), this]
theorem vals_get {vs : List (List Int)} {i : Nat} (h : i < vs.length) : (vals vs)[i]? = some (CV.slc none (by8 vs[i])) := by simp [vals, h]
theorem adds_eq {k : Nat} (K : Bool → Option X) (hk : 1000000 < k) (l : List Op) (num : Int) (v : List Int) : f7 k K (ops l) num (by8 v) = K true := by
  unfold f7 f7_A f7_T
  refine (alive_eq _ (by omega)).trans ?_
  refine (bifF rfl).trans ?_
  refine (fewO_eq _ l (by omega)).trans ?_
  cases h : fewO l with
  | false => exact bifT rfl
  | true =>
    refine (bifF rfl).trans ?_
    have fl := fewO_len h
    by_cases hv : v.length > 400
    · exact bifT (decide_eq_true (by rw [by8_length]; omega))
    refine (bifF (decide_eq_false (by rw [by8_length]; omega))).trans ?_
    have hs := isort_srt l
    have hsl := isort_len l
    have hsv : ∀ o ∈ isort l, o.2.length ≤ 400 := fun o ho => fl.2 o (isort_mem.1 ho)
    refine (sorted_eq _ l (by omega) (fun o ho => by have := fl.2 o ho; omega) (by omega)).trans ?_
    dsimp only
    rw [← hsl, dO]
    refine (optAdd_eq _ (isort l) v num (by omega) (by omega) (by omega) (fun o ho => by have := hsv o ho; omega)).trans ?_
    dsimp only
    have hil := ins_len (num, v) hs
    have his := ins_srt (num, v) hs
    have hiv : ∀ o ∈ ins (num, v) (isort l), o.2.length ≤ 400 := fun o ho => by
      rcases ins_mem ho with rfl | ho
      · show v.length ≤ 400; omega
      · exact hsv o ho
    rw [← hil, dO]
    refine (all_eq _ _ num (by omega) (by omega) (fun o ho => by have := hiv o ho; omega)).trans ?_
    refine (all_eq _ _ num (by omega) (by omega) (fun o ho => by have := hsv o ho; omega)).trans ?_
    dsimp only
    have ha := allV_ins num v hs
    have hal : (allV num (isort l)).length ≤ 40 := by
      unfold allV; rw [List.length_map]; exact Nat.le_trans (List.length_filter_le _ _) (by omega)
    have hav : ∀ x ∈ allV num (isort l), x.length ≤ 400 := fun x hx => by
      unfold allV at hx
      obtain ⟨o, ho, rfl⟩ := List.mem_map.1 hx
      exact hsv o (List.mem_filter.1 ho).1
    refine (bifF (by rw [ops_length, hil, hsl, wrap64_s (by omega)]; simp)).trans ?_
    refine (bifF (by rw [ha, List.length_append, wrap64_s (by omega)]; simp)).trans ?_
    refine (grdT (decide_eq_true (by rw [ha, List.length_append]; simp; omega))).trans ?_
    refine (bAt (c := CV.slc none (by8 v)) (by rw [ha, Nat.zero_add, vals_get (by simp)]; simp) _).trans ?_
    refine (grdT rfl).trans ?_
    refine (same_eq _ v v (by omega) (by omega)).trans ?_
    rw [decide_eq_true rfl]
    refine (bifF rfl).trans ?_
    generalize hA : allV num (isort l) = A at ha hal hav
    generalize hB : allV num (ins (num, v) (isort l)) = B at ha
    have hBl : B.length = A.length + 1 := by rw [ha]; simp
    refine (iterV_spec (fun i => (num, (isort l).length, (ins (num, v) (isort l)).length, B.length, A.length, (A.length : Int), (i : Int), ops (isort l), ops (ins (num, v) (isort l)), vals B, vals A)) (fun _ => K true) A.length (fun i rec hi hr => ?_) (fun rec => ?_) k 0 (Nat.zero_le _) (by omega))
    · unfold f7_L1 f7_T1
      dsimp only
      refine (bifT (decide_eq_true (by omega))).trans ?_
      refine (grdT (dec0 _)).trans ?_
      refine (grdT (decide_eq_true (by omega))).trans ?_
      rw [Int.toNat_natCast, Nat.zero_add]
      refine (bAt (vals_get (by omega : i < B.length)) _).trans ?_
      refine (grdT rfl).trans ?_
      refine (grdT (dec0 _)).trans ?_
      refine (grdT (decide_eq_true (by omega))).trans ?_
      refine (bAt (vals_get hi) _).trans ?_
      refine (grdT rfl).trans ?_
      have e : B[i]'(by omega) = A[i] := by
        have : B[i]? = A[i]? := by rw [ha, List.getElem?_append_left hi]
        rw [List.getElem?_eq_getElem (by omega), List.getElem?_eq_getElem hi] at this
        exact Option.some.inj this
      rw [e]
      have := hav _ (List.getElem_mem hi)
      refine (same_eq _ A[i] A[i] (by omega) (by omega)).trans ?_
      rw [decide_eq_true rfl, wrap64_s (by omega)]
      exact (bifF rfl).trans hr
    · unfold f7_L1 f7_T1
      dsimp only
      refine (bifF (decide_eq_false (by omega))).trans ?_
      rw [dO, dO]
      refine (sorted_eq _ _ (by omega) (fun o ho => by have := hiv o ho; omega) (by omega)).trans ?_
      rw [isort_of his]
      dsimp only
      rw [dO]
      refine (refSameO_eq _ _ _ (by omega) (by omega) (fun o ho => by have := hiv o ho; omega)).trans ?_
      rw [decide_eq_true rfl]
      refine (bifT rfl).trans ?_
      refine (without_eq _ _ num (by omega) (by omega) (fun o ho => by have := hiv o ho; omega)).trans ?_
      refine (without_eq _ _ num (by omega) (by omega) (fun o ho => by have := hsv o ho; omega)).trans ?_
      dsimp only
      rw [without_ins, dO]
      have hwl : (without num (isort l)).length ≤ (isort l).length := List.length_filter_le _ _
      refine (refSameO_eq _ _ _ (by omega) (by omega) (fun o ho => by have := hsv o (List.mem_filter.1 ho).1; omega)).trans ?_
      rw [decide_eq_true rfl]
theorem byt_wf {l : List Int} (w : ∀ y ∈ l, (Lit.int .u8 y).wf = true) : Byt l := fun b hb => by
  have := w b hb
  simp [Lit.wf, IntKind.min, IntKind.max, IntKind.signed, IntKind.bits] at this
  omega
abbrev OpX : Type := List (Int × List Int × Unit)
def WfO (x0 : OpX) : Prop := x0.length ≤ maxLen ∧ ∀ x ∈ x0, (Lit.int .i64 x.1).wf = true ∧ (x.2.1.length ≤ maxLen ∧ ∀ y ∈ x.2.1, (Lit.int .u8 y).wf = true) ∧ True
theorem ops_of (l : OpX) : ops (l.map fun x => (x.1, x.2.1)) = l.map fun x => .agg [.int .i64 x.1, .slc none (x.2.1.map fun y => .int .u8 y)] := by
  unfold ops opv by8
  rw [List.map_map]; rfl
theorem bytO_of {x0 : OpX} (w : WfO x0) : BytO (x0.map fun x => (x.1, x.2.1)) := fun o ho => by
  obtain ⟨x, hx, rfl⟩ := List.mem_map.1 ho
  exact byt_wf (w.2 x hx).2.1.2
theorem law_writes (x0 : OpX) (_ : x0.length ≤ maxLen ∧ ∀ x ∈ x0, (Lit.int .i64 x.1).wf = true ∧ (x.2.1.length ≤ maxLen ∧ ∀ y ∈ x.2.1, (Lit.int .u8 y).wf = true) ∧ True) :
    ∃ k, ∀ K : Bool → Option Out, f3 k K (x0.map fun x => .agg [.int .i64 x.1, .slc none (x.2.1.map fun y => .int .u8 y)]) = K true :=
  ⟨2000000, fun K => by rw [← ops_of]; exact writes_eq K (by omega) _⟩
theorem law_reads (x0 : List Int) (w0 : x0.length ≤ maxLen ∧ ∀ y ∈ x0, (Lit.int .u8 y).wf = true) : ∃ k, ∀ K : Bool → Option Out, f4 k K (x0.map fun y => .int .u8 y) = K true :=
  ⟨2000000, fun K => reads_eq K (by omega) x0 (byt_wf w0.2)⟩
theorem law_back (x0 : OpX) (w0 : x0.length ≤ maxLen ∧ ∀ x ∈ x0, (Lit.int .i64 x.1).wf = true ∧ (x.2.1.length ≤ maxLen ∧ ∀ y ∈ x.2.1, (Lit.int .u8 y).wf = true) ∧ True) (x1 : List Int) (w1 : x1.length ≤ maxLen ∧ ∀ y ∈ x1, (Lit.int .u8 y).wf = true) :
    ∃ k, ∀ K : Bool → Option Out, f5 k K (x0.map fun x => .agg [.int .i64 x.1, .slc none (x.2.1.map fun y => .int .u8 y)]) (x1.map fun y => .int .u8 y) = K true :=
  ⟨2000000, fun K => by rw [← ops_of]; exact back_eq K (by omega) _ (bytO_of w0) x1 (byt_wf w1.2)⟩
theorem law_numbers (x0 : Int) (w0 : (Lit.int .i64 x0).wf = true) : ∃ k, ∀ K : Bool → Option Out, f6 k K x0 = K true :=
  ⟨2000000, fun K => numbers_eq K (by omega) x0 (by
    simp [Lit.wf, IntKind.min, IntKind.max, IntKind.signed, IntKind.bits] at w0
    omega)⟩
theorem law_adds (x0 : OpX) (w0 : x0.length ≤ maxLen ∧ ∀ x ∈ x0, (Lit.int .i64 x.1).wf = true ∧ (x.2.1.length ≤ maxLen ∧ ∀ y ∈ x.2.1, (Lit.int .u8 y).wf = true) ∧ True) (x1 : Int) (_ : (Lit.int .i64 x1).wf = true) (x2 : List Int) (_ : x2.length ≤ maxLen ∧ ∀ y ∈ x2, (Lit.int .u8 y).wf = true) :
    ∃ k, ∀ K : Bool → Option Out, f7 k K (x0.map fun x => .agg [.int .i64 x.1, .slc none (x.2.1.map fun y => .int .u8 y)]) x1 (x2.map fun y => .int .u8 y) = K true :=
  ⟨2000000, fun K => by rw [← ops_of]; exact adds_eq K (by omega) _ x1 x2⟩
end
end Go.Proofs.YtbinkbfjedoolaaD
