/- Of the last eight that were kept each is found. -/
import Derived.Test.YtpgmebpkagbmoaaPb
namespace Go.Proofs.YtpgmebpkagbmoaaD
open Go Go.Proofs.YtpgmebpkagbmoaaS Go.Proofs
set_option linter.unusedVariables false
set_option linter.unusedSimpArgs false
section
variable {X : Type}
theorem bop_and (a : Int) (m : Nat) (hm : m < 9223372036854775808) : 0 ≤ bop .and .i64 a (m : Int) ∧ bop .and .i64 a (m : Int) ≤ m := by
  have h : (BitVec.ofInt 64 a &&& BitVec.ofInt 64 (m : Int)).toNat ≤ m := by
    rw [BitVec.toNat_and]
    refine Nat.le_trans Nat.and_le_right ?_
    rw [BitVec.toNat_ofInt]
    omega
  have e : bop .and .i64 a (m : Int) = IntKind.wrap .i64 (((BitVec.ofInt 64 a &&& BitVec.ofInt 64 (m : Int)).toNat : Nat) : Int) := rfl
  rw [e, wrap64 (by omega) (by omega)]
  omega
def nx (o : Stp4) : Int := bop .and .i64 o.2.2.2.1 31
theorem nx_le (o : Stp4) : 0 ≤ nx o ∧ nx o ≤ 31 := bop_and _ 31 (by decide)
structure LS where
  now : Int
  off : Nat
  L : List Kp
def LS.ks (s : LS) : List Kp := s.L.drop s.off
def LS.next (s : LS) (o : Stp4) : LS :=
  ⟨s.now + nx o, if (refAt s.ks o.2.1 o.2.2.1 (s.now + nx o) o.2.2.2.2.1).length > 8 then 1 else 0, refAt s.ks o.2.1 o.2.2.1 (s.now + nx o) o.2.2.2.2.1⟩
def lv (x : Kp) : CV := opv (0, x.f, x.i, x.a, x.r, ())
def lrow (ks : List Kp) : List CV := ks.map lv
theorem lrow_length (ks : List Kp) : (lrow ks).length = ks.length := by simp [lrow]
theorem lrow_get (ks : List Kp) (i : Nat) : (lrow ks)[i]? = ks[i]?.map lv := by simp [lrow]
theorem lrow_append (a b : List Kp) : lrow (a ++ b) = lrow a ++ lrow b := by simp [lrow]
def Sorted (ks : List Kp) : Prop := ks.Pairwise (fun x y => x.a ≤ y.a)
structure Fine (s : LS) (n : Nat) : Prop where
  good : Good s.ks
  sorted : Sorted s.ks
  at_ : ∀ x ∈ s.ks, 0 ≤ x.a ∧ x.a ≤ s.now
  now0 : 0 ≤ s.now
  now1 : s.now ≤ 31 * n
  off : s.off ≤ s.L.length
theorem cl_id {n : Int} (h0 : 0 ≤ n) (h1 : n ≤ 1099511627776) : cl n = n := by
  unfold cl
  rw [if_neg (by omega : ¬ (0 : Int) > n), if_neg (by omega)]
theorem elUp_sorted {L : List Kp} (h : Sorted L) : ∀ i, i ≤ L.length → elUp L i = 0
  | 0, _ => rfl
  | i + 1, hi => by
    unfold elUp
    rw [elUp_sorted h i (by omega)]
    rw [if_neg]
    have h0 : 0 < L.length := by omega
    simp only [List.getD_eq_getElem?_getD, List.getElem?_eq_getElem h0, List.getElem?_eq_getElem (show i < L.length by omega), Option.getD_some]
    rcases Nat.eq_zero_or_pos i with hz | hz
    · subst hz; omega
    · have := List.pairwise_iff_getElem.1 h 0 i h0 (by omega) hz
      omega
theorem Fine.refAt_sorted {s : LS} {n : Nat} (h : Fine s n) (hn : n < 1000) (o : Stp4) : Sorted (refAt s.ks o.2.1 o.2.2.1 (s.now + nx o) o.2.2.2.2.1) ∧ ∀ x ∈ refAt s.ks o.2.1 o.2.2.1 (s.now + nx o) o.2.2.2.2.1, 0 ≤ x.a ∧ x.a ≤ s.now + nx o := by
  have hx := nx_le o
  have h0 := h.now0
  have h1 := h.now1
  have hc : cl (s.now + nx o) = s.now + nx o := cl_id (by omega) (by omega)
  unfold refAt
  constructor
  · refine List.pairwise_append.2 ⟨List.Pairwise.sublist List.filter_sublist h.sorted, List.pairwise_singleton _ _, fun x hx' y hy => ?_⟩
    simp only [List.mem_singleton] at hy
    subst hy
    have := h.at_ x (List.mem_filter.1 hx').1
    simp only [hc]; omega
  · intro x hx'
    rcases List.mem_append.1 hx' with h2 | h2
    · have := h.at_ x (List.mem_filter.1 h2).1; omega
    · simp only [List.mem_singleton] at h2
      subst h2
      simp only [hc]; omega
theorem Fine.keep {s : LS} {n : Nat} (h : Fine s n) (hn : n < 1000) (o : Stp4) : refKeep s.ks o.2.1 o.2.2.1 (s.now + nx o) o.2.2.2.2.1 = (s.next o).ks := by
  have hs := (h.refAt_sorted hn o).1
  unfold refKeep LS.ks LS.next
  simp only
  by_cases h8 : (refAt s.ks o.2.1 o.2.2.1 (s.now + nx o) o.2.2.2.2.1).length ≤ 8
  · have h9 : ¬ ((refAt s.ks o.2.1 o.2.2.1 (s.now + nx o) o.2.2.2.2.1).length > 8) := by omega
    unfold LS.ks at *
    rw [if_pos h8, if_neg h9, List.drop_zero]
  · have h9 : ((refAt s.ks o.2.1 o.2.2.1 (s.now + nx o) o.2.2.2.2.1).length > 8) := by omega
    unfold LS.ks at *
    rw [if_neg h8, if_pos h9, elUp_sorted hs _ (Nat.le_refl _), List.eraseIdx_zero, ← List.drop_one]
theorem Fine.step {s : LS} {n : Nat} (h : Fine s n) (hn : n < 1000) {o : Stp4} (ho : o.2.2.2.2.1.length ≤ 200) : Fine (s.next o) (n + 1) := by
  have hx := nx_le o
  obtain ⟨hs, hm⟩ := h.refAt_sorted hn o
  have hk := h.keep hn o
  have h0 := h.now0
  have h1 := h.now1
  have hsub : (s.next o).ks.Sublist (refAt s.ks o.2.1 o.2.2.1 (s.now + nx o) o.2.2.2.2.1) := List.drop_sublist _ _
  refine ⟨?_, List.Pairwise.sublist hsub hs, fun x hx' => hm x (hsub.subset hx'), ?_, ?_, ?_⟩
  · rw [← hk]
    exact ⟨refKeep_uniq h.good.uniq _ _ _ _, refKeep_length h.good.len _ _ _ _, fun x hx => (refKeep_mem hx).elim (h.good.rep x) (fun e => by subst e; exact ho)⟩
  · show 0 ≤ s.now + nx o; omega
  · show s.now + nx o ≤ 31 * ((n + 1 : Nat) : Int); omega
  · show (if _ then 1 else 0) ≤ (refAt s.ks o.2.1 o.2.2.1 (s.now + nx o) o.2.2.2.2.1).length
    split <;> omega
theorem find_self {ks : List Kp} (h : Uniq ks) {j : Nat} (hj : j < ks.length) (now : Int) : findP ks ks[j].f ks[j].i now = if fr now ks[j] then some ks[j].r else none := by
  have : ks.find? (is ks[j].f ks[j].i) = some ks[j] := by
    rw [List.find?_eq_some_iff_getElem]
    refine ⟨by simp [is], j, hj, rfl, fun i hi => ?_⟩
    have := List.pairwise_iff_getElem.1 h i j (by omega) hj hi
    simp only [is, Bool.not_eq_eq_eq_not, Bool.not_true, Bool.and_eq_false_iff, beq_eq_false_iff_ne]
    rcases Decidable.not_and_iff_or_not.1 this with h | h
    · exact .inl h
    · exact .inr h
  unfold findP
  rw [this]
theorem lv_isA (x : Kp) : CV.isA 5 (lv x) = true := rfl
theorem lv_0 (x : Kp) : CV.cellD 0 (lv x) = .int .i64 0 := rfl
theorem lv_1 (x : Kp) : CV.cellD 1 (lv x) = .int .i64 x.f := rfl
theorem lv_2 (x : Kp) : CV.cellD 2 (lv x) = .int .i64 x.i := rfl
theorem lv_3 (x : Kp) : CV.cellD 3 (lv x) = .int .i64 x.a := rfl
theorem lv_4 (x : Kp) : CV.cellD 4 (lv x) = .slc none (by8 x.r) := rfl
theorem lv_eq (x : Kp) : CV.agg [CV.int .i64 0, CV.int .i64 x.f, CV.int .i64 x.i, CV.int .i64 x.a, CV.slc none (by8 x.r)] = lv x := rfl
theorem over_eq {k : Nat} (K : Bool → Option X) (rec1 : Int × Int × Nat × Nat × List CV × Int × Int × List CV × Nat × List CV → Option X) (x1 now : Int) (off len : Nat) (ops : List CV) (nops i : Int) (L : List CV) (kind f id onow : Int) (r : List CV) (nc : Nat) (c : List CV) (m : List Int) (hm : m.length < k) (hl : m.length ≤ 200) :
    iterV (f4_L2 k K rec1) k (x1, now, off, len, m.length, ops, nops, i, (m.length : Nat), 0, L, kind, f, id, onow, r, by8 m, nc, c) = iterV (f4_L3 k K rec1) k (x1, now, 0, ops, nops, i, off, len, (len : Nat), 0, L, kind, f, id, onow, r, [], nc, c) := by
  refine iterV_spec (T := f4_L2 k K rec1) (fun j => (x1, now, off, len, m.length, ops, nops, i, (m.length : Nat), (j : Nat), L, kind, f, id, onow, r, by8 (incU m j), nc, c)) (fun _ => iterV (f4_L3 k K rec1) k (x1, now, 0, ops, nops, i, off, len, (len : Nat), 0, L, kind, f, id, onow, r, [], nc, c)) m.length (fun j rec hj hx => ?_) (fun rec => ?_) k 0 (Nat.zero_le _) (by omega)
  · rw [← hx]
    unfold f4_L2 f4_T2
    simp only [by8_length, by8_get, incU_length, incU_get m j j hj, Int.toNat_natCast, Nat.zero_add, Option.map_some, Option.bind_some, grd_true, dec0, decLt, hj, decide_true, cond_true, isI_int, toI_int, by8_set, wrap64_succ (show j < 4611686018427387904 by omega)]
    rfl
  · unfold f4_L2 f4_T2
    simp
theorem last_eq {k : Nat} (K : Bool → Option X) (rec1 : Int × Int × Nat × Nat × List CV × Int × Int × List CV × Nat × List CV → Option X) (x1 now : Int) (s : LS) (ops : List CV) (nops i : Int) (kind f id onow : Int) (r : List Int) (nc : Nat) (c : List CV) (hk : 100 ≤ k) (hl : s.ks.length ≤ 8) (hoff : s.off ≤ s.L.length) (hnow : cl now = now) :
    iterV (f4_L3 k K rec1) k (x1, now, 0, ops, nops, i, s.off, s.ks.length, (s.ks.length : Nat), 0, lrow s.L, kind, f, id, onow, by8 r, [], nc, c) =
      rec1 (x1, now, if (refAt s.ks f id now r).length > 8 then 1 else 0, if (refAt s.ks f id now r).length > 8 then (refAt s.ks f id now r).length - 1 else (refAt s.ks f id now r).length, ops, nops, IntKind.wrap .i64 (i + 1), lrow (refAt s.ks f id now r), nc, c) := by
  refine iterV_spec (T := f4_L3 k K rec1) (fun j => (x1, now, ((s.ks.take j).filter (fun x => !is f id x)).length, ops, nops, i, s.off, s.ks.length, (s.ks.length : Nat), (j : Nat), lrow s.L, kind, f, id, onow, by8 r, lrow ((s.ks.take j).filter (fun x => !is f id x)), nc, c)) (fun _ => _) s.ks.length (fun j rec hj hx => ?_) (fun rec => ?_) k 0 (Nat.zero_le _) (by omega)
  · rw [← hx]
    unfold f4_L3 f4_T3
    have hget : s.L[s.off + j]? = some s.ks[j] := by
      have : s.ks[j]? = some s.ks[j] := List.getElem?_eq_getElem hj
      rw [← this]
      unfold LS.ks
      rw [List.getElem?_drop]
    have e6 : (s.ks.take (j + 1)).filter (fun x => !is f id x) = (s.ks.take j).filter (fun x => !is f id x) ++ (if is f id s.ks[j] then [] else [s.ks[j]]) := by
      rw [List.take_succ_eq_append_getElem hj, List.filter_append]
      cases hc : is f id s.ks[j] <;> simp [hc]
    rw [e6]
    have hlen : ((s.ks.take j).filter (fun x => !is f id x)).length ≤ j := Nat.le_trans (List.length_filter_le _ _) (by simp; omega)
    generalize (s.ks.take j).filter (fun x => !is f id x) = F at *
    have e2 : List.take F.length (lrow F) = lrow F := List.take_of_length_le (by rw [lrow_length]; exact Nat.le_refl _)
    have e3 : ∀ x : Kp, List.take 1 (List.drop 0 [lv x]) = lrow [x] := fun n => rfl
    have e4 : ∀ x : Kp, (lrow [x]).length = 1 := fun n => rfl
    simp only [f4_J1, lrow_get, hget, Int.toNat_natCast, Option.map_some, Option.bind_some, grd_true, dec0, decLt, hj, decide_true, cond_true, lv_isA, lv_0, lv_1, lv_2, lv_3, lv_4, isI_int, isL_slc, toI_int, toL_slc, lv_eq, e2, e3, e4, ← lrow_append, wrap64_succ (show j < 4611686018427387904 by omega), grd_dec (show (F.length + 1) * 56 ≤ 140737488355328 by omega)]
    by_cases h1 : s.ks[j].f = f
    · by_cases h2 : s.ks[j].i = id
      · have : is f id s.ks[j] = true := by simp [is, h1, h2]
        simp [h1, h2, this]
      · have : is f id s.ks[j] = false := by simp [is, h2]
        simp [h1, bne_t h2, this]
    · have : is f id s.ks[j] = false := by simp [is, h1]
      simp [bne_t h1, this]
  · unfold f4_L3 f4_T3
    rw [List.take_of_length_le (Nat.le_refl _)]
    unfold refAt
    have hlen : (s.ks.filter (fun x => !is f id x)).length ≤ s.ks.length := List.length_filter_le _ _
    rw [hnow]
    generalize s.ks.filter (fun x => !is f id x) = F at *
    have e2 : List.take F.length (lrow F) = lrow F := List.take_of_length_le (by rw [lrow_length]; exact Nat.le_refl _)
    have e3 : ∀ x : Kp, List.take 1 (List.drop 0 [lv x]) = lrow [x] := fun n => rfl
    have e4 : ∀ x : Kp, (lrow [x]).length = 1 := fun n => rfl
    have e5 : (F ++ [Kp.mk f id now r]).length = F.length + 1 := by simp
    have e7 : CV.agg [CV.int .i64 0, CV.int .i64 f, CV.int .i64 id, CV.int .i64 now, CV.slc none (by8 r)] = lv (Kp.mk f id now r) := rfl
    simp only [decLt, Nat.lt_irrefl, decide_false, cond_false, e7, e3, e4, e2, ← lrow_append, grd_dec (show (F.length + 1) * 56 ≤ 140737488355328 by omega), e5]
    by_cases h8 : F.length + 1 > 8
    · rw [show decide (((F.length + 1 : Nat) : Int) > 8) = true by simp; omega, grd_dec (by omega), grd_dec (by omega), if_pos h8, if_pos h8]
      rfl
    · rw [show decide (((F.length + 1 : Nat) : Int) > 8) = false by simp; omega, if_neg h8, if_neg h8]
      rfl
/-- What is found, and may be written over. -/
theorem mine_eq {k : Nat} (K : Bool → Option X) (rec4 : Int × Nat × Nat × Int × Int × List CV × Nat × List CV → Option X) (now : Int) (off len : Nat) (lenI j : Int) (L : List CV) (kind onow : Int) {ks : List Kp} (h : Good ks) {q : Nat} (hq : q < ks.length) (m : List Int) (hm : m.length ≤ 200) (ok : Bool) (hok : ok = fr now ks[q]) (hk : 1000 ≤ k) :
    iterV (f4_L5 k K rec4) k (now, m.length, ok, off, len, lenI, j, (m.length : Nat), 0, L, kind, ks[q].f, ks[q].i, onow, by8 ks[q].r, by8 m, ks.length, row ks) = rec4 (now, off, len, lenI, IntKind.wrap .i64 (j + 1), L, ks.length, row ks) := by
  have hl := h.len
  refine iterV_spec (T := f4_L5 k K rec4) (fun t => (now, m.length, ok, off, len, lenI, j, (m.length : Nat), (t : Nat), L, kind, ks[q].f, ks[q].i, onow, by8 ks[q].r, by8 (incU m t), ks.length, row ks)) (fun _ => _) m.length (fun t rec ht hx => ?_) (fun rec => ?_) k 0 (Nat.zero_le _) (by omega)
  · rw [← hx]
    unfold f4_L5 f4_T5
    simp only [by8_length, by8_get, incU_length, incU_get m t t ht, Int.toNat_natCast, Nat.zero_add, Option.map_some, Option.bind_some, grd_true, dec0, decLt, ht, decide_true, cond_true, isI_int, toI_int, by8_set, wrap64_succ (show t < 4611686018427387904 by omega)]
    rfl
  · unfold f4_L5 f4_T5
    simp only [decLt, Nat.lt_irrefl, decide_false, cond_false]
    rw [find_eq _ ks _ _ _ (by omega) (by omega) (fun x hx => by have := h.rep x hx; omega), find_self h.uniq hq]
    cases ok with
    | false => rw [← hok]; rfl
    | true =>
      rw [← hok]
      have hr := h.rep ks[q] (List.getElem_mem _)
      simp only [if_true, fnd, cond_true]
      rw [show List.take ks[q].r.length (List.drop 0 (by8 ks[q].r)) = by8 ks[q].r by simp [List.take_of_length_le, by8_length], same_eq _ _ _ (by omega) (by omega)]
      simp
theorem all_eq {k : Nat} (K : Bool → Option X) (now : Int) (s : LS) (h : Good s.ks) (h0 : 0 ≤ now) (h1 : now ≤ 1099511627776) (hk : 1000 ≤ k) :
    iterV (f4_L4 k K) k (now, s.off, s.ks.length, (s.ks.length : Nat), 0, lrow s.L, s.ks.length, row s.ks) = K true := by
  have hl := h.len
  refine iterV_spec (T := f4_L4 k K) (fun j => (now, s.off, s.ks.length, (s.ks.length : Nat), (j : Nat), lrow s.L, s.ks.length, row s.ks)) (fun _ => K true) s.ks.length (fun j rec hj hx => ?_) (fun rec => ?_) k 0 (Nat.zero_le _) (by omega)
  · rw [← hx]
    unfold f4_L4 f4_T4
    have hget : s.L[s.off + j]? = some s.ks[j] := by
      have : s.ks[j]? = some s.ks[j] := List.getElem?_eq_getElem hj
      rw [← this]
      unfold LS.ks
      rw [List.getElem?_drop]
    simp only [lrow_get, hget, Int.toNat_natCast, Option.map_some, Option.bind_some, grd_true, dec0, decLt, hj, decide_true, cond_true, lv_isA, lv_0, lv_1, lv_2, lv_3, lv_4, isI_int, isL_slc, toI_int, toL_slc]
    rw [find_eq _ s.ks _ _ _ (by omega) (by omega) (fun x hx => by have := h.rep x hx; omega), find_self h.uniq hj]
    have hf : fr now s.ks[j] = decide (IntKind.wrap .i64 (now - s.ks[j].a) < 247) := by unfold fr; rw [cl_id h0 h1]
    have hr := h.rep s.ks[j] (List.getElem_mem _)
    have hm := fun m hm ok hok => mine_eq (k := k) K rec now s.off s.ks.length (s.ks.length : Nat) (j : Nat) (lrow s.L) 0 s.ks[j].a h hj m hm ok hok hk
    rw [wrap64_succ (show j < 4611686018427387904 by omega)] at hm
    cases hfr : fr now s.ks[j] with
    | false =>
      have hm := hm [] (by simp) false hfr.symm
      have hc : ¬ IntKind.wrap .i64 (now - s.ks[j].a) < 247 := of_decide_eq_false (hf.symm.trans hfr)
      simp only [Bool.false_eq_true, if_false, fnd]
      refine Eq.trans (b := f4_J2 k K (lv s.ks[j]) (iterV (f4_L5 k K rec) k) (0, false, s.ks.length, row s.ks, []) (now, s.off, s.ks.length, (s.ks.length : Nat), (j : Nat), lrow s.L, s.ks.length, row s.ks) ()) (by simp [hc]) ?_
      unfold f4_J2
      exact hm
    | true =>
      have hm := hm s.ks[j].r hr true hfr.symm
      have hc : IntKind.wrap .i64 (now - s.ks[j].a) < 247 := of_decide_eq_true (hf.symm.trans hfr)
      simp only [if_true, fnd]
      simp only [hc, decide_true, beq_self_eq_true, Bool.not_true, cond_false, cond_true]
      rw [show List.take s.ks[j].r.length (List.drop 0 (by8 s.ks[j].r)) = by8 s.ks[j].r by simp [List.take_of_length_le, by8_length], same_eq _ _ _ (by omega) (by omega)]
      simp only [decide_true, Bool.not_true, cond_false]
      unfold f4_J2
      exact hm
  · unfold f4_L4 f4_T4
    simp only [decLt, Nat.lt_irrefl, decide_false, cond_false]
    rw [len_eq _ s.ks _ (by omega) (by omega)]
    have := List.countP_le_length (p := fr now) (l := s.ks)
    rw [show decide (((s.ks.countP (fr now) : Nat) : Int) ≤ 8) = true by simp; omega]
theorem lastLaw_eq {k : Nat} (K : Bool → Option X) (ops : List Stp4) (x1 : Int) (hk : 1100 + ops.length ≤ k) (hl : ops.length < 9223372036854775808) : f4 k K (ops.map opv) x1 = K true := by
  unfold f4 f4_T
  obtain ⟨n, rfl⟩ : ∃ n, k = n + 20 := ⟨k - 20, by omega⟩
  rw [alive_eq]
  simp only [Bool.not_true, cond_false]
  rw [small_eq _ _ (by omega) hl]
  cases hs : fewB ops && decide (ops.length ≤ 60) with
  | false => rfl
  | true =>
    rw [Bool.and_eq_true] at hs
    have h60 : ops.length ≤ 60 := of_decide_eq_true hs.2
    have hfew : ∀ o ∈ ops, o.2.2.2.2.1.length ≤ 200 := fun o ho => of_decide_eq_true (List.all_eq_true.1 hs.1 o ho)
    simp only [Bool.not_true, cond_false, new_eq]
    have hfine : ∀ i, i ≤ ops.length → Fine ((ops.take i).foldl LS.next ⟨0, 0, []⟩) i := fun i => by
      induction i with
      | zero => intro _; exact ⟨⟨List.Pairwise.nil, Nat.zero_le _, fun x hx => by simp [LS.ks] at hx⟩, List.Pairwise.nil, fun x hx => by simp [LS.ks] at hx, by simp, by simp, Nat.zero_le _⟩
      | succ i ih =>
        intro hi
        rw [List.take_succ_eq_append_getElem (by omega), List.foldl_append]
        exact (ih (by omega)).step (by omega) (hfew _ (List.getElem_mem _))
    have key := iterV_spec (T := f4_L1 (n + 20) K) (fun i => (x1, ((ops.take i).foldl LS.next ⟨0, 0, []⟩).now, ((ops.take i).foldl LS.next ⟨0, 0, []⟩).off, ((ops.take i).foldl LS.next ⟨0, 0, []⟩).ks.length, ops.map opv, ((ops.length : Nat) : Int), (i : Int), lrow ((ops.take i).foldl LS.next ⟨0, 0, []⟩).L, ((ops.take i).foldl LS.next ⟨0, 0, []⟩).ks.length, row ((ops.take i).foldl LS.next ⟨0, 0, []⟩).ks)) (fun i => K true) ops.length (fun i rec hi hx => ?_) (fun rec => ?_) (n + 20) 0 (Nat.zero_le _) (by omega)
    · simpa [lrow, row, LS.ks] using key
    · rw [← hx]
      unfold f4_L1 f4_T1
      have hg := hfine i (by omega)
      rw [List.take_succ_eq_append_getElem hi, List.foldl_append]
      generalize (ops.take i).foldl LS.next ⟨0, 0, []⟩ = s at *
      have ho := hfew ops[i] (List.getElem_mem _)
      have hn := nx_le ops[i]
      have h0 := hg.now0
      have h1 := hg.now1
      have h8 := hg.good.len
      have hnow : IntKind.wrap .i64 (s.now + nx ops[i]) = s.now + nx ops[i] := wrap64 (by omega) (by omega)
      have hkeep := hg.keep (by omega) ops[i]
      simp only [List.getElem?_map, Int.toNat_natCast, List.getElem?_eq_getElem hi, Option.map_some, Option.bind_some, grd_true, dec0, decLt, hi, decide_true, cond_true, opv_isA, opv_0, opv_1, opv_2, opv_3, opv_4, isI_int, isL_slc, toI_int, toL_slc, List.foldl_cons, List.foldl_nil]
      rw [copy_eq _ _ (by omega) (by omega)]
      have hnx : bop .and .i64 ops[i].2.2.2.1 31 = nx ops[i] := rfl
      simp only [hnx, hnow]
      rw [show List.take ops[i].2.2.2.2.1.length (List.drop 0 (by8 ops[i].2.2.2.2.1)) = by8 ops[i].2.2.2.2.1 by simp [List.take_of_length_le, by8_length]]
      rw [keep_eq _ s.ks _ _ _ _ (by omega) (by omega) (by omega), keep_ref hg.good.uniq, hkeep]
      rw [over_eq K rec x1 _ _ _ _ _ _ _ _ _ _ _ _ _ _ ops[i].2.2.2.2.1 (by omega) ho]
      rw [last_eq K rec x1 _ s _ _ _ _ _ _ _ _ _ _ (by omega) h8 hg.off (cl_id (by omega) (by omega)), wrap64_succ (by omega)]
      have hlen : (s.next ops[i]).ks.length = if (refAt s.ks ops[i].2.1 ops[i].2.2.1 (s.now + nx ops[i]) ops[i].2.2.2.2.1).length > 8 then (refAt s.ks ops[i].2.1 ops[i].2.2.1 (s.now + nx ops[i]) ops[i].2.2.2.2.1).length - 1 else (refAt s.ks ops[i].2.1 ops[i].2.2.1 (s.now + nx ops[i]) ops[i].2.2.2.2.1).length := by
        show ((refAt s.ks ops[i].2.1 ops[i].2.2.1 (s.now + nx ops[i]) ops[i].2.2.2.2.1).drop (if _ then 1 else 0)).length = _
        by_cases h9 : (refAt s.ks ops[i].2.1 ops[i].2.2.1 (s.now + nx ops[i]) ops[i].2.2.2.2.1).length > 8
        · rw [if_pos h9, if_pos h9, List.length_drop]
        · rw [if_neg h9, if_neg h9, List.length_drop, Nat.sub_zero]
      rw [← hlen]
      rfl
    · unfold f4_L1 f4_T1
      simp only [decLt, Nat.lt_irrefl, decide_false, cond_false, List.take_of_length_le (Nat.le_refl ops.length)]
      have hg := hfine ops.length (Nat.le_refl _)
      rw [List.take_of_length_le (Nat.le_refl _)] at hg
      generalize ops.foldl LS.next ⟨0, 0, []⟩ = s at *
      have h0 := hg.now0
      have h1 := hg.now1
      have hb : 0 ≤ bop .and .i64 x1 511 ∧ bop .and .i64 x1 511 ≤ 511 := bop_and x1 511 (by decide)
      rw [wrap64 (by omega) (by omega)]
      exact all_eq K _ s hg.good (by omega) (by omega) (by omega)
theorem law_last (ops : List Stp4) (hw : ops.length ≤ maxLen ∧ ∀ x ∈ ops, (Lit.int .i64 x.1).wf = true ∧ (Lit.int .i64 x.2.1).wf = true ∧ (Lit.int .i64 x.2.2.1).wf = true ∧ (Lit.int .i64 x.2.2.2.1).wf = true ∧ (x.2.2.2.2.1.length ≤ maxLen ∧ ∀ y ∈ x.2.2.2.2.1, (Lit.int .u8 y).wf = true) ∧ True) (x1 : Int) (_ : (Lit.int .i64 x1).wf = true) :
    ∃ k, ∀ K : Bool → Option Out, f4 k K (ops.map opv) x1 = K true := ⟨1100 + ops.length, fun K => lastLaw_eq K ops x1 (Nat.le_refl _) (Nat.lt_of_le_of_lt hw.1 maxLen_lt)⟩
end
end Go.Proofs.YtpgmebpkagbmoaaD
