/- The document's cache, and that the two are the same, step by step. -/
import Derived.Test.YtpgmebpkagbmoaaPa
namespace Go.Proofs.YtpgmebpkagbmoaaD
open Go Go.Proofs.YtpgmebpkagbmoaaS Go.Proofs
set_option linter.unusedVariables false
set_option linter.unusedSimpArgs false
section
variable {X : Type}
theorem refClock_eq {k : Nat} (K : Int → Option X) (n : Int) : f23 k K n = K (cl n) := by
  unfold f23 f23_T cl
  by_cases h1 : n < 0
  · simp [h1]
  · by_cases h2 : n > 1099511627776
    · simp [h1, h2]
    · simp [h1, h2]
theorem copy_eq {k : Nat} (K : Nat × List CV → Option X) (r : List Int) (hk : r.length < k) (hr : r.length < 70368744177664) : f17 k K (by8 r) = K (r.length, by8 r) := by
  unfold f17 f17_T
  refine iterV_spec (T := f17_L1 k K) (fun i => (by8 r, i, (i : Int), by8 (r.take i))) (fun i => K (r.length, by8 r)) r.length (fun i rec hi hx => ?_) (fun rec => ?_) k 0 (Nat.zero_le _) (by omega)
  · rw [← hx]
    unfold f17_L1 f17_T1
    have e3 : ∀ n : Int, List.take 1 (List.drop 0 [CV.int .u8 n]) = by8 [n] := fun n => rfl
    have e4 : ∀ n : Int, (by8 [n]).length = 1 := fun n => rfl
    have e5 : List.take i (by8 (r.take i)) = by8 (r.take i) := List.take_of_length_le (by simp [by8]; omega)
    simp only [by8_length, by8_get, Int.toNat_natCast, List.getElem?_eq_getElem hi, Option.map_some, Option.bind_some, grd_true, dec0, decLt, hi, decide_true, cond_true, isI_int, toI_int, e3, e4, e5, wrap64_succ (show i < 4611686018427387904 by omega), ← by8_append]
    rw [grd_dec (by omega), List.take_succ_eq_append_getElem hi]
  · unfold f17_L1 f17_T1
    simp [by8_length, List.take_of_length_le]
def refAt (ks : List Kp) (a b now : Int) (r : List Int) : List Kp := ks.filter (fun x => !is a b x) ++ [Kp.mk a b (cl now) r]
def refKeep (ks : List Kp) (a b now : Int) (r : List Int) : List Kp :=
  if (refAt ks a b now r).length ≤ 8 then refAt ks a b now r else (refAt ks a b now r).eraseIdx (elUp (refAt ks a b now r) (refAt ks a b now r).length)
theorem left_eq {k : Nat} (K : Nat × List CV → Option X) (L : List Kp) (f : Nat) (hk : L.length < k) (hl : L.length < 1000000) (hf : f < L.length) :
    iterV (f10_L3 k K) k (L.length, (f : Int), 0, 0, row L, []) = K ((L.eraseIdx f).length, row (L.eraseIdx f)) := by
  refine iterV_spec (T := f10_L3 k K) (fun i => (L.length, (f : Int), ((L.take i).eraseIdx f).length, (i : Int), row L, row ((L.take i).eraseIdx f))) (fun i => K ((L.eraseIdx f).length, row (L.eraseIdx f))) L.length (fun i rec hi hx => ?_) (fun rec => ?_) k 0 (Nat.zero_le _) (by omega)
  · rw [← hx]
    unfold f10_L3 f10_T3
    have hlen : ((L.take i).eraseIdx f).length ≤ i := Nat.le_trans (List.length_eraseIdx_le _ _) (by simp; omega)
    have e2 : List.take ((L.take i).eraseIdx f).length (row ((L.take i).eraseIdx f)) = row ((L.take i).eraseIdx f) := List.take_of_length_le (by rw [row_length]; exact Nat.le_refl _)
    have e3 : ∀ x : Kp, List.take 1 (List.drop 0 [x.en]) = row [x] := fun n => rfl
    have e4 : ∀ x : Kp, (row [x]).length = 1 := fun n => rfl
    simp only [f10_J3, row_get, Int.toNat_natCast, Nat.zero_add, List.getElem?_eq_getElem hi, Option.map_some, Option.bind_some, grd_true, dec0, decLt, hi, decide_true, cond_true, en_fit, e2, e3, e4, ← row_append, wrap64_succ (show i < 4611686018427387904 by omega)]
    rw [List.take_succ_eq_append_getElem hi]
    by_cases h : i = f
    · subst h
      rw [show ((i : Int) != (i : Int)) = false by simp]
      simp only [cond_false]
      have e5 : (L.take i ++ [L[i]]).eraseIdx i = (L.take i).eraseIdx i := by
        have hti : (L.take i).length = i := by simp; omega
        rw [List.eraseIdx_append_of_length_le (by omega), hti, Nat.sub_self, List.eraseIdx_of_length_le (l := L.take i) (by omega)]
        simp
      rw [e5]
    · rw [show ((i : Int) != (f : Int)) = true by simp; omega, grd_dec (by omega)]
      simp only [cond_true]
      have e5 : (L.take i ++ [L[i]]).eraseIdx f = (L.take i).eraseIdx f ++ [L[i]] := by
        rcases Nat.lt_or_ge f i with h1 | h1
        · rw [List.eraseIdx_append_of_lt_length (by simp; omega)]
        · rw [List.eraseIdx_of_length_le (by simp; omega), List.eraseIdx_of_length_le (by simp; omega)]
      rw [e5, List.length_append]
      rfl
  · unfold f10_L3 f10_T3
    simp [row_length, List.take_of_length_le]
theorem first_eq {k : Nat} (K : Nat × List CV → Option X) (L : List Kp) (hk : L.length < k) (hl : L.length < 1000000) (h0 : 0 < L.length) :
    iterV (f10_L2 k K) k (L.length, 0, 1, row L) = K ((L.eraseIdx (elUp L L.length)).length, row (L.eraseIdx (elUp L L.length))) := by
  have h1 : elUp L 1 = 0 := by simp [elUp]
  have key := iterV_spec (T := f10_L2 k K) (fun i => (L.length, ((elUp L i : Nat) : Int), (i : Int), row L)) (fun i => K ((L.eraseIdx (elUp L L.length)).length, row (L.eraseIdx (elUp L L.length)))) L.length (fun i rec hi hr => ?_) (fun rec => ?_) k 1 (by omega) (by omega)
  · rw [h1] at key; exact key
  · have he := elUp_lt L (by omega) i (by omega)
    rw [← hr]
    unfold f10_L2 f10_T2
    simp only [f10_J2, row_get, Int.toNat_natCast, Nat.zero_add, List.getElem?_eq_getElem hi, List.getElem?_eq_getElem he, Option.map_some, Option.bind_some, grd_true, dec0, decLt, hi, he, decide_true, cond_true, wrap64_succ (show i < 4611686018427387904 by omega), en_c2, isI_int, toI_int]
    have e : elUp L (i + 1) = if L[i].a < L[elUp L i].a then i else elUp L i := by
      show (if (L.getD i default).a < (L.getD (elUp L i) default).a then i else elUp L i) = _
      simp [List.getD_eq_getElem?_getD, List.getElem?_eq_getElem hi, List.getElem?_eq_getElem he]
    rw [e]
    by_cases hc : L[i].a < L[elUp L i].a
    · simp [hc]
    · simp [hc]
  · unfold f10_L2 f10_T2
    simp only [decLt, Nat.lt_irrefl, decide_false, cond_false]
    exact left_eq K L _ hk hl (elUp_lt L h0 _ (Nat.le_refl _))
theorem refKeep_eq {k : Nat} (K : Nat × List CV → Option X) (ks : List Kp) (a b now : Int) (r : List Int) (hk : ks.length + 1 < k) (hl : ks.length + 1 < 1000000) (hrk : r.length < k) (hr : r.length < 70368744177664) :
    f10 k K (row ks) a b now (by8 r) = K ((refKeep ks a b now r).length, row (refKeep ks a b now r)) := by
  unfold f10 f10_T
  refine iterV_spec (T := f10_L1 k K) (fun i => (row ks, a, b, now, by8 r, ((ks.take i).filter (fun x => !is a b x)).length, (i : Int), row ((ks.take i).filter (fun x => !is a b x)))) (fun i => K ((refKeep ks a b now r).length, row (refKeep ks a b now r))) ks.length (fun i rec hi hx => ?_) (fun rec => ?_) k 0 (Nat.zero_le _) (by omega)
  · rw [← hx]
    unfold f10_L1 f10_T1
    generalize hF : (ks.take i).filter (fun x => !is a b x) = F
    have hlen : F.length ≤ i := by rw [← hF]; exact Nat.le_trans (List.length_filter_le _ _) (by simp; omega)
    have e2 : List.take F.length (row F) = row F := List.take_of_length_le (by rw [row_length]; exact Nat.le_refl _)
    have e3 : ∀ x : Kp, List.take 1 (List.drop 0 [x.en]) = row [x] := fun n => rfl
    have e4 : ∀ x : Kp, (row [x]).length = 1 := fun n => rfl
    have e6 : (ks.take (i + 1)).filter (fun x => !is a b x) = F ++ (if is a b ks[i] then [] else [ks[i]]) := by
      rw [List.take_succ_eq_append_getElem hi, List.filter_append, hF]
      cases hc : is a b ks[i] <;> simp [hc]
    rw [e6]
    simp only [f10_J1, row_length, row_get, Int.toNat_natCast, Nat.zero_add, List.getElem?_eq_getElem hi, Option.map_some, Option.bind_some, grd_true, dec0, decLt, hi, decide_true, cond_true, en_fit, en_c0, en_c1, isI_int, toI_int, e2, e3, e4, ← row_append, wrap64_succ (show i < 4611686018427387904 by omega), grd_dec (show (F.length + 1) * 48 ≤ 140737488355328 by omega)]
    by_cases h1 : ks[i].f = a
    · by_cases h2 : ks[i].i = b
      · have : is a b ks[i] = true := by simp [is, h1, h2]
        simp [h1, h2, this]
      · have : is a b ks[i] = false := by simp [is, h2]
        simp [h1, bne_t h2, this]
    · have : is a b ks[i] = false := by simp [is, h1]
      simp [bne_t h1, this]
  · unfold f10_L1 f10_T1
    rw [List.take_of_length_le (Nat.le_refl _)]
    generalize hF : ks.filter (fun x => !is a b x) = F
    have hlen : F.length ≤ ks.length := by rw [← hF]; exact List.length_filter_le _ _
    have e2 : List.take F.length (row F) = row F := List.take_of_length_le (by rw [row_length]; exact Nat.le_refl _)
    have e3 : ∀ x : Kp, List.take 1 (List.drop 0 [x.en]) = row [x] := fun n => rfl
    have e4 : ∀ x : Kp, (row [x]).length = 1 := fun n => rfl
    simp only [row_length, decLt, Nat.lt_irrefl, decide_false, cond_false, refClock_eq, copy_eq _ r hrk hr]
    have e1 : List.take r.length (List.drop 0 (by8 r)) = by8 r := by simp [List.take_of_length_le, by8_length]
    have e7 : (CV.agg [CV.int .i64 a, CV.int .i64 b, CV.int .i64 (cl now), CV.slc none (by8 r)]) = Kp.en (Kp.mk a b (cl now) r) := rfl
    simp only [e1, e7, e3, e4, e2, ← row_append]
    rw [grd_dec (by omega)]
    unfold refKeep refAt
    rw [hF]
    have e5 : (F ++ [Kp.mk a b (cl now) r]).length = F.length + 1 := by simp
    generalize hL : (F ++ [Kp.mk a b (cl now) r]) = L at *
    rw [← e5]
    by_cases h8 : L.length ≤ 8
    · rw [if_pos h8, show decide ((L.length : Int) ≤ 8) = true by simp; omega]
      simp [row_length, List.take_of_length_le]
    · rw [if_neg h8, show decide ((L.length : Int) ≤ 8) = false by simp; omega]
      exact first_eq K L (by omega) (by omega) (by omega)
/-- What the document finds. -/
def refFind (ks : List Kp) (a b now : Int) : Option Kp := ks.find? (fun x => is a b x && fr now x)
theorem refFind_eq {k : Nat} (K : List CV × Bool → Option X) (ks : List Kp) (a b now : Int) (hk : ks.length < k) (hl : ks.length < 1000000) :
    f13 k K (row ks) a b now = K (match refFind ks a b now with
      | some x => (by8 x.r, true)
      | none => ([], false)) := by
  unfold f13 f13_T
  have key := iterV_spec (T := f13_L1 k K) (fun i => (row ks, a, b, now, (i : Int))) (fun i => K (match refFind (ks.drop i) a b now with
      | some x => (by8 x.r, true)
      | none => ([], false))) ks.length (fun i rec hi hx => ?_) (fun rec => ?_) k 0 (Nat.zero_le _) (by omega)
  · simpa using key
  · unfold f13_L1 f13_T1
    rw [List.drop_eq_getElem_cons hi]
    simp only [f13_J1, row_length, row_get, Int.toNat_natCast, List.getElem?_eq_getElem hi, Option.map_some, Option.bind_some, grd_true, dec0, decLt, hi, decide_true, cond_true, en_c0, en_c1, en_c2, en_c3, isI_int, toI_int, isL_slc, toL_slc, refClock_eq, wrap64_succ (show i < 4611686018427387904 by omega), hx]
    unfold refFind
    rw [List.find?_cons]
    by_cases h1 : ks[i].f = a
    · by_cases h2 : ks[i].i = b
      · have h3 : is a b ks[i] = true := by simp [is, h1, h2]
        rw [h1, h2, h3]
        by_cases h4 : IntKind.wrap .i64 (cl now - ks[i].a) < 247
        · simp [h4, fr]
        · simp [h4, fr]
      · have h3 : is a b ks[i] = false := by simp [is, h2]
        simp [h1, beq_f h2, h3]
    · have h3 : is a b ks[i] = false := by simp [is, h1]
      simp [beq_f h1, h3]
  · unfold f13_L1 f13_T1
    simp [row_length, refFind]
theorem refLen_eq {k : Nat} (K : Int → Option X) (ks : List Kp) (now : Int) (hk : ks.length < k) (hl : ks.length < 1000000) : f16 k K (row ks) now = K ((ks.countP (fr now) : Nat) : Int) := by
  unfold f16 f16_T
  refine iterV_spec (T := f16_L1 k K) (fun i => (row ks, now, (((ks.take i).countP (fr now) : Nat) : Int), (i : Int))) (fun i => K ((ks.countP (fr now) : Nat) : Int)) ks.length (fun i rec hi hr => ?_) (fun rec => ?_) k 0 (Nat.zero_le _) (by omega)
  · rw [← hr]
    unfold f16_L1 f16_T1
    have hc : (ks.take i).countP (fr now) ≤ i := Nat.le_trans (List.countP_le_length) (by simp; omega)
    simp only [f16_J1, row_length, row_get, Int.toNat_natCast, List.getElem?_eq_getElem hi, Option.map_some, Option.bind_some, grd_true, dec0, decLt, hi, decide_true, cond_true, en_c2, isI_int, toI_int, refClock_eq, wrap64_succ (show i < 4611686018427387904 by omega), wrap64_succ (show (ks.take i).countP (fr now) < 4611686018427387904 by omega)]
    rw [List.take_succ_eq_append_getElem hi, List.countP_append, List.countP_singleton]
    by_cases h4 : IntKind.wrap .i64 (cl now - ks[i].a) < 247
    · simp [h4, fr]
    · simp [h4, fr]
  · unfold f16_L1 f16_T1
    simp [row_length, List.take_of_length_le]
/-- No endpoint's message is kept twice. -/
def Uniq (ks : List Kp) : Prop := ks.Pairwise (fun x y => ¬ (x.f = y.f ∧ x.i = y.i))
theorem is_iff {a b : Int} {x : Kp} : is a b x = true ↔ x.f = a ∧ x.i = b := by simp [is]
theorem filter_uniq {a b : Int} : ∀ {ks : List Kp}, Uniq ks → (match ks.findIdx? (is a b) with
  | some i => ks.eraseIdx i
  | none => ks) = ks.filter (fun x => !is a b x)
  | [], _ => rfl
  | x :: l, h => by
    rw [List.findIdx?_cons]
    have h' := List.pairwise_cons.1 h
    cases hx : is a b x with
    | true =>
      simp only [if_true, List.eraseIdx_cons_zero, List.filter_cons, hx, Bool.not_true, Bool.false_eq_true, if_false]
      refine (List.filter_eq_self.2 fun y hy => ?_).symm
      have := h'.1 y hy
      cases hy2 : is a b y with
      | false => rfl
      | true =>
        rw [is_iff] at hx hy2
        exact absurd ⟨hx.1.trans hy2.1.symm, hx.2.trans hy2.2.symm⟩ this
    | false =>
      have ih := filter_uniq (a := a) (b := b) h'.2
      simp only [Bool.false_eq_true, if_false, List.filter_cons, hx, Bool.not_false, if_true, ← ih]
      cases l.findIdx? (is a b) with
      | none => rfl
      | some j => rfl
theorem keepAt_eq {ks : List Kp} (h : Uniq ks) (a b now : Int) (r : List Int) : keepAt ks a b now r = refAt ks a b now r := by
  unfold keepAt refAt
  rw [← filter_uniq h]
  cases ks.findIdx? (is a b) <;> rfl
theorem keep_ref {ks : List Kp} (h : Uniq ks) (a b now : Int) (r : List Int) : keepP ks a b now r = refKeep ks a b now r := by
  unfold keepP refKeep
  rw [keepAt_eq h]
  by_cases h8 : (refAt ks a b now r).length ≤ 8
  · rw [if_pos h8, if_neg (by omega)]
  · rw [if_neg h8, if_pos (by omega)]
theorem refAt_uniq {ks : List Kp} (h : Uniq ks) (a b now : Int) (r : List Int) : Uniq (refAt ks a b now r) := by
  unfold refAt Uniq
  refine List.pairwise_append.2 ⟨List.Pairwise.sublist List.filter_sublist h, List.pairwise_singleton _ _, fun x hx y hy => ?_⟩
  simp only [List.mem_singleton] at hy
  subst hy
  have := (List.mem_filter.1 hx).2
  intro ⟨h1, h2⟩
  have h3 : is a b x = true := is_iff.2 ⟨h1, h2⟩
  rw [h3] at this
  cases this
theorem refKeep_uniq {ks : List Kp} (h : Uniq ks) (a b now : Int) (r : List Int) : Uniq (refKeep ks a b now r) := by
  unfold refKeep
  split
  · exact refAt_uniq h a b now r
  · exact List.Pairwise.sublist (List.eraseIdx_sublist _ _) (refAt_uniq h a b now r)
theorem refAt_length (ks : List Kp) (a b now : Int) (r : List Int) : (refAt ks a b now r).length ≤ ks.length + 1 := by
  unfold refAt
  have := List.length_filter_le (fun x => !is a b x) ks
  simp
  omega
theorem refKeep_length {ks : List Kp} (hl : ks.length ≤ 8) (a b now : Int) (r : List Int) : (refKeep ks a b now r).length ≤ 8 := by
  unfold refKeep
  have := refAt_length ks a b now r
  split
  · assumption
  · rename_i h8
    have h0 : 0 < (refAt ks a b now r).length := by omega
    rw [List.length_eraseIdx, if_pos (elUp_lt _ h0 _ (Nat.le_refl _))]
    omega
theorem refKeep_mem {ks : List Kp} {a b now : Int} {r : List Int} {x : Kp} (h : x ∈ refKeep ks a b now r) : x ∈ ks ∨ x = Kp.mk a b (cl now) r := by
  have h1 : x ∈ refAt ks a b now r := by
    unfold refKeep at h
    split at h
    · exact h
    · exact List.mem_of_mem_eraseIdx h
  rcases List.mem_append.1 h1 with h1 | h1
  · exact .inl (List.mem_filter.1 h1).1
  · simp at h1; exact .inr h1
theorem find_ref {ks : List Kp} (h : Uniq ks) (a b now : Int) : findP ks a b now = (refFind ks a b now).map (·.r) := by
  induction ks with
  | nil => rfl
  | cons x l ih =>
    have h' := List.pairwise_cons.1 h
    have ih := ih h'.2
    unfold findP refFind at *
    rw [List.find?_cons, List.find?_cons]
    cases hx : is a b x with
    | false => simp only [Bool.false_and]; exact ih
    | true =>
      cases hf : fr now x with
      | true => simp [hf]
      | false =>
        simp only [Bool.true_and, hf, Bool.false_eq_true, if_false]
        have : l.find? (fun x => is a b x && fr now x) = none := by
          rw [List.find?_eq_none]
          intro y hy hc
          rw [Bool.and_eq_true] at hc
          have h1 := is_iff.1 hx
          have h2 := is_iff.1 hc.1
          exact h'.1 y hy ⟨h1.1.trans h2.1.symm, h1.2.trans h2.2.symm⟩
        rw [this]; rfl
/-- A step, as it came in. -/
abbrev Stp4 := Int × Int × Int × Int × List Int × Unit
def opv (o : Stp4) : CV := .agg (.int .i64 o.1 :: .int .i64 o.2.1 :: .int .i64 o.2.2.1 :: .int .i64 o.2.2.2.1 :: .slc none (o.2.2.2.2.1.map (CV.int .u8)) :: [])
theorem opv_isA (o : Stp4) : CV.isA 5 (opv o) = true := rfl
theorem opv_0 (o : Stp4) : CV.cellD 0 (opv o) = .int .i64 o.1 := rfl
theorem opv_1 (o : Stp4) : CV.cellD 1 (opv o) = .int .i64 o.2.1 := rfl
theorem opv_2 (o : Stp4) : CV.cellD 2 (opv o) = .int .i64 o.2.2.1 := rfl
theorem opv_3 (o : Stp4) : CV.cellD 3 (opv o) = .int .i64 o.2.2.2.1 := rfl
theorem opv_4 (o : Stp4) : CV.cellD 4 (opv o) = .slc none (by8 o.2.2.2.2.1) := rfl
def fewB (ops : List Stp4) : Bool := ops.all fun o => decide (o.2.2.2.2.1.length ≤ 200)
theorem small_eq {k : Nat} (K : Bool → Option X) (ops : List Stp4) (hk : ops.length < k) (hl : ops.length < 9223372036854775808) : f7 k K (ops.map opv) = K (fewB ops && decide (ops.length ≤ 60)) := by
  unfold f7 f7_T
  have key := iterV_spec (T := f7_L1 k K) (fun i => (ops.map opv, ops.map opv, ((ops.length : Nat) : Int), (i : Int))) (fun i => K (fewB (ops.drop i) && decide (ops.length ≤ 60))) ops.length (fun i rec hi hx => ?_) (fun rec => ?_) k 0 (Nat.zero_le _) (by omega)
  · simpa using key
  · unfold f7_L1 f7_T1
    rw [List.drop_eq_getElem_cons hi]
    simp only [List.getElem?_map, Int.toNat_natCast, List.getElem?_eq_getElem hi, Option.map_some, Option.bind_some, grd_true, dec0, decLt, hi, decide_true, cond_true, opv_isA, opv_0, opv_1, opv_2, opv_3, opv_4, isI_int, isL_slc, toL_slc, by8_length, wrap64_s (show i < 9223372036854775807 by omega), hx]
    unfold fewB
    rw [List.all_cons]
    by_cases h : ops[i].2.2.2.2.1.length ≤ 200
    · rw [show decide ((ops[i].2.2.2.2.1.length : Int) > 200) = false by simp; omega]
      simp [h]
    · rw [show decide ((ops[i].2.2.2.2.1.length : Int) > 200) = true by simp; omega]
      simp [h]
  · unfold f7_L1 f7_T1
    have : decide ((ops.length : Int) ≤ 60) = decide (ops.length ≤ 60) := by simp; omega
    simp [fewB, this]
/-- What is kept behind a step. -/
def stepK (ks : List Kp) (o : Stp4) : List Kp :=
  if o.1 = 0 ∨ o.1 = 1 then refKeep ks o.2.1 o.2.2.1 o.2.2.2.1 o.2.2.2.2.1 else if o.1 = 2 then [] else ks
structure Good (ks : List Kp) : Prop where
  uniq : Uniq ks
  len : ks.length ≤ 8
  rep : ∀ x ∈ ks, x.r.length ≤ 200
theorem Good.step {ks : List Kp} (h : Good ks) {o : Stp4} (ho : o.2.2.2.2.1.length ≤ 200) : Good (stepK ks o) := by
  unfold stepK
  split
  · exact ⟨refKeep_uniq h.uniq _ _ _ _, refKeep_length h.len _ _ _ _, fun x hx => (refKeep_mem hx).elim (h.rep x) (fun e => by subst e; exact ho)⟩
  · split
    · exact ⟨List.Pairwise.nil, Nat.zero_le _, fun x hx => by simp at hx⟩
    · exact h
theorem asked_eq {k : Nat} (K : Bool → Option X) (o : Stp4) (rec : Nat × List CV × Int × Int × List CV × Nat × List CV → Option X) (v : Nat × List CV × Int × Int × List CV × Nat × List CV) {ks : List Kp} (h : Good ks) (hk : 1000 ≤ k) :
    f3_J1 k K (opv o) rec v (ks.length, row ks, ks.length, row ks) = rec (ks.length, v.2.1, v.2.2.1, IntKind.wrap .i64 (v.2.2.2.1 + 1), row ks, ks.length, row ks) := by
  have hl := h.len
  unfold f3_J1
  simp only [opv_1, opv_2, opv_3, toI_int]
  have e1 : List.take ks.length (List.drop 0 (row ks)) = row ks := by simp [List.take_of_length_le, row_length]
  rw [find_eq _ ks _ _ _ (by omega) (by omega) (fun x hx => by have := h.rep x hx; omega), find_ref h.uniq]
  simp only [e1]
  rw [refFind_eq _ ks _ _ _ (by omega) (by omega)]
  have hlen : ∀ K : Bool → Option X, f15 k (fun u51 => f16 k (fun u52 => K (u51.1 != u52)) (row ks) o.2.2.2.1) o.2.2.2.1 ks.length (row ks) = K false := fun K => by
    rw [len_eq _ ks _ (by omega) (by omega), refLen_eq _ ks _ (by omega) (by omega)]
    simp
  have fin : ∀ z : Bool → Nat × List CV → Option X, f15 k (fun u51 => f16 k (fun u52 => z (u51.1 != u52) (u51.2.1, u51.2.2)) (row ks) o.2.2.2.1) o.2.2.2.1 ks.length (row ks) = z false (ks.length, row ks) := fun z => by
    rw [len_eq _ ks _ (by omega) (by omega), refLen_eq _ ks _ (by omega) (by omega)]
    simp
  cases hf : refFind ks o.2.1 o.2.2.1 o.2.2.2.1 with
  | none =>
    simp only [Option.map_none, fnd, beq_self_eq_true, Bool.not_true, cond_false]
    have hs : ∀ K : Bool → Option X, f14 k K (List.take 0 (List.drop 0 [])) [] = K true := fun K => by
      have := same_eq (k := k) K [] [] (by simp; omega) (by simp)
      simpa [by8] using this
    rw [hs]
    simp only [Bool.not_true, cond_false]
    exact fin fun b u => bif b then K false else rec (ks.length, v.2.1, v.2.2.1, IntKind.wrap .i64 (v.2.2.2.1 + 1), row ks, u.1, u.2)
  | some x =>
    have hx : x ∈ ks := List.mem_of_find?_eq_some hf
    have hr := h.rep x hx
    simp only [Option.map_some, fnd, beq_self_eq_true, Bool.not_true, cond_false]
    have hs : ∀ K : Bool → Option X, f14 k K (List.take x.r.length (List.drop 0 (by8 x.r))) (by8 x.r) = K true := fun K => by
      rw [show List.take x.r.length (List.drop 0 (by8 x.r)) = by8 x.r by simp [List.take_of_length_le, by8_length], same_eq _ _ _ (by omega) (by omega)]
      simp
    rw [hs]
    simp only [Bool.not_true, cond_false]
    exact fin fun b u => bif b then K false else rec (ks.length, v.2.1, v.2.2.1, IntKind.wrap .i64 (v.2.2.2.1 + 1), row ks, u.1, u.2)
theorem step_eq {k : Nat} (K : Bool → Option X) (o : Stp4) (rec : Nat × List CV × Int × Int × List CV × Nat × List CV → Option X) (w : List CV) (n i : Int) {ks : List Kp} (h : Good ks) (ho : o.2.2.2.2.1.length ≤ 200) (hk : 1000 ≤ k) (b : Bool) (hb : b = decide (o.1 = 0 ∨ o.1 = 1)) :
    f3_J2 k K (opv o) rec (ks.length, w, n, i, row ks, ks.length, row ks) b = rec ((stepK ks o).length, w, n, IntKind.wrap .i64 (i + 1), row (stepK ks o), (stepK ks o).length, row (stepK ks o)) := by
  have hl := h.len
  have hg := h.step ho
  subst hb
  unfold f3_J2
  simp only [opv_0, opv_1, opv_2, opv_3, opv_4, toI_int, toL_slc]
  have e1 : List.take ks.length (List.drop 0 (row ks)) = row ks := by simp [List.take_of_length_le, row_length]
  rw [e1]
  by_cases h1 : o.1 = 0 ∨ o.1 = 1
  · have es : stepK ks o = refKeep ks o.2.1 o.2.2.1 o.2.2.2.1 o.2.2.2.2.1 := by unfold stepK; rw [if_pos h1]
    rw [show decide (o.1 = 0 ∨ o.1 = 1) = true by simpa using h1]
    simp only [cond_true]
    rw [keep_eq _ ks _ _ _ _ (by omega) (by omega) (by omega), refKeep_eq _ ks _ _ _ _ (by omega) (by omega) (by omega) (by omega), keep_ref h.uniq, ← es]
    exact asked_eq K o rec _ hg hk
  · rw [show decide (o.1 = 0 ∨ o.1 = 1) = false by simpa using h1]
    simp only [cond_false]
    by_cases h2 : o.1 = 2
    · have es : stepK ks o = [] := by unfold stepK; rw [if_neg h1, if_pos h2]
      rw [es] at hg ⊢
      rw [show (o.1 == 2) = true by simpa using h2, clear_eq]
      exact asked_eq (ks := []) K o rec _ hg hk
    · have es : stepK ks o = ks := by unfold stepK; rw [if_neg h1, if_neg h2]
      rw [es, beq_f h2]
      exact asked_eq K o rec _ h hk
theorem plays_eq {k : Nat} (K : Bool → Option X) (ops : List Stp4) (hk : 1100 + ops.length ≤ k) (hl : ops.length < 9223372036854775808) : f3 k K (ops.map opv) = K true := by
  unfold f3 f3_T
  obtain ⟨n, rfl⟩ : ∃ n, k = n + 20 := ⟨k - 20, by omega⟩
  rw [alive_eq]
  simp only [Bool.not_true, cond_false]
  rw [small_eq _ _ (by omega) hl]
  cases hs : fewB ops && decide (ops.length ≤ 60) with
  | false => rfl
  | true =>
    rw [Bool.and_eq_true] at hs
    have h60 : ops.length ≤ 60 := of_decide_eq_true hs.2
    have hfew : ∀ o ∈ ops, o.2.2.2.2.1.length ≤ 200 := fun o ho => of_decide_eq_true (List.all_eq_true.1 hs.1 o ho)
    simp only [Bool.not_true, cond_false, new_eq]
    have hgood : ∀ i, i ≤ ops.length → Good ((ops.take i).foldl stepK []) := fun i => by
      induction i with
      | zero => intro _; exact ⟨List.Pairwise.nil, Nat.zero_le _, fun x hx => by simp at hx⟩
      | succ i ih =>
        intro hi
        rw [List.take_succ_eq_append_getElem (by omega), List.foldl_append]
        exact (ih (by omega)).step (hfew _ (List.getElem_mem _))
    have key := iterV_spec (T := f3_L1 (n + 20) K) (fun i => (((ops.take i).foldl stepK []).length, ops.map opv, ((ops.length : Nat) : Int), (i : Int), row ((ops.take i).foldl stepK []), ((ops.take i).foldl stepK []).length, row ((ops.take i).foldl stepK []))) (fun i => K true) ops.length (fun i rec hi hx => ?_) (fun rec => ?_) (n + 20) 0 (Nat.zero_le _) (by omega)
    · simpa [row] using key
    · rw [← hx]
      unfold f3_L1 f3_T1
      have hg := hgood i (by omega)
      rw [List.take_succ_eq_append_getElem hi, List.foldl_append]
      generalize (ops.take i).foldl stepK [] = ks at *
      simp only [List.getElem?_map, Int.toNat_natCast, List.getElem?_eq_getElem hi, Option.map_some, Option.bind_some, grd_true, dec0, decLt, hi, decide_true, cond_true, opv_isA, opv_0, opv_1, opv_2, opv_3, opv_4, isI_int, isL_slc, toI_int, List.foldl_cons, List.foldl_nil]
      have ho := hfew ops[i] (List.getElem_mem _)
      have hst : ∀ b, b = decide (ops[i].1 = 0 ∨ ops[i].1 = 1) → f3_J2 (n + 20) K (opv ops[i]) rec (ks.length, ops.map opv, ((ops.length : Nat) : Int), (i : Int), row ks, ks.length, row ks) b = rec ((stepK ks ops[i]).length, ops.map opv, ((ops.length : Nat) : Int), ((i + 1 : Nat) : Int), row (stepK ks ops[i]), (stepK ks ops[i]).length, row (stepK ks ops[i])) := fun b hb => by
        rw [step_eq K ops[i] rec _ _ _ hg ho (by omega) b hb, wrap64_succ (by omega)]
      by_cases h0 : ops[i].1 = 0
      · rw [show (ops[i].1 == 0) = true by simpa using h0]
        exact hst true (by simp [h0])
      · rw [beq_f h0]
        simp only [cond_false]
        refine hst _ ?_
        by_cases h1 : ops[i].1 = 1
        · simp [h1]
        · rw [beq_f h1]; simp [h0, h1]
    · unfold f3_L1 f3_T1
      simp
theorem law_plays (ops : List Stp4) (hw : ops.length ≤ maxLen ∧ ∀ x ∈ ops, (Lit.int .i64 x.1).wf = true ∧ (Lit.int .i64 x.2.1).wf = true ∧ (Lit.int .i64 x.2.2.1).wf = true ∧ (Lit.int .i64 x.2.2.2.1).wf = true ∧ (x.2.2.2.2.1.length ≤ maxLen ∧ ∀ y ∈ x.2.2.2.2.1, (Lit.int .u8 y).wf = true) ∧ True) :
    ∃ k, ∀ K : Bool → Option Out, f3 k K (ops.map opv) = K true := ⟨1100 + ops.length, fun K => plays_eq K ops (Nat.le_refl _) (Nat.lt_of_le_of_lt hw.1 maxLen_lt)⟩
end
end Go.Proofs.YtpgmebpkagbmoaaD
