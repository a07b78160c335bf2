/- Nothing is sent ahead of the next time, and something at it. -/
import Derived.Test.YtlmefodpnhpghaaPa
namespace Go.Proofs.YtlmefodpnhpghaaD
open Go Go.Proofs.YtlmefodpnhpghaaS Go.Proofs
set_option linter.unusedVariables false
set_option linter.unusedSimpArgs false
section
variable {X : Type}
theorem bop_and (a : Int) (m : Nat) (hm : m < 9223372036854775808) : 0 ≤ bop .and .i64 a (m : Int) ∧ bop .and .i64 a (m : Int) ≤ m := by
  have h : (BitVec.ofInt 64 a &&& BitVec.ofInt 64 (m : Int)).toNat ≤ m := by
    rw [BitVec.toNat_and]
    refine Nat.le_trans Nat.and_le_right ?_
    rw [BitVec.toNat_ofInt]
    omega
  have e : bop .and .i64 a (m : Int) = IntKind.wrap .i64 (((BitVec.ofInt 64 a &&& BitVec.ofInt 64 (m : Int)).toNat : Nat) : Int) := rfl
  rw [e, wrap64 (by omega) (by omega)]
  omega
theorem and1023 (a : Int) : 0 ≤ bop .and .i64 a 1023 ∧ bop .and .i64 a 1023 ≤ 1023 := bop_and a 1023 (by decide)
abbrev OpT := Int × Int × Int × List Int × Int × Int × Unit
def opv (o : OpT) : CV := .agg (.int .i64 o.1 :: .int .i64 o.2.1 :: .int .i64 o.2.2.1 :: .slc none (o.2.2.2.1.map (CV.int .u8)) :: .int .i64 o.2.2.2.2.1 :: .int .i64 o.2.2.2.2.2.1 :: [])
theorem opv_isA (o : OpT) : CV.isA 6 (opv o) = true := rfl
theorem opv_0 (o : OpT) : CV.cellD 0 (opv o) = .int .i64 o.1 := rfl
theorem opv_1 (o : OpT) : CV.cellD 1 (opv o) = .int .i64 o.2.1 := rfl
theorem opv_2 (o : OpT) : CV.cellD 2 (opv o) = .int .i64 o.2.2.1 := rfl
theorem opv_3 (o : OpT) : CV.cellD 3 (opv o) = .slc none (by8 o.2.2.2.1) := rfl
theorem opv_4 (o : OpT) : CV.cellD 4 (opv o) = .int .i64 o.2.2.2.2.1 := rfl
theorem opv_5 (o : OpT) : CV.cellD 5 (opv o) = .int .i64 o.2.2.2.2.2.1 := rfl
def fewB (ops : List OpT) : Bool := ops.all fun o => decide (o.2.2.2.1.length ≤ 200)
theorem small_eq {k : Nat} (K : Bool → Option X) (ops : List OpT) (hk : ops.length < k) (hl : ops.length < 9223372036854775808) : f15 k K (ops.map opv) = K (fewB ops && decide (ops.length ≤ 60)) := by
  unfold f15 f15_T
  have key := iterV_spec (T := f15_L1 k K) (fun i => (ops.map opv, ops.map opv, ((ops.length : Nat) : Int), (i : Int))) (fun i => K (fewB (ops.drop i) && decide (ops.length ≤ 60))) ops.length (fun i rec hi hx => ?_) (fun rec => ?_) k 0 (Nat.zero_le _) (by omega)
  · simpa using key
  · unfold f15_L1 f15_T1
    rw [List.drop_eq_getElem_cons hi]
    simp only [List.getElem?_map, Int.toNat_natCast, List.getElem?_eq_getElem hi, Option.map_some, Option.bind_some, grd_true, dec0, decLt, hi, decide_true, cond_true, opv_isA, opv_0, opv_1, opv_2, opv_3, opv_4, opv_5, isI_int, isL_slc, toL_slc, by8_length, wrap64_s (show i < 9223372036854775807 by omega), hx]
    unfold fewB
    rw [List.all_cons]
    by_cases h2 : ops[i].2.2.2.1.length ≤ 200
    · rw [show decide (((ops[i].2.2.2.1.length : Nat) : Int) > 200) = false by simp; omega]
      simp [h2]
    · rw [show decide (((ops[i].2.2.2.1.length : Nat) : Int) > 200) = true by simp; omega]
      simp [h2]
  · unfold f15_L1 f15_T1
    have : decide (((ops.length : Nat) : Int) ≤ 60) = decide (ops.length ≤ 60) := decide_eq_decide.2 (by omega)
    simp [fewB, this]
/-- Nothing is due. -/
def Rest (now : Int) (es : List Ex) : Prop := ∀ i, fU es es.length = some i → (es.getD i default).a > now
theorem passP_spec : ∀ (n : Nat) (now : Int) (es : List Ex), meas es ≤ n → Goods es → Goods (passP n now es).2 ∧ meas (passP n now es).2 + (passP n now es).1.length = meas es ∧ Rest now (passP n now es).2
  | 0, now, es, hm, hg => by
    have := meas_len es
    have he : es = [] := List.eq_nil_of_length_eq_zero (by omega)
    subst he
    exact ⟨hg, rfl, fun i hi => by cases hi⟩
  | n + 1, now, es, hm, hg => by
    unfold passP
    rcases fU_spec es es.length (Nat.le_refl _) with ⟨h0, h1⟩ | ⟨j, h1, h2, h3⟩
    · rw [h1]
      exact ⟨hg, rfl, fun i hi => by rw [h1] at hi; cases hi⟩
    · rw [h1]
      simp only
      by_cases hc : (es.getD j default).a > now
      · rw [if_pos hc]
        exact ⟨hg, rfl, fun i hi => by rw [h1] at hi; cases hi; exact hc⟩
      · rw [if_neg hc]
        have hm2 := meas_up h2
        obtain ⟨k1, k2, k3⟩ := passP_spec n now (upE es j) (by omega) (upE_good hg h2)
        exact ⟨k1, by simp only [List.length_cons]; omega, k3⟩
theorem meas_le : ∀ {es : List Ex}, Goods es → meas es ≤ 5 * es.length
  | [], _ => Nat.le_refl _
  | x :: l, h => by
    have := meas_le (es := l) fun y hy => h y (List.mem_cons_of_mem _ hy)
    have := (h x List.mem_cons_self).l1
    simp only [meas, List.length_cons]; omega
/-- A table behind starts. -/
structure Begun (s : List Ex × Int) : Prop where
  good : Goods s.1
  len : s.1.length ≤ 4
  n0 : 0 ≤ s.2
  n1 : s.2 ≤ 1023
def st (s : List Ex × Int) (o : OpT) : List Ex × Int := ((startP s.1 o.2.1 o.2.2.1 o.2.2.2.1 (clk (bop .and .i64 o.2.2.2.2.1 1023) s.2) o.2.2.2.2.2.1).2, clk (bop .and .i64 o.2.2.2.2.1 1023) s.2)
theorem clk_bd {a b m : Int} (h1 : 0 ≤ b) (h2 : b ≤ m) (h3 : a ≤ m) (h4 : m ≤ 1099511627776) : 0 ≤ clk a b ∧ clk a b ≤ m := by
  unfold clk
  split <;> split at * <;> omega
theorem Begun.st {s : List Ex × Int} (h : Begun s) {o : OpT} (ho : o.2.2.2.1.length ≤ 200) : Begun (st s o) := by
  have hb := and1023 o.2.2.2.2.1
  have hc := clk_bd h.n0 h.n1 hb.2 (by decide)
  refine ⟨start_good h.good _ _ _ _ _ (by omega) hc.1 (by omega), ?_, hc.1, hc.2⟩
  unfold Go.Proofs.YtlmefodpnhpghaaD.st startP
  have := h.len
  simp only
  split
  · exact this
  · split
    · exact this
    · simp; omega
theorem begun_take {ops : List OpT} (h : fewB ops = true) : ∀ i, Begun ((ops.take i).foldl st ([], 0)) := fun i => by
  have h' : ∀ o ∈ ops.take i, o.2.2.2.1.length ≤ 200 := fun o ho => by
    unfold fewB at h
    rw [List.all_eq_true] at h
    simpa using h o (List.mem_of_mem_take ho)
  have h0 : Begun (([], 0) : List Ex × Int) := ⟨fun x hx => (by cases hx), Nat.zero_le _, Int.le_refl _, by decide⟩
  generalize ops.take i = l at *
  generalize (([], 0) : List Ex × Int) = s at *
  clear h
  induction l generalizing s with
  | nil => exact h0
  | cons o l ih => exact ih (fun o ho => h' o (List.mem_cons_of_mem _ ho)) _ (h0.st (h' o List.mem_cons_self))
theorem start_eq' {k : Nat} (K : Int × Nat × Int × List CV → Option X) {s : List Ex × Int} (h : Begun s) {o : OpT} (ho : o.2.2.2.1.length ≤ 200) (hk : 100 ≤ k) :
    ∃ e, f10 k K o.2.1 o.2.2.1 (by8 o.2.2.2.1) (bop .and .i64 o.2.2.2.2.1 1023) o.2.2.2.2.2.1 s.1.length s.2 (row s.1) = K (e, (st s o).1.length, (st s o).2, row (st s o).1) := by
  have hb := and1023 o.2.2.2.2.1
  have hc := clk_bd h.n0 h.n1 hb.2 (by decide)
  have hl := h.len
  exact ⟨_, start_eq K s.1 _ _ _ _ _ _ (by omega) (by omega) (by omega) hc.1⟩
theorem next_loop {k0 : Nat} (K : Bool → Option X) (hk0 : 100 ≤ k0) : ∀ (k r : Nat) (es : List Ex) (now : Int), 30 - r < k → r + meas es ≤ 20 → Goods es → Rest now es → 1024 ≤ now → now ≤ 1099511627776 →
    iterV (f5_L2 k0 K) k ((r : Int), es.length, now, row es) = K true
  | 0, r, es, now, hk, _, _, _, _, _ => absurd hk (Nat.not_lt_zero _)
  | k + 1, r, es, now, hk, hm, hg, hr, h0, h1 => by
    have hle := meas_len es
    show f5_L2 k0 K (iterV (f5_L2 k0 K) k) _ = _
    have ih := next_loop K hk0 k
    generalize iterV (f5_L2 k0 K) k = R at *
    unfold f5_L2 f5_T2
    simp only [show decide (((r : Nat) : Int) < 30) = true by simp; omega, cond_true]
    rw [next_eq _ _ _ (by omega) (by omega)]
    rcases fU_spec es es.length (Nat.le_refl _) with ⟨g0, g1⟩ | ⟨j, g1, g2, g3⟩
    · rw [g1]
      simp only [Bool.not_false, cond_true]
      rw [len_eq]
      simp [g0]
    · rw [g1]
      simp only
      have hj := hr j g1
      have hgd : es.getD j default = es[j] := by simp [List.getD_eq_getElem?_getD, List.getElem?_eq_getElem g2]
      have ha1 := (hg es[j] (List.getElem_mem g2)).a1
      rw [← hgd] at ha1
      generalize hat : (es.getD j default).a = at_ at *
      simp only [Bool.not_true, cond_false, show decide (at_ ≤ 1024) = false from decide_eq_false (by omega)]
      have e1 : IntKind.wrap .i64 (at_ - 1) = at_ - 1 := wrap64 (by omega) (by omega)
      have c1 : clk (at_ - 1) now = at_ - 1 := by unfold clk; split <;> split at * <;> omega
      have c2 : clk at_ (at_ - 1) = at_ := by unfold clk; split <;> split at * <;> omega
      obtain ⟨n, hn⟩ : ∃ n, meas es = n + 1 := ⟨meas es - 1, by omega⟩
      have p1 : passP (n + 1) (at_ - 1) es = ([], es) := by
        unfold passP; rw [g1]; simp only
        rw [if_pos (by omega)]
      rw [e1, pass_eq _ _ _ _ (n + 1) (by omega) (by omega) (by omega) hg, c1, p1]
      have z0 : (((([] : List Snt).length : Nat) : Int) != 0) = false := rfl
      simp only [z0, cond_false]
      have p2 : ∃ x xs, (passP (n + 1) at_ es).1 = x :: xs := by
        unfold passP; rw [g1]; simp only
        rw [if_neg (by omega)]
        exact ⟨_, _, rfl⟩
      obtain ⟨x, xs, hx⟩ := p2
      have sp := passP_spec (n + 1) at_ es (by omega) hg
      rw [pass_eq _ _ _ _ (n + 1) (by omega) (by omega) (by omega) hg, c2, hx]
      rw [hx] at sp
      generalize (passP (n + 1) at_ es).2 = es2 at *
      obtain ⟨s1, s2, s3⟩ := sp
      rw [List.length_cons] at s2
      have z1 : ((((x :: xs).length : Nat) : Int) == 0) = false := by simp; omega
      simp only [z1, cond_false]
      have hle2 := meas_len es2
      unfold f5_J2
      simp only
      rw [next_eq _ _ _ (by omega) (by omega)]
      have fin : R (IntKind.wrap .i64 (((r : Nat) : Int) + 1), es2.length, at_, row es2) = K true := by
        rw [wrap64_succ (by omega)]
        exact ih (r + 1) es2 at_ (by omega) (by omega) s1 s3 (by omega) ha1
      cases g5 : fU es2 es2.length with
      | none =>
        simp only [cond_false]
        exact fin
      | some m =>
        have := s3 m g5
        simp only [cond_true, show decide ((es2.getD m default).a ≤ at_) = false from decide_eq_false (by omega), cond_false]
        exact fin
theorem nextLaw_eq {k : Nat} (K : Bool → Option X) (ops : List OpT) (hk : 1100 + ops.length ≤ k) (hl : ops.length < 9223372036854775808) : f5 k K (ops.map opv) = K true := by
  unfold f5 f5_T
  obtain ⟨n, rfl⟩ : ∃ n, k = n + 20 := ⟨k - 20, by omega⟩
  rw [alive_eq]
  simp only [Bool.not_true, cond_false]
  rw [small_eq _ _ (by omega) hl]
  cases hs : (fewB ops && decide (ops.length ≤ 60)) with
  | false => rfl
  | true =>
    rw [Bool.and_eq_true] at hs
    obtain ⟨hf, h60⟩ := hs
    have h60 : ops.length ≤ 60 := of_decide_eq_true h60
    simp only [Bool.not_true, cond_false]
    rw [new_eq]
    have key := iterV_spec (T := f5_L1 (n + 20) K) (fun i => (ops.map opv, ((ops.length : Nat) : Int), (i : Int), ((ops.take i).foldl st ([], 0)).1.length, ((ops.take i).foldl st ([], 0)).2, row ((ops.take i).foldl st ([], 0)).1)) (fun i => K true) ops.length (fun i rec hi hx => ?_) (fun rec => ?_) (n + 20) 0 (Nat.zero_le _) (by omega)
    · simpa using key
    · rw [← hx]
      unfold f5_L1 f5_T1
      have hb := begun_take hf i
      have ho : ops[i].2.2.2.1.length ≤ 200 := by
        unfold fewB at hf
        rw [List.all_eq_true] at hf
        simpa using hf _ (List.getElem_mem hi)
      simp only [List.getElem?_map, Int.toNat_natCast, List.getElem?_eq_getElem hi, Option.map_some, Option.bind_some, grd_true, dec0, decLt, hi, decide_true, cond_true, opv_isA, opv_0, opv_1, opv_2, opv_3, opv_4, opv_5, isI_int, isL_slc, toI_int, toL_slc]
      rw [List.take_succ_eq_append_getElem hi, List.foldl_append, List.foldl_cons, List.foldl_nil]
      generalize (ops.take i).foldl st ([], 0) = s at *
      obtain ⟨e, he⟩ := start_eq' (k := n + 20) (fun u => rec (ops.map opv, ((ops.length : Nat) : Int), IntKind.wrap .i64 (((i : Nat) : Int) + 1), u.2.1, u.2.2.1, u.2.2.2)) hb ho (by omega)
      refine he.trans ?_
      rw [wrap64_succ (by omega)]
    · unfold f5_L1 f5_T1
      rw [List.take_of_length_le (Nat.le_refl _)]
      have hb := begun_take hf ops.length
      rw [List.take_of_length_le (Nat.le_refl _)] at hb
      generalize ops.foldl st ([], 0) = s at *
      have hm := meas_le hb.good
      have hlen := hb.len
      have hn0 := hb.n0
      have hn1 := hb.n1
      simp only [decLt, Nat.lt_irrefl, decide_false, cond_false]
      have c : clk 1024 s.2 = 1024 := by unfold clk; split <;> split at * <;> omega
      rw [pass_eq _ _ _ _ 20 (by omega) (by omega) (by omega) hb.good, c]
      have sp := passP_spec 20 1024 s.1 (by omega) hb.good
      exact next_loop K (by omega) (n + 20) 0 _ 1024 (by omega) (by omega) sp.1 sp.2.2 (Int.le_refl _) (by decide)
theorem law_next (ops : List OpT) (hw : ops.length ≤ maxLen ∧ ∀ x ∈ ops, (Lit.int .i64 x.1).wf = true ∧ (Lit.int .i64 x.2.1).wf = true ∧ (Lit.int .i64 x.2.2.1).wf = true ∧ (x.2.2.2.1.length ≤ maxLen ∧ ∀ y ∈ x.2.2.2.1, (Lit.int .u8 y).wf = true) ∧ (Lit.int .i64 x.2.2.2.2.1).wf = true ∧ (Lit.int .i64 x.2.2.2.2.2.1).wf = true ∧ True) :
    ∃ k, ∀ K : Bool → Option Out, f5 k K (ops.map opv) = K true := ⟨1100 + ops.length, fun K => nextLaw_eq K ops (Nat.le_refl _) (Nat.lt_of_le_of_lt hw.1 maxLen_lt)⟩
end
end Go.Proofs.YtlmefodpnhpghaaD
