/- What is sent up to a time is the same in one step as in several. -/
import Derived.Test.YtlmefodpnhpghaaPb
namespace Go.Proofs.YtlmefodpnhpghaaD
open Go Go.Proofs.YtlmefodpnhpghaaS Go.Proofs
set_option linter.unusedVariables false
set_option linter.unusedSimpArgs false
section
variable {X : Type}
theorem and511 (a : Int) : 0 ≤ bop .and .i64 a 511 ∧ bop .and .i64 a 511 ≤ 511 := bop_and a 511 (by decide)
theorem passP_fuel : ∀ (n : Nat) (now : Int) (es : List Ex), meas es ≤ n → passP (n + 1) now es = passP n now es
  | 0, now, es, hm => by
    have := meas_len es
    have he : es = [] := List.eq_nil_of_length_eq_zero (by omega)
    subst he
    rfl
  | n + 1, now, es, hm => by
    rcases fU_spec es es.length (Nat.le_refl _) with ⟨h0, h1⟩ | ⟨j, h1, h2, h3⟩
    · unfold passP; rw [h1]
    · have hm2 := meas_up h2
      have ih := passP_fuel n now (upE es j) (by omega)
      have e : ∀ m, passP (m + 1) now es = if (es.getD j default).a > now then ([], es) else (upS (es.getD j default) :: (passP m now (upE es j)).1, (passP m now (upE es j)).2) := fun m => by
        show (match fU es es.length with
          | none => ([], es)
          | some i => if (es.getD i default).a > now then ([], es) else (upS (es.getD i default) :: (passP m now (upE es i)).1, (passP m now (upE es i)).2)) = _
        rw [h1]
      rw [e (n + 1), e n, ih]
theorem passP_two : ∀ (n : Nat) (now1 now2 : Int) (es : List Ex), now1 ≤ now2 → meas es ≤ n → Goods es →
    passP n now2 es = ((passP n now1 es).1 ++ (passP n now2 (passP n now1 es).2).1, (passP n now2 (passP n now1 es).2).2)
  | 0, now1, now2, es, h, hm, hg => rfl
  | n + 1, now1, now2, es, h, hm, hg => by
    rcases fU_spec es es.length (Nat.le_refl _) with ⟨h0, h1⟩ | ⟨j, h1, h2, h3⟩
    · have e : ∀ now, passP (n + 1) now es = ([], es) := fun now => by unfold passP; rw [h1]
      simp only [e, List.append_nil]
    · have hm2 := meas_up h2
      have e : ∀ now, passP (n + 1) now es = if (es.getD j default).a > now then ([], es) else (upS (es.getD j default) :: (passP n now (upE es j)).1, (passP n now (upE es j)).2) := fun now => by
        show (match fU es es.length with
          | none => ([], es)
          | some i => if (es.getD i default).a > now then ([], es) else (upS (es.getD i default) :: (passP n now (upE es i)).1, (passP n now (upE es i)).2)) = _
        rw [h1]
      by_cases hc : (es.getD j default).a > now1
      · rw [e now1, if_pos hc]
        rfl
      · have hg2 := upE_good hg h2
        have ih := passP_two n now1 now2 (upE es j) h (by omega) hg2
        have sp := passP_spec n now1 (upE es j) (by omega) hg2
        rw [e now1, if_neg hc]
        simp only
        rw [passP_fuel n now2 (passP n now1 (upE es j)).2 (by omega), e now2, if_neg (by omega), ih]
        rfl
theorem passP_d : ∀ (n : Nat) (now : Int) (es : List Ex), Goods es → ∀ x ∈ (passP n now es).1, x.d.length ≤ 100000
  | 0, now, es, hg, x, hx => by cases hx
  | n + 1, now, es, hg, x, hx => by
    rcases fU_spec es es.length (Nat.le_refl _) with ⟨h0, h1⟩ | ⟨j, h1, h2, h3⟩
    · have e : passP (n + 1) now es = ([], es) := by unfold passP; rw [h1]
      rw [e] at hx; cases hx
    · have e : passP (n + 1) now es = if (es.getD j default).a > now then ([], es) else (upS (es.getD j default) :: (passP n now (upE es j)).1, (passP n now (upE es j)).2) := by
        show (match fU es es.length with
          | none => ([], es)
          | some i => if (es.getD i default).a > now then ([], es) else (upS (es.getD i default) :: (passP n now (upE es i)).1, (passP n now (upE es i)).2)) = _
        rw [h1]
      rw [e] at hx
      by_cases hc : (es.getD j default).a > now
      · rw [if_pos hc] at hx; cases hx
      · rw [if_neg hc] at hx
        rcases List.mem_cons.1 hx with rfl | hx
        · have hgd : es.getD j default = es[j] := by simp [List.getD_eq_getElem?_getD, List.getElem?_eq_getElem h2]
          rw [hgd]
          exact (hg _ (List.getElem_mem h2)).d1
        · exact passP_d n now (upE es j) (upE_good hg h2) x hx
theorem sen_isA (x : Snt) : CV.isA 4 x.en = true := rfl
theorem sen_0 (x : Snt) : CV.cellD 0 x.en = .int .i64 x.t := rfl
theorem sen_1 (x : Snt) : CV.cellD 1 x.en = .int .i64 x.i := rfl
theorem sen_2 (x : Snt) : CV.cellD 2 x.en = .slc none (by8 x.d) := rfl
theorem sen_3 (x : Snt) : CV.cellD 3 x.en = .bool x.lost := rfl
theorem sen_c0 (x : Snt) : CV.cell x.en 0 = some (.int .i64 x.t) := rfl
theorem sen_c1 (x : Snt) : CV.cell x.en 1 = some (.int .i64 x.i) := rfl
theorem sen_c2 (x : Snt) : CV.cell x.en 2 = some (.slc none (by8 x.d)) := rfl
theorem sen_c3 (x : Snt) : CV.cell x.en 3 = some (.bool x.lost) := rfl
theorem as_eq {k : Nat} (K : Nat × List CV → Option X) (xs : List Snt) (hk : xs.length < k) (hl : xs.length < 1000000) : f17 k K (srow xs) = K (xs.length, srow xs) := by
  unfold f17 f17_T
  rw [srow_length]
  refine iterV_spec (T := f17_L1 k K) (fun i => (i, srow xs, ((xs.length : Nat) : Int), (i : Int), srow (xs.take i))) (fun i => K (xs.length, srow xs)) xs.length (fun i rec hi hx => ?_) (fun rec => ?_) k 0 (Nat.zero_le _) (by omega)
  · rw [← hx]
    unfold f17_L1 f17_T1
    have e5 : List.take i (srow (xs.take i)) = srow (xs.take i) := List.take_of_length_le (by simp [srow]; omega)
    have e3 : ∀ x : Snt, List.take 1 (List.drop 0 [CV.agg [CV.int .i64 x.t, CV.int .i64 x.i, CV.slc none (by8 x.d), CV.bool x.lost]]) = srow [x] := fun x => rfl
    have e4 : ∀ x : Snt, (srow [x]).length = 1 := fun x => rfl
    simp only [srow_get, Int.toNat_natCast, List.getElem?_eq_getElem hi, Option.map_some, Option.bind_some, grd_true, dec0, decLt, hi, decide_true, cond_true, sen_isA, sen_0, sen_1, sen_2, sen_3, isI_int, isL_slc, isB_bool, toI_int, toL_slc, toB_bool, e5, e3, e4, wrap64_succ (show i < 4611686018427387904 by omega), ← srow_append]
    rw [grd_dec (show (i + 1) * 48 ≤ 140737488355328 by omega), List.take_succ_eq_append_getElem hi]
  · unfold f17_L1 f17_T1
    simp [srow_length, List.take_of_length_le]
theorem sameS_eq {k : Nat} (K : Bool → Option X) (xs : List Snt) (hk : xs.length < k) (hk2 : 100100 ≤ k) (hl : xs.length < 1000000) (hd : ∀ x ∈ xs, x.d.length ≤ 100000) : f16 k K (srow xs) (srow xs) = K true := by
  unfold f16 f16_T
  simp only [srow_length, bne_self_eq_false, cond_false]
  refine iterV_spec (T := f16_L1 k K) (fun i => (srow xs, srow xs, (i : Int))) (fun i => K true) xs.length (fun i rec hi hx => ?_) (fun rec => ?_) k 0 (Nat.zero_le _) (by omega)
  · rw [← hx]
    unfold f16_L1 f16_T1
    have hdi := hd xs[i] (List.getElem_mem hi)
    simp only [srow_length, srow_get, Int.toNat_natCast, List.getElem?_eq_getElem hi, Option.map_some, Option.bind_some, grd_true, dec0, decLt, hi, decide_true, cond_true, sen_c0, sen_c1, sen_c2, sen_c3, isI_int, isL_slc, isB_bool, toI_int, toL_slc, toB_bool, bne_self_eq_false, cond_false, beq_self_eq_true, Bool.not_true, wrap64_succ (show i < 4611686018427387904 by omega)]
    rw [same_eq _ _ _ (by omega) (by omega)]
    simp
  · unfold f16_L1 f16_T1
    simp [srow_length]
/-- The time behind some steps. -/
def nowS (ts : List Int) : Int := ts.foldl (fun n t => n + bop .and .i64 t 511) 0
theorem nowS_snoc (ts : List Int) (t : Int) : nowS (ts ++ [t]) = nowS ts + bop .and .i64 t 511 := by simp [nowS, List.foldl_append]
theorem nowS_bd : ∀ (ts : List Int), 0 ≤ nowS ts ∧ nowS ts ≤ 511 * ts.length := by
  intro ts
  rw [← List.reverse_reverse ts]
  induction ts.reverse with
  | nil => exact ⟨Int.le_refl _, by simp [nowS]⟩
  | cons t l ih =>
    rw [List.reverse_cons, nowS_snoc]
    have := and511 t
    rw [List.length_append, List.length_singleton]
    omega
theorem clk_mono {a b t : Int} (h : a ≤ b) : clk a t ≤ clk b t := by
  unfold clk; repeat' split
  all_goals omega
theorem clk_clk {a b t : Int} (h : a ≤ b) : clk b (clk a t) = clk b t := by
  unfold clk; repeat' split
  all_goals first | rfl | omega
/-- One table, behind some steps. -/
def Tm (s : List Ex × Int) (ts : List Int) : List Snt × List Ex × Int := match ts with
  | [] => ([], s.1, s.2)
  | ts => ((passP 20 (clk (nowS ts) s.2) s.1).1, (passP 20 (clk (nowS ts) s.2) s.1).2, clk (nowS ts) s.2)
theorem Tm_ne (s : List Ex × Int) (ts : List Int) (h : ts ≠ []) : Tm s ts = ((passP 20 (clk (nowS ts) s.2) s.1).1, (passP 20 (clk (nowS ts) s.2) s.1).2, clk (nowS ts) s.2) := by
  cases ts with
  | nil => exact absurd rfl h
  | cons t l => rfl
theorem Tm_step {s : List Ex × Int} (hs : Begun s) (ts : List Int) (t : Int) :
    Goods (Tm s ts).2.1 ∧ meas (Tm s ts).2.1 ≤ 20 ∧ (Tm s ts).1.length + (passP 20 (clk (nowS (ts ++ [t])) (Tm s ts).2.2) (Tm s ts).2.1).1.length ≤ 20 ∧
    Tm s (ts ++ [t]) = ((Tm s ts).1 ++ (passP 20 (clk (nowS (ts ++ [t])) (Tm s ts).2.2) (Tm s ts).2.1).1, (passP 20 (clk (nowS (ts ++ [t])) (Tm s ts).2.2) (Tm s ts).2.1).2, clk (nowS (ts ++ [t])) (Tm s ts).2.2) := by
  have hm := meas_le hs.good
  have hl := hs.len
  rw [Tm_ne s (ts ++ [t]) (by simp)]
  have hle : nowS ts ≤ nowS (ts ++ [t]) := by
    rw [nowS_snoc]
    have := and511 t
    omega
  by_cases h : ts = []
  · subst h
    have sp := passP_spec 20 (clk (nowS ([] ++ [t])) s.2) s.1 (by omega) hs.good
    exact ⟨hs.good, by show meas s.1 ≤ 20; omega, by show 0 + _ ≤ 20; rw [Nat.zero_add]; show (passP 20 (clk (nowS ([] ++ [t])) s.2) s.1).1.length ≤ 20; omega, rfl⟩
  · rw [Tm_ne s ts h]
    have sp := passP_spec 20 (clk (nowS ts) s.2) s.1 (by omega) hs.good
    simp only
    rw [clk_clk hle]
    have tw := passP_two 20 (clk (nowS ts) s.2) (clk (nowS (ts ++ [t])) s.2) s.1 (clk_mono hle) (by omega) hs.good
    have sp2 := passP_spec 20 (clk (nowS (ts ++ [t])) s.2) _ (show meas (passP 20 (clk (nowS ts) s.2) s.1).2 ≤ 20 by omega) sp.1
    exact ⟨sp.1, by omega, by omega, by rw [tw]⟩
theorem steps_eq {k : Nat} (K : Bool → Option X) (ops : List OpT) (ts : List Int) (hk : 200000 + ops.length ≤ k) (hl : ops.length < 9223372036854775808) (ht : ts.length < 9223372036854775808) : f4 k K (ops.map opv) (ts.map (CV.int .i64)) = K true := by
  unfold f4 f4_T
  obtain ⟨n, rfl⟩ : ∃ n, k = n + 20 := ⟨k - 20, by omega⟩
  rw [alive_eq]
  simp only [Bool.not_true, cond_false]
  rw [small_eq _ _ (by omega) hl]
  cases hs : (fewB ops && decide (ops.length ≤ 60)) with
  | false => rfl
  | true =>
    rw [Bool.and_eq_true] at hs
    obtain ⟨hf, h60⟩ := hs
    have h60 : ops.length ≤ 60 := of_decide_eq_true h60
    simp only [Bool.not_true, cond_false, List.length_map]
    by_cases h10 : ts.length > 10
    · rw [show decide (((ts.length : Nat) : Int) > 10) = true by simp; omega]; rfl
    rw [show decide (((ts.length : Nat) : Int) > 10) = false by simp; omega]
    simp only [cond_false]
    by_cases h00 : ts.length = 0
    · rw [show (((ts.length : Nat) : Int) == 0) = true by simp; exact List.eq_nil_of_length_eq_zero h00]; rfl
    rw [show (((ts.length : Nat) : Int) == 0) = false by simp; exact fun e => h00 (by rw [e]; rfl)]
    simp only [cond_false]
    rw [new_eq, new_eq]
    have key := iterV_spec (T := f4_L1 (n + 20) K) (fun i => (ts.map (CV.int .i64), ops.map opv, ((ops.length : Nat) : Int), (i : Int), ((ops.take i).foldl st ([], 0)).1.length, ((ops.take i).foldl st ([], 0)).2, row ((ops.take i).foldl st ([], 0)).1, ((ops.take i).foldl st ([], 0)).1.length, ((ops.take i).foldl st ([], 0)).2, row ((ops.take i).foldl st ([], 0)).1)) (fun i => K true) ops.length (fun i rec hi hx => ?_) (fun rec => ?_) (n + 20) 0 (Nat.zero_le _) (by omega)
    · simpa using key
    · rw [← hx]
      unfold f4_L1 f4_T1
      have hb := begun_take hf i
      have ho : ops[i].2.2.2.1.length ≤ 200 := by
        unfold fewB at hf
        rw [List.all_eq_true] at hf
        simpa using hf _ (List.getElem_mem hi)
      simp only [List.getElem?_map, Int.toNat_natCast, List.getElem?_eq_getElem hi, Option.map_some, Option.bind_some, grd_true, dec0, decLt, hi, decide_true, cond_true, opv_isA, opv_0, opv_1, opv_2, opv_3, opv_4, opv_5, isI_int, isL_slc, toI_int, toL_slc]
      rw [List.take_succ_eq_append_getElem hi, List.foldl_append, List.foldl_cons, List.foldl_nil]
      generalize (ops.take i).foldl st ([], 0) = s at *
      obtain ⟨e, he⟩ := start_eq' (k := n + 20) (fun u18 => f10 (n + 20) (fun u19 => rec (ts.map (CV.int .i64), ops.map opv, ((ops.length : Nat) : Int), IntKind.wrap .i64 (((i : Nat) : Int) + 1), u18.2.1, u18.2.2.1, u18.2.2.2, u19.2.1, u19.2.2.1, u19.2.2.2)) ops[i].2.1 ops[i].2.2.1 (by8 ops[i].2.2.2.1) (bop .and .i64 ops[i].2.2.2.2.1 1023) ops[i].2.2.2.2.2.1 s.1.length s.2 (row s.1)) hb ho (by omega)
      refine he.trans ?_
      obtain ⟨e', he'⟩ := start_eq' (k := n + 20) (fun u19 => rec (ts.map (CV.int .i64), ops.map opv, ((ops.length : Nat) : Int), IntKind.wrap .i64 (((i : Nat) : Int) + 1), (st s ops[i]).1.length, (st s ops[i]).2, row (st s ops[i]).1, u19.2.1, u19.2.2.1, u19.2.2.2)) hb ho (by omega)
      refine he'.trans ?_
      rw [wrap64_succ (by omega)]
    · unfold f4_L1 f4_T1
      rw [List.take_of_length_le (Nat.le_refl _)]
      have hb := begun_take hf ops.length
      rw [List.take_of_length_le (Nat.le_refl _)] at hb
      generalize ops.foldl st ([], 0) = s at *
      have hm := meas_le hb.good
      have hlen := hb.len
      simp only [decLt, Nat.lt_irrefl, decide_false, cond_false, List.length_map]
      have key2 := iterV_spec (T := f4_L2 (n + 20) K) (fun i => ((Tm s (ts.take i)).1.length, nowS (ts.take i), ts.map (CV.int .i64), ((ts.length : Nat) : Int), (i : Int), srow (Tm s (ts.take i)).1, (Tm s (ts.take i)).2.1.length, (Tm s (ts.take i)).2.2, row (Tm s (ts.take i)).2.1, s.1.length, s.2, row s.1)) (fun i => K true) ts.length (fun i rec hi hx => ?_) (fun rec => ?_) (n + 20) 0 (Nat.zero_le _) (by omega)
      · simpa [Tm, nowS, srow] using key2
      · rw [← hx]
        unfold f4_L2 f4_T2
        have hts := Tm_step hb (ts.take i) ts[i]
        have hn := nowS_bd (ts.take i)
        have htl : (ts.take i).length ≤ 10 := by simp; omega
        have h5 := and511 ts[i]
        rw [List.take_succ_eq_append_getElem hi, hts.2.2.2]
        simp only [List.getElem?_map, Int.toNat_natCast, List.getElem?_eq_getElem hi, Option.map_some, Option.bind_some, grd_true, dec0, decLt, hi, decide_true, cond_true, isI_int, toI_int]
        have ew : IntKind.wrap .i64 (nowS (ts.take i) + bop .and .i64 ts[i] 511) = nowS (ts.take i ++ [ts[i]]) := by
          rw [wrap64 (by omega) (by omega), nowS_snoc]
        rw [ew, pass_eq _ _ _ _ 20 hts.2.1 (by omega) (by omega) hts.1]
        generalize Tm s (ts.take i) = q at *
        generalize passP 20 (clk (nowS (ts.take i ++ [ts[i]])) q.2.2) q.2.1 = r at *
        have e1 : List.take r.1.length (List.drop 0 (srow r.1)) = srow r.1 := by rw [List.drop_zero, List.take_of_length_le (by simp [srow])]
        have e2 : List.take q.1.length (srow q.1) = srow q.1 := List.take_of_length_le (by simp [srow])
        have hle := hts.2.2.1
        simp only [e1, e2, srow_length, ← srow_append]
        rw [grd_dec (show (q.1.length + r.1.length) * 48 ≤ 140737488355328 by omega), wrap64_succ (by omega), List.length_append]
      · unfold f4_L2 f4_T2
        rw [List.take_of_length_le (Nat.le_refl _)]
        simp only [decLt, Nat.lt_irrefl, decide_false, cond_false]
        have sp := passP_spec 20 (clk (nowS ts) s.2) s.1 (by omega) hb.good
        have hd := passP_d 20 (clk (nowS ts) s.2) s.1 hb.good
        rw [Tm_ne s ts (fun e => h00 (by rw [e]; rfl))]
        simp only
        have e1 : ∀ l : List Snt, List.take l.length (List.drop 0 (srow l)) = srow l := fun l => by rw [List.drop_zero, List.take_of_length_le (by simp [srow])]
        rw [e1, as_eq _ _ (by omega) (by omega)]
        simp only
        rw [pass_eq _ _ _ _ 20 (by omega) (by omega) (by omega) hb.good]
        generalize passP 20 (clk (nowS ts) s.2) s.1 = r at *
        simp only [e1]
        rw [as_eq _ _ (by omega) (by omega)]
        simp only [e1]
        rw [sameS_eq _ _ (by omega) (by omega) (by omega) hd]
        simp only [cond_true]
        rw [len_eq, len_eq]
        simp
theorem law_steps (ops : List OpT) (hw : ops.length ≤ maxLen ∧ ∀ x ∈ ops, (Lit.int .i64 x.1).wf = true ∧ (Lit.int .i64 x.2.1).wf = true ∧ (Lit.int .i64 x.2.2.1).wf = true ∧ (x.2.2.2.1.length ≤ maxLen ∧ ∀ y ∈ x.2.2.2.1, (Lit.int .u8 y).wf = true) ∧ (Lit.int .i64 x.2.2.2.2.1).wf = true ∧ (Lit.int .i64 x.2.2.2.2.2.1).wf = true ∧ True) (ts : List Int) (ht : ts.length ≤ maxLen ∧ ∀ x ∈ ts, (Lit.int .i64 x).wf = true) :
    ∃ k, ∀ K : Bool → Option Out, f4 k K (ops.map opv) (ts.map (CV.int .i64)) = K true := ⟨200000 + ops.length, fun K => steps_eq K ops ts (Nat.le_refl _) (Nat.lt_of_le_of_lt hw.1 maxLen_lt) (Nat.lt_of_le_of_lt ht.1 maxLen_lt)⟩
end
end Go.Proofs.YtlmefodpnhpghaaD
