/- Of each row of steps every answer is as said. -/
import Derived.Test.YtlmefodpnhpghaaPe
namespace Go.Proofs.YtlmefodpnhpghaaD
open Go Go.Proofs.YtlmefodpnhpghaaS Go.Proofs
set_option linter.unusedVariables false
set_option linter.unusedSimpArgs false
section
variable {X : Type}
theorem fU_first (es : List Ex) : ∀ i j, fU es i = some j → ∀ m, m < j → (es.getD j default).a < (es.getD m default).a
  | 0, j, h, m, hm => by cases h
  | i + 1, j, h, m, hm => by
    unfold fU at h
    cases e : fU es i with
    | none => rw [e] at h; simp only [Option.some.injEq] at h; subst h
              have : i = 0 := by
                cases i with
                | zero => rfl
                | succ i => unfold fU at e; split at e <;> (try split at e) <;> cases e
              omega
    | some q =>
      rw [e] at h
      simp only at h
      split at h
      · next hc =>
        simp only [Option.some.injEq] at h
        subst h
        have hq := fU_first es i q e
        rcases Nat.lt_or_ge m q with h1 | h1
        · have := hq m h1; omega
        · rcases Nat.eq_or_lt_of_le h1 with rfl | h1
          · exact hc
          · exact Int.lt_of_lt_of_le hc (fU_le es i q e m hm)
      · simp only [Option.some.injEq] at h
        subst h
        exact fU_first es i q e m hm
where fU_le (es : List Ex) : ∀ i j, fU es i = some j → ∀ m, m < i → (es.getD j default).a ≤ (es.getD m default).a
  | 0, j, h, m, hm => by cases h
  | i + 1, j, h, m, hm => by
    unfold fU at h
    cases e : fU es i with
    | none =>
      rw [e] at h; simp only [Option.some.injEq] at h; subst h
      have : i = 0 := by
        cases i with
        | zero => rfl
        | succ i => unfold fU at e; split at e <;> (try split at e) <;> cases e
      have : m = i := by omega
      subst this; exact Int.le_refl _
    | some q =>
      rw [e] at h
      simp only at h
      have hq := fU_le es i q e
      split at h
      · next hc =>
        simp only [Option.some.injEq] at h
        subst h
        rcases Nat.lt_or_ge m i with h1 | h1
        · have := hq m h1; omega
        · have : m = i := by omega
          subst this; exact Int.le_refl _
      · next hc =>
        simp only [Option.some.injEq] at h
        subst h
        rcases Nat.lt_or_ge m i with h1 | h1
        · exact hq m h1
        · have : m = i := by omega
          subst this; omega
def allI (es : List Ex) (j i : Nat) : List Ex := if i ≤ j then es.take i else if (es.getD j default).l = 0 then (es.eraseIdx j).take (i - 1) else (es.set j (upX (es.getD j default))).take i
theorem allI_lt {es : List Ex} {j i : Nat} (h : i < j) (hi : i < es.length) : allI es j (i + 1) = allI es j i ++ [es[i]] := by
  unfold allI
  rw [if_pos (by omega), if_pos (by omega), List.take_succ_eq_append_getElem hi]
theorem allI_eq {es : List Ex} {j : Nat} (hj : j < es.length) : allI es j (j + 1) = allI es j j ++ (if (es.getD j default).l = 0 then [] else [upX (es.getD j default)]) := by
  unfold allI
  rw [if_neg (by omega), if_pos (Nat.le_refl _)]
  split
  · rw [List.append_nil, Nat.add_sub_cancel, List.eraseIdx_eq_take_drop_succ, List.take_append_of_le_length (by simp; omega), List.take_take, Nat.min_self]
  · rw [List.take_succ_eq_append_getElem (by simpa using hj)]
    congr 1
    · rw [List.take_set_of_le (Nat.le_refl _)]
    · simp
theorem allI_gt {es : List Ex} {j i : Nat} (h : j < i) (hi : i < es.length) : allI es j (i + 1) = allI es j i ++ [es[i]] := by
  unfold allI
  rw [if_neg (show ¬ i + 1 ≤ j by omega), if_neg (show ¬ i ≤ j by omega)]
  by_cases hl : (es.getD j default).l = 0
  · rw [if_pos hl, if_pos hl]
    obtain ⟨i, rfl⟩ : ∃ q, i = q + 1 := ⟨i - 1, by omega⟩
    rw [Nat.add_sub_cancel, Nat.add_sub_cancel]
    have hlen : i < (es.eraseIdx j).length := by rw [List.length_eraseIdx, if_pos (by omega)]; omega
    rw [List.take_succ_eq_append_getElem hlen, List.getElem_eraseIdx_of_ge hlen (by omega)]
  · rw [if_neg hl, if_neg hl, List.take_succ_eq_append_getElem (by simpa using hi), List.getElem_set_ne (by omega)]
theorem allI_len (es : List Ex) (j i : Nat) : (allI es j i).length ≤ i := by
  unfold allI
  split
  · simp; omega
  · split <;> simp <;> omega
theorem allI_all {es : List Ex} {j : Nat} (hj : j < es.length) : allI es j es.length = upE es j := by
  unfold allI upE
  rw [if_neg (by omega)]
  split
  · rw [List.take_of_length_le (by rw [List.length_eraseIdx, if_pos hj]; exact Nat.le_refl _)]
  · rw [List.take_of_length_le (by simp)]
theorem pass2_in {k : Nat} (K : List CV × Int × Nat × List CV → Option X) (rec : Nat × List CV × Int × List CV → Option X) (es : List Ex) (acc : List Snt) (now : Int) (j : Nat) (hj : fU es es.length = some j) (hg : Goods es) (hk : es.length < k) (hl : es.length < 1000000) (ha : acc.length < 1000000) :
    iterV (f22_L2 k K rec) k (acc.length, (es.getD j default).a, 0, false, 0, row2 es, now, srow acc, []) = rec ((acc ++ [upS (es.getD j default)]).length, row2 (upE es j), now, srow (acc ++ [upS (es.getD j default)])) := by
  have hfirst := fU_first es _ _ hj
  have hj2 : j < es.length := by
    rcases fU_spec es es.length (Nat.le_refl _) with ⟨_, h⟩ | ⟨q, h, h2, _⟩
    · rw [h] at hj; cases hj
    · rw [h] at hj; cases hj; exact h2
  generalize hat : (es.getD j default).a = at_ at *
  have hgj : es.getD j default = es[j] := by simp [List.getD_eq_getElem?_getD, List.getElem?_eq_getElem hj2]
  refine iterV_spec (T := f22_L2 k K rec) (fun i => ((if i ≤ j then acc else acc ++ [upS es[j]]).length, at_, (allI es j i).length, decide (j < i), (i : Int), row2 es, now, srow (if i ≤ j then acc else acc ++ [upS es[j]]), row2 (allI es j i))) (fun i => rec ((acc ++ [upS (es.getD j default)]).length, row2 (upE es j), now, srow (acc ++ [upS (es.getD j default)]))) es.length (fun i r hi hx => ?_) (fun r => ?_) k 0 (Nat.zero_le _) (by omega)
  · rw [← hx]
    unfold f22_L2 f22_T2
    have hal := allI_len es j i
    have hgi : es.getD i default = es[i] := by simp [List.getD_eq_getElem?_getD, List.getElem?_eq_getElem hi]
    have e2 : List.take (allI es j i).length (row2 (allI es j i)) = row2 (allI es j i) := List.take_of_length_le (by rw [row2_length]; exact Nat.le_refl _)
    have e3 : ∀ x : Ex, List.take 1 (List.drop 0 [CV.agg [CV.int .i64 x.t, CV.int .i64 x.i, CV.slc none (by8 x.d), CV.int .i64 x.a, CV.int .i64 x.w, CV.int .i64 ((4 : Int) - x.l)]]) = row2 [x] := fun x => rfl
    have e4 : ∀ x : Ex, (row2 [x]).length = 1 := fun n => rfl
    have e5 : List.take acc.length (srow acc) = srow acc := List.take_of_length_le (by simp [srow])
    simp only [f22_J1, row2_length, row2_get, Int.toNat_natCast, List.getElem?_eq_getElem hi, Option.map_some, Option.bind_some, grd_true, dec0, decLt, hi, decide_true, cond_true, e2_isA, e2_0, e2_1, e2_2, e2_3, e2_4, e2_5, isI_int, isL_slc, toI_int, toL_slc, e2, e3, e4, ← row2_append, wrap64_succ (show i < 4611686018427387904 by omega), grd_dec (show ((allI es j i).length + 1) * 64 ≤ 140737488355328 by omega)]
    rcases Nat.lt_trichotomy i j with h | h | h
    · have h1 : es[i].a ≠ at_ := by
        have := hfirst i h
        rw [hgi] at this
        omega
      rw [decide_eq_false (by omega : ¬ j < i), bne_t h1, allI_lt h hi, if_pos (by omega), if_pos (by omega), decide_eq_false (by omega : ¬ j < i + 1), List.length_append]
      rfl
    · subst h
      have h1 : (es[i].a != at_) = false := by rw [← hat, hgi]; exact bne_self_eq_false _
      have hgd := hg es[i] (List.getElem_mem hi)
      have w2 := hgd.w2; have w0 := hgd.w0; have a0 := hgd.a0; have a1 := hgd.a1; have l1 := hgd.l1
      rw [decide_eq_false (by omega : ¬ i < i), h1, if_pos (Nat.le_refl _), if_neg (by omega), decide_eq_true (by omega : i < i + 1), allI_eq hj2, hgi]
      have eb : ((4 : Int) - (es[i].l : Int) == 4) = (es[i].l == 0) := by
        by_cases h0 : es[i].l = 0
        · simp [h0]
        · have : (4 : Int) - (es[i].l : Int) ≠ 4 := by omega
          rw [beq_f this]; simp [h0]
      have es1 : List.take 1 (List.drop 0 [CV.agg [CV.int .i64 es[i].t, CV.int .i64 es[i].i, CV.slc none (by8 es[i].d), CV.bool (es[i].l == 0)]]) = srow [upS es[i]] := rfl
      have es2 : (srow [upS es[i]]).length = 1 := rfl
      simp only [cond_false, eb, es1, es2, e5, ← srow_append]
      rw [grd_dec (show (acc.length + 1) * 48 ≤ 140737488355328 by omega)]
      by_cases h0 : es[i].l = 0
      · have hd : ¬ ((4 : Int) - (es[i].l : Int) < 4) := by omega
        rw [if_pos h0]
        simp only [hd, decide_false, cond_false, List.append_nil, List.length_append, List.length_singleton, es2]
      · have hd : (4 : Int) - (es[i].l : Int) < 4 := by omega
        have ew : IntKind.wrap .i64 (es[i].w * 2) = es[i].w * 2 := wrap64 (by omega) (by omega)
        have ew2 : IntKind.wrap .i64 (es[i].a + es[i].w * 2) = es[i].a + es[i].w * 2 := wrap64 (by omega) (by omega)
        have ew3 : IntKind.wrap .i64 ((4 : Int) - (es[i].l : Int) + 1) = (4 : Int) - ((es[i].l - 1 : Nat) : Int) := by rw [wrap64 (by omega) (by omega)]; omega
        rw [if_neg h0]
        simp only [hd, decide_true, cond_true, clock_eq, ew, ew2, ew3, cl_mx (show 0 ≤ es[i].a + es[i].w * 2 by omega)]
        have eu : List.take 1 (List.drop 0 [CV.agg [CV.int .i64 es[i].t, CV.int .i64 es[i].i, CV.slc none (by8 es[i].d), CV.int .i64 (mx (es[i].a + es[i].w * 2)), CV.int .i64 (es[i].w * 2), CV.int .i64 ((4 : Int) - ((es[i].l - 1 : Nat) : Int))]]) = row2 [upX es[i]] := rfl
        simp only [eu, e4, ← row2_append]
        rw [grd_dec (show ((allI es i i).length + 1) * 64 ≤ 140737488355328 by omega), List.length_append, List.length_append]
        rfl
    · rw [decide_eq_true h, if_neg (by omega), if_neg (by omega), decide_eq_true (by omega : j < i + 1), allI_gt h hi]
      simp only [cond_true, List.length_append, List.length_singleton]
  · unfold f22_L2 f22_T2
    have e2 : List.take (allI es j es.length).length (List.drop 0 (row2 (allI es j es.length))) = row2 (allI es j es.length) := by rw [List.drop_zero, List.take_of_length_le (by rw [row2_length]; exact Nat.le_refl _)]
    simp only [row2_length, decLt, Nat.lt_irrefl, decide_false, cond_false, e2]
    rw [if_neg (by omega), allI_all hj2, hgj]
theorem pass2_loop {k0 : Nat} (K : List CV × Int × Nat × List CV → Option X) (now : Int) : ∀ (n k : Nat) (es : List Ex) (acc : List Snt), meas es ≤ n → n < k → n < k0 → Goods es → acc.length + n < 1000000 →
    iterV (f22_L1 k0 K) k (acc.length, row2 es, now, srow acc) = K (row2 (passP n now es).2, now, (acc ++ (passP n now es).1).length, srow (acc ++ (passP n now es).1))
  | n, 0, es, acc, hm, hk, _, _, _ => absurd hk (Nat.not_lt_zero _)
  | n, k + 1, es, acc, hm, hk, hk0, hg, hacc => by
    have hle := meas_len es
    show f22_L1 k0 K (iterV (f22_L1 k0 K) k) _ = _
    have ihn := fun n' => pass2_loop (k0 := k0) K now n' k
    generalize iterV (f22_L1 k0 K) k = R at *
    unfold f22_L1 f22_T1
    simp only
    rw [show (CV.agg [CV.slc (some 6) (row2 es), CV.int .i64 now]) = tab es now from rfl, next2_eq _ _ _ (by omega) (by omega)]
    have et : List.take (0 + acc.length) (srow acc) = srow acc := by rw [Nat.zero_add]; exact List.take_of_length_le (by simp [srow])
    rcases fU_spec es es.length (Nat.le_refl _) with ⟨h0, h1⟩ | ⟨j, h1, h2, h3⟩
    · rw [h1]
      have hp : passP n now es = ([], es) := by
        cases n with
        | zero => rfl
        | succ n => unfold passP; rw [h1]
      simp only [Bool.not_false, cond_true, et]
      rw [hp, List.append_nil]
    · rw [h1]
      obtain ⟨n, rfl⟩ : ∃ n', n = n' + 1 := ⟨n - 1, by omega⟩
      have hp : passP (n + 1) now es = if (es.getD j default).a > now then ([], es) else (upS (es.getD j default) :: (passP n now (upE es j)).1, (passP n now (upE es j)).2) := by
        show (match fU es es.length with
          | none => ([], es)
          | some i => if (es.getD i default).a > now then ([], es) else (upS (es.getD i default) :: (passP n now (upE es i)).1, (passP n now (upE es i)).2)) = _
        rw [h1]
      rw [hp]
      simp only [Bool.not_true, cond_false]
      by_cases hc : (es.getD j default).a > now
      · rw [decide_eq_true hc, if_pos hc]
        simp only [cond_true, et, List.append_nil]
      · rw [decide_eq_false hc, if_neg hc]
        simp only [cond_false]
        have hm2 := meas_up h2
        rw [pass2_in K R es acc now j h1 hg (by omega) (by omega) (by omega)]
        have ih := ihn n (upE es j) (acc ++ [upS (es.getD j default)]) (by omega) (by omega) (by omega) (upE_good hg h2) (by rw [List.length_append, List.length_singleton]; omega)
        rw [ih, List.append_assoc]
        rfl
theorem pass2_eq {k : Nat} (K : List CV × Int × Nat × List CV → Option X) (es : List Ex) (n now : Int) (f : Nat) (hf : meas es ≤ f) (hk : f < k) (hf2 : f < 100000) (hg : Goods es) (h0 : 0 ≤ now) (h1 : now ≤ 1099511627776) :
    f22 k K (tab es now) n = K (row2 (passP f (clk n now) es).2, clk n now, (passP f (clk n now) es).1.length, srow (passP f (clk n now) es).1) := by
  unfold f22 f22_T
  simp only [tab_isA, tab_0, tab_1, isL_slc, isI_int, toI_int, toL_slc, grd_true]
  rw [show (CV.agg [CV.slc (some 6) (row2 es), CV.int .i64 now]) = tab es now from rfl, later_eq _ _ _ _ h0 h1]
  have := pass2_loop (k0 := k) K (clk n now) f k es [] hf hk hk hg (by simp; omega)
  rw [show srow [] = [] from rfl] at this
  simpa using this
/-- What holds of the table at all times. -/
structure Ok (es : List Ex) (now : Int) : Prop where
  good : Goods es
  len : es.length ≤ 4
  uniq : Uniq es
  n0 : 0 ≤ now
  n1 : now ≤ 1099511627776
theorem clk_ok {n now : Int} (h0 : 0 ≤ now) (h1 : now ≤ 1099511627776) : 0 ≤ clk n now ∧ clk n now ≤ 1099511627776 := by
  unfold clk
  repeat' split
  all_goals omega
theorem Ok.start {es : List Ex} {now : Int} (h : Ok es now) (a b n r : Int) (d : List Int) (hd : d.length ≤ 200) : Ok (startP es a b d (clk n now) r).2 (clk n now) := by
  have hc := clk_ok (n := n) h.n0 h.n1
  refine ⟨start_good h.good _ _ _ _ _ (by omega) hc.1 hc.2, ?_, ?_, hc.1, hc.2⟩
  · have := h.len
    unfold startP
    split
    · exact this
    · split
      · exact this
      · simp; omega
  · unfold startP
    cases ha : es.any (is a b) with
    | true => exact h.uniq
    | false =>
      simp only [Bool.false_eq_true, if_false]
      split
      · exact h.uniq
      · refine List.pairwise_append.2 ⟨h.uniq, List.pairwise_singleton _ _, fun x hx y hy => ?_⟩
        rw [List.mem_singleton] at hy
        subst hy
        rw [List.any_eq_false] at ha
        have := ha x hx
        rw [is_iff] at this
        exact this
theorem Ok.stop {es : List Ex} {now : Int} (h : Ok es now) (a b : Int) : Ok (stopP es a b) now := by
  rw [filter_uniq h.uniq]
  exact ⟨fun x hx => h.good x (List.mem_filter.1 hx).1, Nat.le_trans (List.length_filter_le _ _) h.len, List.Pairwise.sublist List.filter_sublist h.uniq, h.n0, h.n1⟩
theorem upE_uniq {es : List Ex} (h : Uniq es) {i : Nat} (hi : i < es.length) : Uniq (upE es i) := by
  have hg : es.getD i default = es[i] := by simp [List.getD_eq_getElem?_getD, List.getElem?_eq_getElem hi]
  unfold upE
  rw [hg]
  split
  · exact List.Pairwise.sublist (List.eraseIdx_sublist _ _) h
  · have h' : (es.map fun x => (x.t, x.i)).Pairwise (fun p q => ¬ (p.1 = q.1 ∧ p.2 = q.2)) := List.pairwise_map.2 h
    have e : (es.set i (upX es[i])).map (fun x => (x.t, x.i)) = es.map fun x => (x.t, x.i) := by
      rw [List.map_set]
      refine List.ext_getElem (by simp) (fun j h1 h2 => ?_)
      rw [List.getElem_set]
      split
      · next e => subst e; simp [upX]
      · rfl
    exact List.pairwise_map.1 (e ▸ h')
theorem upE_len (es : List Ex) (i : Nat) : (upE es i).length ≤ es.length := by
  unfold upE
  split
  · exact List.length_eraseIdx_le _ _
  · simp
theorem passP_ok : ∀ (n : Nat) (now : Int) (es : List Ex), Uniq es → Uniq (passP n now es).2 ∧ (passP n now es).2.length ≤ es.length
  | 0, now, es, h => ⟨h, Nat.le_refl _⟩
  | n + 1, now, es, h => by
    rcases fU_spec es es.length (Nat.le_refl _) with ⟨h0, h1⟩ | ⟨j, h1, h2, h3⟩
    · have e : passP (n + 1) now es = ([], es) := by unfold passP; rw [h1]
      rw [e]; exact ⟨h, Nat.le_refl _⟩
    · have e : passP (n + 1) now es = if (es.getD j default).a > now then ([], es) else (upS (es.getD j default) :: (passP n now (upE es j)).1, (passP n now (upE es j)).2) := by
        show (match fU es es.length with
          | none => ([], es)
          | some i => if (es.getD i default).a > now then ([], es) else (upS (es.getD i default) :: (passP n now (upE es i)).1, (passP n now (upE es i)).2)) = _
        rw [h1]
      rw [e]
      split
      · exact ⟨h, Nat.le_refl _⟩
      · have := passP_ok n now (upE es j) (upE_uniq h h2)
        exact ⟨this.1, Nat.le_trans this.2 (upE_len es j)⟩
theorem Ok.pass {es : List Ex} {now : Int} (h : Ok es now) (n : Int) : Ok (passP 20 (clk n now) es).2 (clk n now) := by
  have hc := clk_ok (n := n) h.n0 h.n1
  have hm := meas_le h.good
  have hl := h.len
  have sp := passP_spec 20 (clk n now) es (by omega) h.good
  have su := passP_ok 20 (clk n now) es h.uniq
  exact ⟨sp.1, by omega, su.1, hc.1, hc.2⟩
theorem Ok.nil {es : List Ex} {now : Int} (h : Ok es now) : Ok [] now := ⟨fun x hx => (by cases hx), Nat.zero_le _, List.Pairwise.nil, h.n0, h.n1⟩
abbrev V6 := List CV × Int × Int × List CV × Int × Nat × Int × List CV
/-- What is asked behind each step. -/
theorem asked_eq {k : Nat} (K : Bool → Option X) (o : OpT) (rec : V6 → Option X) (v : V6) {es : List Ex} {now : Int} (h : Ok es now) (hk : 1000 ≤ k) :
    f6_J1 k K (opv o) rec v (row2 es, now, es.length, now, row es) = rec (v.1, v.2.1, IntKind.wrap .i64 (v.2.2.1 + 1), row2 es, now, es.length, now, row es) := by
  have hl := h.len
  unfold f6_J1
  simp only [f19_h_eq, f24_h_eq, f18_h_eq, f13_h_eq, f25_h_eq, opv_1, opv_2, toI_int]
  rw [next_eq _ _ _ (by omega) (by omega)]
  have hN : ∀ KK : Int × Bool → Option X, f24 k KK (CV.agg [CV.slc (some 6) (row2 es), CV.int .i64 now]) = (match fU es es.length with
    | none => KK (0, false)
    | some i => KK ((es.getD i default).a, true)) := fun KK => next2_eq KK es now (by omega) (by omega)
  have hH : ∀ (KK : Bool → Option X) (a b : Int), f25 k KK (CV.agg [CV.slc (some 6) (row2 es), CV.int .i64 now]) a b = KK (es.any (is a b)) := fun KK a b => has2_eq KK es now a b (by omega) (by omega)
  have hL : ∀ KK : Int × Nat × Int × List CV → Option X, f18 k KK es.length now (row es) = KK ((es.length : Nat), es.length, now, row es) := fun KK => len_eq KK es now
  have hA : ∀ (KK : Bool × Nat × Int × List CV → Option X) (a b : Int), f13 k KK a b es.length now (row es) = KK (es.any (is a b), es.length, now, row es) := fun KK a b => has_eq KK es a b now (by omega) (by omega)
  cases hfu : fU es es.length <;> simp only [hN, hfu] <;> simp only [bne_self_eq_false, beq_self_eq_true, Bool.not_true, cond_false, hL, hA, hH, row2_length]
theorem step3_eq {k : Nat} (K : Bool → Option X) (o : OpT) (rec : V6 → Option X) (w : List CV) (n i : Int) {es : List Ex} {now : Int} (h : Ok es now) (ho : o.2.2.2.1.length ≤ 200) (hk : 200000 ≤ k) (b : Bool) :
    ∃ es2 now2, Ok es2 now2 ∧ f6_J2 k K (opv o) rec (w, n, i, row2 es, now, es.length, now, row es) b = rec (w, n, IntKind.wrap .i64 (i + 1), row2 es2, now2, es2.length, now2, row es2) := by
  have hm := meas_le h.good
  have hl := h.len
  unfold f6_J2
  simp only [f11_h_eq, f22_h_eq, f17_h_eq, f16_h_eq, f23_h_eq, opv_0, opv_4, toI_int]
  cases b with
  | true =>
    refine ⟨_, _, h.pass o.2.2.2.2.1, ?_⟩
    simp only [cond_true]
    rw [pass_eq _ _ _ _ 20 (by omega) (by omega) (by omega) h.good]
    have sp := passP_spec 20 (clk o.2.2.2.2.1 now) es (by omega) h.good
    have hd := passP_d 20 (clk o.2.2.2.2.1 now) es h.good
    refine (pass2_eq _ es o.2.2.2.2.1 now 20 (by omega) (by omega) (by omega) h.good h.n0 h.n1).trans ?_
    have hok := h.pass o.2.2.2.2.1
    generalize passP 20 (clk o.2.2.2.2.1 now) es = r at *
    have e1 : List.take r.1.length (List.drop 0 (srow r.1)) = srow r.1 := by rw [List.drop_zero, List.take_of_length_le (by simp [srow])]
    simp only [e1]
    rw [as_eq _ _ (by omega) (by omega)]
    simp only [e1]
    rw [sameS_eq _ _ (by omega) (by omega) (by omega) hd]
    simp only [Bool.not_true, cond_false]
    exact asked_eq K o rec _ hok (by omega)
  | false =>
    simp only [cond_false]
    cases hb : (o.1 == 5) with
    | true =>
      refine ⟨[], now, h.nil, ?_⟩
      have := asked_eq K o rec (w, n, i, row2 es, now, es.length, now, row es) h.nil (show 1000 ≤ k by omega)
      simp only [cond_true, f23, f23_T]
      exact this
    | false =>
      refine ⟨es, now, h, ?_⟩
      have := asked_eq K o rec (w, n, i, row2 es, now, es.length, now, row es) h (show 1000 ≤ k by omega)
      simp only [cond_false]
      exact this
theorem step_eq {k : Nat} (K : Bool → Option X) (o : OpT) (rec : V6 → Option X) (w : List CV) (n i : Int) {es : List Ex} {now : Int} (h : Ok es now) (ho : o.2.2.2.1.length ≤ 200) (hk : 200000 ≤ k) (b : Bool) :
    ∃ es2 now2, Ok es2 now2 ∧ f6_J3 k K (opv o) rec (w, n, i, row2 es, now, es.length, now, row es) b = rec (w, n, IntKind.wrap .i64 (i + 1), row2 es2, now2, es2.length, now2, row es2) := by
  have hl := h.len
  have hc := clk_ok (n := o.2.2.2.2.1) h.n0 h.n1
  unfold f6_J3
  simp only [f10_h_eq, f20_h_eq, f14_h_eq, f21b_h_eq, opv_0, opv_1, opv_2, opv_3, opv_4, opv_5, toI_int, toL_slc]
  cases b with
  | true =>
    have hok := h.start o.2.1 o.2.2.1 o.2.2.2.2.1 o.2.2.2.2.2.1 o.2.2.2.1 ho
    refine ⟨_, _, hok, ?_⟩
    simp only [cond_true]
    rw [start_eq _ es _ _ _ _ _ _ (by omega) (by omega) (by omega) hc.1]
    refine (start2_eq _ es o.2.1 o.2.2.1 o.2.2.2.2.1 o.2.2.2.2.2.1 now o.2.2.2.1 (by omega) (by omega) (by omega) (by omega) h.n0 h.n1).trans ?_
    simp only [bne_self_eq_false, cond_false]
    exact asked_eq K o rec _ hok (by omega)
  | false =>
    simp only [cond_false]
    cases hb : (o.1 == 2) with
    | true =>
      have hok := h.stop o.2.1 o.2.2.1
      refine ⟨_, _, hok, ?_⟩
      simp only [cond_true]
      rw [stop_eq _ es _ _ _ (by omega) (by omega)]
      refine (stop2_eq _ es o.2.1 o.2.2.1 now (by omega) (by omega) h.uniq).trans ?_
      simp only [beq_self_eq_true, Bool.not_true, cond_false]
      have e1 : ∀ l : List Ex, List.take l.length (List.drop 0 (row2 l)) = row2 l := fun l => by rw [List.drop_zero, List.take_of_length_le (by simp [row2])]
      rw [e1]
      exact asked_eq K o rec _ hok (by omega)
    | false =>
      simp only [cond_false]
      cases hb3 : (o.1 == 3) with
      | true => exact step3_eq K o rec w n i h ho hk true
      | false => exact step3_eq K o rec w n i h ho hk (o.1 == 4)
theorem plays_loop {k0 : Nat} (K : Bool → Option X) (ops : List OpT) (hf : fewB ops = true) (hk0 : 200000 ≤ k0) (hl : ops.length ≤ 60) : ∀ (k i : Nat) (es : List Ex) (now : Int), ops.length - i < k → i ≤ ops.length → Ok es now →
    iterV (f6_L1 k0 K) k (ops.map opv, ((ops.length : Nat) : Int), ((i : Nat) : Int), row2 es, now, es.length, now, row es) = K true
  | 0, i, es, now, hk, _, _ => absurd hk (Nat.not_lt_zero _)
  | k + 1, i, es, now, hk, hi, h => by
    show f6_L1 k0 K (iterV (f6_L1 k0 K) k) _ = _
    have ih := plays_loop K ops hf hk0 hl k
    generalize iterV (f6_L1 k0 K) k = R at *
    unfold f6_L1 f6_T1
    rcases Nat.lt_or_ge i ops.length with hlt | hge
    · have ho : ops[i].2.2.2.1.length ≤ 200 := by
        unfold fewB at hf
        rw [List.all_eq_true] at hf
        simpa using hf _ (List.getElem_mem hlt)
      simp only [List.getElem?_map, Int.toNat_natCast, List.getElem?_eq_getElem hlt, Option.map_some, Option.bind_some, grd_true, dec0, decLt, hlt, decide_true, cond_true, opv_isA, opv_0, opv_1, opv_2, opv_3, opv_4, opv_5, isI_int, isL_slc, toI_int]
      have fin : ∀ b, f6_J3 k0 K (opv ops[i]) R (ops.map opv, ((ops.length : Nat) : Int), ((i : Nat) : Int), row2 es, now, es.length, now, row es) b = K true := fun b => by
        obtain ⟨es2, now2, h2, e⟩ := step_eq K ops[i] R (ops.map opv) ((ops.length : Nat) : Int) ((i : Nat) : Int) h ho hk0 b
        rw [e, wrap64_succ (by omega)]
        exact ih (i + 1) es2 now2 (by omega) (by omega) h2
      cases hb : (ops[i].1 == 0) with
      | true => simp only [cond_true]; exact fin true
      | false => simp only [cond_false]; exact fin (ops[i].1 == 1)
    · have : i = ops.length := by omega
      subst this
      simp only [decLt, Nat.lt_irrefl, decide_false, cond_false]
theorem plays_eq {k : Nat} (K : Bool → Option X) (ops : List OpT) (hk : 300000 + ops.length ≤ k) (hl : ops.length < 9223372036854775808) : f6 k K (ops.map opv) = K true := by
  unfold f6 f6_T
  simp only [f7_h_eq, f15_h_eq, f8_h_eq]
  obtain ⟨n, rfl⟩ : ∃ n, k = n + 20 := ⟨k - 20, by omega⟩
  rw [alive_eq]
  simp only [Bool.not_true, cond_false]
  rw [small_eq _ _ (by omega) hl]
  cases hs : (fewB ops && decide (ops.length ≤ 60)) with
  | false => rfl
  | true =>
    rw [Bool.and_eq_true] at hs
    obtain ⟨hf, h60⟩ := hs
    have h60 : ops.length ≤ 60 := of_decide_eq_true h60
    simp only [Bool.not_true, cond_false, List.length_map]
    rw [new_eq]
    exact plays_loop K ops hf (by omega) h60 (n + 20) 0 [] 0 (by omega) (Nat.zero_le _) ⟨fun x hx => (by cases hx), Nat.zero_le _, List.Pairwise.nil, Int.le_refl _, by decide⟩
theorem law_plays (ops : List OpT) (hw : ops.length ≤ maxLen ∧ ∀ x ∈ ops, (Lit.int .i64 x.1).wf = true ∧ (Lit.int .i64 x.2.1).wf = true ∧ (Lit.int .i64 x.2.2.1).wf = true ∧ (x.2.2.2.1.length ≤ maxLen ∧ ∀ y ∈ x.2.2.2.1, (Lit.int .u8 y).wf = true) ∧ (Lit.int .i64 x.2.2.2.2.1).wf = true ∧ (Lit.int .i64 x.2.2.2.2.2.1).wf = true ∧ True) :
    ∃ k, ∀ K : Bool → Option Out, f6 k K (ops.map opv) = K true := ⟨300000 + ops.length, fun K => plays_eq K ops (Nat.le_refl _) (Nat.lt_of_le_of_lt hw.1 maxLen_lt)⟩
end
end Go.Proofs.YtlmefodpnhpghaaD
