/- What is found in a list: the law (within the form's own reach). -/
import Derived.Test.YtkkknhfbcflkfaaPk
namespace Go.Proofs.YtkkknhfbcflkfaaD
open Go Go.Proofs.YtkkknhfbcflkfaaS Go.Proofs
set_option linter.unusedVariables false
set_option linter.unusedSimpArgs false
section
variable {X : Type}
/-- What comes in fits its types and the reach. -/
def TS.wz : TS → Prop
  | .nil => True
  | .cons k i v ks r => (Lit.int .i64 k).wf = true ∧ (Lit.int .i64 i).wf = true ∧ (v.length ≤ reachBytes ∧ ∀ y ∈ v, (Lit.int .u8 y).wf = true) ∧ (ks.len ≤ reachBytes ∧ ks.wz) ∧ r.wz
theorem ofL_wz : ∀ l : List (Int × Int × List Int × TS × Unit), (∀ a ∈ l, (Lit.int .i64 a.1).wf = true ∧ (Lit.int .i64 a.2.1).wf = true ∧ (a.2.2.1.length ≤ reachBytes ∧ ∀ y ∈ a.2.2.1, (Lit.int .u8 y).wf = true) ∧ (a.2.2.2.1.len ≤ reachBytes ∧ a.2.2.2.1.wz) ∧ True) → (TS.ofL l).wz
  | [], _ => trivial
  | a :: l, h => by
    obtain ⟨h1, h2, h3, h4, _⟩ := h a List.mem_cons_self
    exact ⟨h1, h2, h3, h4, ofL_wz l fun b hb => h b (List.mem_cons_of_mem _ hb)⟩
theorem reach_lt : reachBytes ≤ 140737488355328 := by decide
theorem TS.wz.ok : ∀ {ts : TS}, ts.wz → ts.ok
  | .nil, _ => trivial
  | .cons _ _ _ _ _, h => by
    have := reach_lt
    exact ⟨by have := h.2.2.1.1; omega, by have := h.2.2.2.1.1; omega, h.2.2.2.1.2.ok, h.2.2.2.2.ok⟩
/-- How many bytes. -/
def TS.byts : TS → Nat
  | .nil => 0
  | .cons _ _ v ks r => v.length + ks.byts + r.byts
theorem byts_cnt : ∀ {ts : TS}, ts.wz → ts.byts ≤ 140737488355328 * ts.cnt
  | .nil, _ => Nat.zero_le _
  | .cons k i v ks r, h => by
    have h1 := byts_cnt h.2.2.2.1.2
    have h2 := byts_cnt h.2.2.2.2
    have h3 := h.2.2.1.1
    have := reach_lt
    simp only [TS.byts, TS.cnt]
    omega
theorem byW_le : ∀ (ts : TS) (L n : Int), 0 ≤ n → L ≤ 1000000 → n + ts.byts ≤ 100000000000000000 → n ≤ byW ts L n ∧ byW ts L n ≤ n + ts.byts ∧ (byW ts L n ≤ L → byW ts L n = n + ts.byts)
  | .nil, L, n, h0, hL, hb => by simp [byW, TS.byts]
  | .cons k i v ks r, L, n, h0, hL, hb => by
    simp only [TS.byts] at hb ⊢
    unfold byW
    split
    · next h =>
      rw [wrap64 (n := L - n) (by omega) (by omega), wrap64 (n := n + (v.length : Int)) (by omega) (by omega)]
      obtain ⟨k1, k2, k3⟩ := byW_le ks (L - n) 0 (by omega) (by omega) (by omega)
      rw [wrap64 (by omega) (by omega)]
      obtain ⟨r1, r2, r3⟩ := byW_le r L (n + (v.length : Int) + byW ks (L - n) 0) (by omega) hL (by omega)
      refine ⟨by omega, by omega, fun hh => ?_⟩
      have := k3 (by omega)
      have := r3 hh
      omega
    · next h => exact ⟨by omega, by omega, fun hh => by omega⟩
theorem few_small {ts : TS} (h : few ts = true) (hw : ts.wz) : ts.cnt ≤ 100 ∧ ts.byts ≤ 4000 := by
  unfold few at h
  rw [ctW_min ts 100 0 (by omega) (by omega) (by omega)] at h
  by_cases c : ts.cnt ≤ 100
  · rw [decide_eq_true (show min (0 + (ts.cnt : Int)) (100 + 1) ≤ 100 by omega)] at h
    have h2 : byW ts 4000 0 ≤ 4000 := of_decide_eq_true h
    have hb := byts_cnt hw
    obtain ⟨q1, q2, q3⟩ := byW_le ts 4000 0 (by omega) (by omega) (by omega)
    have := q3 h2
    exact ⟨c, by omega⟩
  · rw [decide_eq_false (show ¬ min (0 + (ts.cnt : Int)) (100 + 1) ≤ 100 by omega)] at h
    cases h
theorem small_fit : ∀ {ts : TS}, ts.wz → ts.byts ≤ 4000 → ts.fit
  | .nil, _, _ => trivial
  | .cons k i v ks r, h, hb => by
    simp only [TS.byts] at hb
    exact ⟨by omega, byt_wf h.2.2.1.2, small_fit h.2.2.2.1.2 (by omega), small_fit h.2.2.2.2 (by omega)⟩
/-- One TLV, copied, with its kids. -/
theorem copied_loop : ∀ (ts : TS) (k kk i : Nat) (R : List CV) (a id : Int) (v : List Int) (A : List CV) (K : Int × Int × Nat × Nat × List CV × List CV → Option X), ts.sz + 10 < k → ts.len < kk → R.drop i = ts.row → R.length ≤ 9223372036854775807 → ts.cnt ≤ 100 → ts.byts ≤ 4000 → A.length + ts.len ≤ 1000 →
    iterV (f30_L1 (fun X => @f41 X k) (f30_r k) k K) kk (R, (R.length : Int), (i : Int), a, id, v.length, A.length, by8 v, A) = K (a, id, v.length, A.length + ts.len, by8 v, A ++ ts.row)
  | .nil, k, kk, i, R, a, id, v, A, K, hk, hkk, hR, hl, _, _, _ => by
    obtain ⟨kk, rfl⟩ : ∃ j, kk = j + 1 := ⟨kk - 1, by simp [TS.len] at hkk; omega⟩
    refine (iterV_one _ _ _).trans ?_
    unfold f30_L1 f30_T1
    dsimp only
    have := drop_none hR
    refine (bifF (decide_eq_false (by omega))).trans ?_
    rw [t8, Nat.zero_add, List.take_length]
    show _ = K (a, id, v.length, A.length + 0, by8 v, A ++ [])
    rw [List.append_nil, Nat.add_zero]
  | .cons a' id' v' ks r, k, kk, i, R, a, id, v, A, K, hk, hkk, hR, hl, hc, hb, hA => by
    obtain ⟨kk, rfl⟩ : ∃ j, kk = j + 1 := ⟨kk - 1, by simp [TS.len] at hkk; omega⟩
    obtain ⟨h1, h2, h3⟩ := drop_next hR
    simp only [TS.sz, TS.len, TS.cnt, TS.byts] at hk hkk hc hb hA
    refine (iterV_one _ _ _).trans ?_
    have ih := fun A => copied_loop r k kk (i + 1) R a id v A K (by omega) (by omega) h2 hl (by omega) (by omega)
    generalize hrec : iterV (f30_L1 (fun X => @f41 X k) (f30_r k) k K) kk = rec at *
    unfold f30_L1 f30_T1
    dsimp only
    refine (bifT (decide_eq_true (by omega))).trans ?_
    refine (grdT (dec0 _)).trans ?_
    rw [Int.toNat_natCast]
    refine (bAt h1 _).trans ?_
    refine (grdT rfl).trans ?_
    refine (grdT rfl).trans ?_
    refine (grdT rfl).trans ?_
    refine (grdT rfl).trans ?_
    refine (grdT rfl).trans ?_
    obtain ⟨k', rfl⟩ : ∃ j, k = j + 1 := ⟨k - 1, by omega⟩
    have hls := len_sz ks
    have lc := len_cnt ks
    have hkid : ∀ K' : Int × Int × Nat × Nat × List CV × List CV → Option X, f30_r (k' + 1) X K' (CV.agg [CV.int .i64 a', CV.int .i64 id', CV.slc none (by8 v'), CV.slc (some 4) ks.row]) = K' (a', id', v'.length, ks.len, by8 v', ks.row) := fun K' => by
      have kl := fun h1 h2 h3 h4 h5 h6 h7 => copied_loop ks k' k' 0 ks.row a' id' v' [] K' h1 h2 h3 h4 h5 h6 h7
      refine Eq.trans (b := f30_T (fun X => @f41 X k') (f30_r k') k' K' (iterV (f30_L1 (fun X => @f41 X k') (f30_r k') k' K') k') (CV.agg [CV.int .i64 a', CV.int .i64 id', CV.slc none (by8 v'), CV.slc (some 4) ks.row])) rfl ?_
      generalize iterV (f30_L1 (fun X => @f41 X k') (f30_r k') k' K') k' = lp at kl ⊢
      unfold f30_T
      refine (grdT rfl).trans ?_
      refine (grdT rfl).trans ?_
      refine (grdT rfl).trans ?_
      refine (grdT rfl).trans ?_
      refine (grdT rfl).trans ?_
      refine (clone_eq _ (by8 v') (by rw [by8_length]; omega)).trans ?_
      rw [by8_length]
      refine (kl (by omega) (by omega) rfl (by rw [row_len]; omega) (by omega) (by omega) (by simp; omega)).trans ?_
      rw [List.length_nil, Nat.zero_add, List.nil_append]
    refine (hkid _).trans ?_
    dsimp only
    rw [d8, tk_row, List.take_length, tk1]
    refine (grdT (decide_eq_true (by simp; omega))).trans ?_
    rw [wrap64_n (by omega)]
    have := ih (A ++ [CV.agg [CV.int .i64 a', CV.int .i64 id', CV.slc none (by8 v'), CV.slc (some 4) ks.row]]) (by rw [List.length_append, List.length_singleton]; omega)
    rw [List.length_append] at this
    refine this.trans ?_
    simp only [TS.len, TS.row, List.length_singleton, List.append_assoc, List.singleton_append]
    rw [show A.length + 1 + r.len = A.length + (r.len + 1) by omega]
theorem copied_eq {k : Nat} (K : Int × Int × Nat × Nat × List CV × List CV → Option X) (a id : Int) (v : List Int) (ks : TS) (hk : ks.sz + 20 < k) (hc : ks.cnt ≤ 100) (hb : ks.byts ≤ 4000) (hv : v.length ≤ 4000) :
    f30 k K (CV.agg [CV.int .i64 a, CV.int .i64 id, CV.slc none (by8 v), CV.slc (some 4) ks.row]) = K (a, id, v.length, ks.len, by8 v, ks.row) := by
  obtain ⟨k', rfl⟩ : ∃ j, k = j + 1 := ⟨k - 1, by omega⟩
  have hls := len_sz ks
  have lc := len_cnt ks
  have kl := fun h1 h2 h3 h4 h5 h6 h7 => copied_loop ks k' k' 0 ks.row a id v [] K h1 h2 h3 h4 h5 h6 h7
  refine Eq.trans (b := f30_T (fun X => @f41 X k') (f30_r k') k' K (iterV (f30_L1 (fun X => @f41 X k') (f30_r k') k' K) k') (CV.agg [CV.int .i64 a, CV.int .i64 id, CV.slc none (by8 v), CV.slc (some 4) ks.row])) rfl ?_
  generalize iterV (f30_L1 (fun X => @f41 X k') (f30_r k') k' K) k' = lp at kl ⊢
  unfold f30_T
  refine (grdT rfl).trans ?_
  refine (grdT rfl).trans ?_
  refine (grdT rfl).trans ?_
  refine (grdT rfl).trans ?_
  refine (grdT rfl).trans ?_
  refine (clone_eq _ (by8 v) (by rw [by8_length]; omega)).trans ?_
  rw [by8_length]
  refine (kl (by omega) (by omega) rfl (by rw [row_len]; omega) (by omega) (by omega) (by simp; omega)).trans ?_
  rw [List.length_nil, Nat.zero_add, List.nil_append]
/-- The first one of a kind and an ID. -/
def fnd : TS → Int → Int → Option (List Int × TS)
  | .nil, _, _ => none
  | .cons a i v ks r, kind, id => if a = kind ∧ i = id then some (v, ks) else fnd r kind id
def fA (kind id : Int) : Option (List Int × TS) → Int × Int × Nat × Nat × Bool × List CV × List CV
  | none => (0, 0, 0, 0, false, [], [])
  | some (v, ks) => (kind, id, v.length, ks.len, true, by8 v, ks.row)
theorem find_loop : ∀ (ts : TS) (k kk i : Nat) (R : List CV) (kind id : Int) (K : Int × Int × Nat × Nat × Bool × List CV × List CV → Option X), ts.sz + 30 < k → ts.len < kk → R.drop i = ts.row → R.length ≤ 9223372036854775807 → ts.cnt ≤ 100 → ts.byts ≤ 4000 →
    iterV (f19_L1 (fun X => @f30 X k) k K) kk (kind, id, R, (R.length : Int), (i : Int)) = K (fA kind id (fnd ts kind id))
  | .nil, k, kk, i, R, kind, id, K, hk, hkk, hR, hl, _, _ => by
    obtain ⟨kk, rfl⟩ : ∃ j, kk = j + 1 := ⟨kk - 1, by simp [TS.len] at hkk; omega⟩
    refine (iterV_one _ _ _).trans ?_
    unfold f19_L1 f19_T1
    dsimp only
    have := drop_none hR
    exact bifF (decide_eq_false (by omega))
  | .cons a i' v ks r, k, kk, i, R, kind, id, K, hk, hkk, hR, hl, hc, hb => by
    obtain ⟨kk, rfl⟩ : ∃ j, kk = j + 1 := ⟨kk - 1, by simp [TS.len] at hkk; omega⟩
    obtain ⟨h1, h2, h3⟩ := drop_next hR
    simp only [TS.sz, TS.len, TS.cnt, TS.byts] at hk hkk hc hb
    refine (iterV_one _ _ _).trans ?_
    have ih := find_loop r k kk (i + 1) R kind id K (by omega) (by omega) h2 hl (by omega) (by omega)
    generalize hrec : iterV (f19_L1 (fun X => @f30 X k) k K) kk = rec at *
    unfold f19_L1 f19_T1 f19_J1 fnd
    dsimp only
    refine (bifT (decide_eq_true (by omega))).trans ?_
    refine (grdT (dec0 _)).trans ?_
    rw [Int.toNat_natCast]
    refine (bAt h1 _).trans ?_
    refine (grdT rfl).trans ?_
    refine (grdT rfl).trans ?_
    refine (grdT rfl).trans ?_
    refine (grdT rfl).trans ?_
    refine (grdT rfl).trans ?_
    rw [wrap64_n (by omega)]
    by_cases c1 : a = kind
    · refine (bifT (by subst c1; exact beq_self_eq_true _)).trans ?_
      by_cases c2 : i' = id
      · refine (bifT (by subst c2; exact beq_self_eq_true _)).trans ?_
        rw [if_pos ⟨c1, c2⟩]
        refine (copied_eq _ a i' v ks (by omega) (by omega) (by omega) (by omega)).trans ?_
        dsimp only
        rw [t8, Nat.zero_add, ← row_len, List.take_length, c1, c2]
        simp only [fA, row_len]
      · rw [if_neg fun h => c2 h.2]
        exact (bifF (beq_eq_false_iff_ne.2 c2)).trans ih
    · rw [if_neg fun h => c1 h.1]
      exact (bifF (beq_eq_false_iff_ne.2 c1)).trans ih
abbrev FL (k : Nat) (X : Type) (K : Bool → Option X) := f5_L1 (X := X) (fun X => @f9 X k) (fun X => @f10 X k) (fun X => @f19 X k) (fun X => @f18 X k) (fun X => @f20 X k) k K
theorem finds_loop (x y : TS) (k : Nat) (K : Bool → Option X) (kind id : Int) (hx : x.len ≤ 140737488355328) (ox : x.ok) (fx : x.fit) (fy : y.fit) (hk : 1000 + x.sz < k) : ∀ (ts : TS) (kk i : Nat), ts.len < kk → x.row.drop i = ts.row → ts.ok → ts.fit → ts.sz + 1000 < k →
    iterV (FL k X K) kk (x.row, y.row, kind, id, (fA kind id (fnd ts kind id)).2.2.2.2.1, x.row, (x.row.length : Int), (i : Int), (fA kind id (fnd ts kind id)).1, (fA kind id (fnd ts kind id)).2.1, (fA kind id (fnd ts kind id)).2.2.1, (fA kind id (fnd ts kind id)).2.2.2.1, (fA kind id (fnd ts kind id)).2.2.2.2.2.1, (fA kind id (fnd ts kind id)).2.2.2.2.2.2) = K true
  | .nil, kk, i, hkk, hR, _, _, _ => by
    obtain ⟨kk, rfl⟩ : ∃ j, kk = j + 1 := ⟨kk - 1, by simp [TS.len] at hkk; omega⟩
    refine (iterV_one _ _ _).trans ?_
    unfold FL f5_L1 f5_T1
    dsimp only
    have := drop_none hR
    refine (bifF (decide_eq_false (by omega))).trans ?_
    refine (bifT rfl).trans ?_
    refine (bifT rfl).trans ?_
    refine (bifT rfl).trans ?_
    refine (tSame_eq _ x y (by omega) (by omega) ox fx fy).trans ?_
    refine (refSame_eq (k := k) _ x y (by omega) (by omega) ox fx).trans ?_
    rw [beq_self_eq_true]
  | .cons a i' v ks r, kk, i, hkk, hR, hok, hfit, hsz => by
    obtain ⟨ho1, ho2, ho3, ho4⟩ := hok
    obtain ⟨f1, f2, f3, f4⟩ := hfit
    obtain ⟨kk, rfl⟩ : ∃ j, kk = j + 1 := ⟨kk - 1, by simp [TS.len] at hkk; omega⟩
    obtain ⟨h1, h2, h3⟩ := drop_next hR
    have hrl := row_len x
    simp only [TS.sz, TS.len] at hsz hkk
    refine (iterV_one _ _ _).trans ?_
    have ih := finds_loop x y k K kind id hx ox fx fy hk r kk (i + 1) (by omega) h2 ho4 f4 (by omega)
    generalize hrec : iterV (FL k X K) kk = rec at *
    unfold FL f5_L1 f5_T1 f5_J1
    dsimp only
    refine (bifT (decide_eq_true (by omega))).trans ?_
    refine (grdT (dec0 _)).trans ?_
    rw [Int.toNat_natCast]
    refine (bAt h1 _).trans ?_
    refine (grdT rfl).trans ?_
    refine (grdT rfl).trans ?_
    refine (grdT rfl).trans ?_
    refine (grdT rfl).trans ?_
    refine (grdT rfl).trans ?_
    rw [wrap64_n (by omega)]
    by_cases c : a = kind ∧ i' = id
    · obtain ⟨c1, c2⟩ := c
      refine (bifT (by subst c1; exact beq_self_eq_true _)).trans ?_
      refine (bifT (by subst c2; exact beq_self_eq_true _)).trans ?_
      have e : fnd (.cons a i' v ks r) kind id = some (v, ks) := by unfold fnd; rw [if_pos ⟨c1, c2⟩]
      rw [e]
      dsimp only [fA]
      refine (bifT rfl).trans ?_
      rw [d8, tk_row]
      have e1 : List.take 1 (List.drop 0 [CV.agg [CV.int .i64 kind, CV.int .i64 id, CV.slc none (by8 v), CV.slc (some 4) ks.row]]) = (TS.cons kind id v ks .nil).row := rfl
      rw [e1]
      subst c1 c2
      refine (refSame_eq (k := k) _ (TS.cons a i' v ks .nil) (TS.cons a i' v ks .nil) (by simp only [TS.sz]; omega) (by simp [TS.len]) ⟨ho1, ho2, ho3, trivial⟩ ⟨f1, f2, f3, trivial⟩).trans ?_
      refine (bifT (decide_eq_true rfl)).trans ?_
      refine (tSame_eq _ x y (by omega) (by omega) ox fx fy).trans ?_
      refine (refSame_eq (k := k) _ x y (by omega) (by omega) ox fx).trans ?_
      rw [beq_self_eq_true]
    · have e : fnd (.cons a i' v ks r) kind id = fnd r kind id := by conv => { lhs; unfold fnd }; rw [if_neg c]
      rw [e]
      by_cases c1 : a = kind
      · refine (bifT (by subst c1; exact beq_self_eq_true _)).trans ?_
        refine (bifF (beq_eq_false_iff_ne.2 fun c2 => c ⟨c1, c2⟩)).trans ?_
        exact ih
      · refine (bifF (beq_eq_false_iff_ne.2 c1)).trans ?_
        exact ih
theorem finds_eq {k : Nat} (K : Bool → Option X) (x y : TS) (kind id : Int) (hx : x.len ≤ 140737488355328) (hy : y.len ≤ 140737488355328) (wx : x.wz) (wy : y.wz) (hk : 30000000 + x.sz + y.sz < k) : f5 k K x.row y.row kind id = K true := by
  have ox := wx.ok
  have oy := wy.ok
  unfold f5 f5_A
  have hl := fun hfx hfy => finds_loop x y k K kind id hx ox hfx hfy (by omega) x k 0 (by have := len_sz x; omega) rfl ox hfx (by omega)
  unfold FL at hl
  generalize iterV (f5_L1 (fun X => @f9 X k) (fun X => @f10 X k) (fun X => @f19 X k) (fun X => @f18 X k) (fun X => @f20 X k) k K) k = lp at hl ⊢
  unfold f5_T
  refine (alive_eq _ (by omega)).trans ?_
  refine (bifF rfl).trans ?_
  refine (few_eq _ x (by omega) (by omega) ox).trans ?_
  cases h : few x with
  | false => exact bifT rfl
  | true =>
  refine (bifF rfl).trans ?_
  refine (few_eq _ y (by omega) (by omega) oy).trans ?_
  cases h2 : few y with
  | false => exact bifT rfl
  | true =>
  refine (bifF rfl).trans ?_
  obtain ⟨x1, x2⟩ := few_small h wx
  obtain ⟨y1, y2⟩ := few_small h2 wy
  have lf := find_loop x k k 0 x.row kind id (fun u7 => lp (x.row, y.row, kind, id, u7.2.2.2.2.1, x.row, (List.length x.row : Int), 0, u7.1, u7.2.1, u7.2.2.1, u7.2.2.2.1, u7.2.2.2.2.2.1, u7.2.2.2.2.2.2)) (by omega) (by have := len_sz x; omega) rfl (by rw [row_len]; omega) x1 x2
  refine lf.trans ?_
  exact hl (small_fit wx x2) (small_fit wy y2)
theorem law_finds (x0 : TS) (w0 : x0.len ≤ reachBytes ∧ x0.wz) (x1 : TS) (w1 : x1.len ≤ reachBytes ∧ x1.wz) (x2 : Int) (w2 : (Lit.int .i64 x2).wf = true) (x3 : Int) (w3 : (Lit.int .i64 x3).wf = true) : ∃ k, ∀ K : Bool → Option Out, f5 k K x0.row x1.row x2 x3 = K true :=
  ⟨30000000 + x0.sz + x1.sz + 1, fun K => finds_eq K x0 x1 x2 x3 (by have := reach_lt; omega) (by have := reach_lt; omega) w0.2 w1.2 (by omega)⟩
end
end Go.Proofs.YtkkknhfbcflkfaaD
