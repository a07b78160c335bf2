/- How many TLVs there are; which lists are right: the two answers. -/
import Derived.Test.YtkkknhfbcflkfaaPa
namespace Go.Proofs.YtkkknhfbcflkfaaD
open Go Go.Proofs.YtkkknhfbcflkfaaS Go.Proofs
set_option linter.unusedVariables false
set_option linter.unusedSimpArgs false
section
variable {X : Type}
theorem right_eq {k : Nat} (K : Bool × Int → Option X) (ts : TS) (p n : Int) (hk : ts.sz + 1 < k) (hl : ts.len ≤ 9223372036854775807) (ho : ts.ok) : f26 k K ts.row p n = K (rgt ts p n) := by
  obtain ⟨k, rfl⟩ : ∃ j, k = j + 1 := ⟨k - 1, by omega⟩
  have := len_sz ts
  exact right_loop ts k k 0 ts.row p n K (by omega) (by omega) rfl (by rw [row_len]; exact hl) ho
theorem rightT_eq {k : Nat} (K : Bool → Option X) (ts : TS) (hk : ts.sz + 1 < k) (hl : ts.len ≤ 9223372036854775807) (ho : ts.ok) : f13 k K ts.row = K (rgt ts (-1) 64).1 :=
  right_eq (fun u1 => K u1.1) ts (-1) 64 hk hl ho
/-- How many there are, up to a limit. -/
def ctW : TS → Int → Int → Int
  | .nil, _, n => n
  | .cons _ _ _ ks r, L, n => if n ≤ L then ctW r L (IntKind.wrap .i64 (IntKind.wrap .i64 (n + 1) + ctW ks (IntKind.wrap .i64 (IntKind.wrap .i64 (L - n) - 1)) 0)) else n
theorem count_loop : ∀ (ts : TS) (k kk i : Nat) (R : List CV) (L n : Int) (K : Int → Option X), ts.sz < k → ts.len < kk → R.drop i = ts.row → R.length ≤ 9223372036854775807 → ts.ok →
    iterV (f21_L1 (f21_r k) k K) kk (R, L, n, (i : Int)) = K (ctW ts L n)
  | .nil, k, kk, i, R, L, n, K, hk, hkk, hR, hl, _ => by
    obtain ⟨kk, rfl⟩ : ∃ j, kk = j + 1 := ⟨kk - 1, by simp [TS.len] at hkk; omega⟩
    refine (iterV_one _ _ _).trans ?_
    unfold f21_L1 f21_T1
    dsimp only
    have := drop_none hR
    exact bifF (decide_eq_false (by omega))
  | .cons a id v ks r, k, kk, i, R, L, n, K, hk, hkk, hR, hl, hok => by
    obtain ⟨ho1, ho2, ho3, ho4⟩ := hok
    obtain ⟨kk, rfl⟩ : ∃ j, kk = j + 1 := ⟨kk - 1, by simp [TS.len] at hkk; omega⟩
    obtain ⟨h1, h2, h3⟩ := drop_next hR
    simp only [TS.sz, TS.len] at hk hkk
    refine (iterV_one _ _ _).trans ?_
    have ih := fun n => count_loop r k kk (i + 1) R L n K
    generalize hrec : iterV (f21_L1 (f21_r k) k K) kk = rec at *
    unfold f21_L1 f21_T1 ctW
    dsimp only
    refine (bifT (decide_eq_true (by omega))).trans ?_
    by_cases c1 : n ≤ L
    · rw [if_pos c1]
      refine (bifT (decide_eq_true c1)).trans ?_
      refine (grdT (dec0 _)).trans ?_
      rw [Int.toNat_natCast]
      refine (bAt h1 _).trans ?_
      refine (bAt (c := .slc (some 4) ks.row) rfl _).trans ?_
      refine (grdT rfl).trans ?_
      obtain ⟨k', rfl⟩ : ∃ j, k = j + 1 := ⟨k - 1, by omega⟩
      have hls := len_sz ks
      refine (count_loop ks k' k' 0 ks.row _ 0 _ (by omega) (by omega) rfl (by rw [row_len]; exact ho2) ho3).trans ?_
      rw [wrap64_n (by omega)]
      exact ih _ (by omega) (by omega) h2 hl ho4
    · rw [if_neg c1]
      exact bifF (decide_eq_false c1)
theorem count_eq {k : Nat} (K : Int → Option X) (ts : TS) (L : Int) (hk : ts.sz + 1 < k) (hl : ts.len ≤ 9223372036854775807) (ho : ts.ok) : f21 k K ts.row L = K (ctW ts L 0) := by
  obtain ⟨k, rfl⟩ : ∃ j, k = j + 1 := ⟨k - 1, by omega⟩
  have := len_sz ts
  exact count_loop ts k k 0 ts.row L 0 K (by omega) (by omega) rfl (by rw [row_len]; exact hl) ho
theorem ctW_min : ∀ (ts : TS) (L n : Int), L ≤ 1000000 → 0 ≤ n → n ≤ L + 1 → ctW ts L n = min (n + ts.cnt) (L + 1)
  | .nil, L, n, hL, h0, h1 => by simp only [ctW, TS.cnt]; omega
  | .cons a id v ks r, L, n, hL, h0, h1 => by
    unfold ctW
    split
    · next h =>
      rw [wrap64 (n := L - n) (by omega) (by omega), wrap64 (n := L - n - 1) (by omega) (by omega), ctW_min ks (L - n - 1) 0 (by omega) (by omega) (by omega)]
      rw [wrap64 (n := n + 1) (by omega) (by omega), wrap64 (by omega) (by omega), ctW_min r L _ hL (by omega) (by omega)]
      simp only [TS.cnt]
      omega
    · next h => simp only [TS.cnt]; omega
/-- How many bytes, up to a limit: as the code reckons. -/
def byW : TS → Int → Int → Int
  | .nil, _, n => n
  | .cons _ _ v ks r, L, n => if n ≤ L then byW r L (IntKind.wrap .i64 (IntKind.wrap .i64 (n + (v.length : Int)) + byW ks (IntKind.wrap .i64 (L - n)) 0)) else n
theorem bytes_loop : ∀ (ts : TS) (k kk i : Nat) (R : List CV) (L n : Int) (K : Int → Option X), ts.sz < k → ts.len < kk → R.drop i = ts.row → R.length ≤ 9223372036854775807 → ts.ok →
    iterV (f23_L1 (f23_r k) k K) kk (R, L, n, (i : Int)) = K (byW ts L n)
  | .nil, k, kk, i, R, L, n, K, hk, hkk, hR, hl, _ => by
    obtain ⟨kk, rfl⟩ : ∃ j, kk = j + 1 := ⟨kk - 1, by simp [TS.len] at hkk; omega⟩
    refine (iterV_one _ _ _).trans ?_
    unfold f23_L1 f23_T1
    dsimp only
    have := drop_none hR
    exact bifF (decide_eq_false (by omega))
  | .cons a id v ks r, k, kk, i, R, L, n, K, hk, hkk, hR, hl, hok => by
    obtain ⟨ho1, ho2, ho3, ho4⟩ := hok
    obtain ⟨kk, rfl⟩ : ∃ j, kk = j + 1 := ⟨kk - 1, by simp [TS.len] at hkk; omega⟩
    obtain ⟨h1, h2, h3⟩ := drop_next hR
    simp only [TS.sz, TS.len] at hk hkk
    refine (iterV_one _ _ _).trans ?_
    have ih := fun n => bytes_loop r k kk (i + 1) R L n K
    generalize hrec : iterV (f23_L1 (f23_r k) k K) kk = rec at *
    unfold f23_L1 f23_T1 byW
    dsimp only
    refine (bifT (decide_eq_true (by omega))).trans ?_
    by_cases c1 : n ≤ L
    · rw [if_pos c1]
      refine (bifT (decide_eq_true c1)).trans ?_
      refine (grdT (dec0 _)).trans ?_
      rw [Int.toNat_natCast]
      refine (bAt h1 _).trans ?_
      refine (bAt (c := .slc none (by8 v)) rfl _).trans ?_
      refine (grdT rfl).trans ?_
      refine (grdT (dec0 _)).trans ?_
      refine (bAt h1 _).trans ?_
      refine (bAt (c := .slc (some 4) ks.row) rfl _).trans ?_
      refine (grdT rfl).trans ?_
      obtain ⟨k', rfl⟩ : ∃ j, k = j + 1 := ⟨k - 1, by omega⟩
      have hls := len_sz ks
      refine (bytes_loop ks k' k' 0 ks.row _ 0 _ (by omega) (by omega) rfl (by rw [row_len]; exact ho2) ho3).trans ?_
      rw [wrap64_n (by omega), show (List.length (CV.toL (CV.slc none (by8 v)))) = v.length from by8_length v]
      exact ih _ (by omega) (by omega) h2 hl ho4
    · rw [if_neg c1]
      exact bifF (decide_eq_false c1)
theorem bytes_eq {k : Nat} (K : Int → Option X) (ts : TS) (L : Int) (hk : ts.sz + 1 < k) (hl : ts.len ≤ 9223372036854775807) (ho : ts.ok) : f23 k K ts.row L = K (byW ts L 0) := by
  obtain ⟨k, rfl⟩ : ∃ j, k = j + 1 := ⟨k - 1, by omega⟩
  have := len_sz ts
  exact bytes_loop ts k k 0 ts.row L 0 K (by omega) (by omega) rfl (by rw [row_len]; exact hl) ho
def few (ts : TS) : Bool := bif decide (ctW ts 100 0 ≤ 100) then decide (byW ts 4000 0 ≤ 4000) else false
theorem few_eq {k : Nat} (K : Bool → Option X) (ts : TS) (hk : ts.sz + 1 < k) (hl : ts.len ≤ 9223372036854775807) (ho : ts.ok) : f10 k K ts.row = K (few ts) := by
  unfold f10 f10_A f10_T few
  refine (count_eq _ ts 100 hk hl ho).trans ?_
  cases decide (ctW ts 100 0 ≤ 100) with
  | false => rfl
  | true => exact bytes_eq _ ts 4000 hk hl ho
/-- Right, but for how many there are. -/
def rin : TS → Int → Bool
  | .nil, _ => true
  | .cons k i v ks r, p =>
    if inK k p = false ∨ i < 0 ∨ i > 65535 then false
    else if k = 1 ∨ k = 3 then (if ks ≠ .nil then false else rin r p)
    else if v ≠ [] then false else (rin ks k && rin r p)
theorem rin_loop : ∀ (ts : TS) (k kk i : Nat) (R : List CV) (p : Int) (K : Bool → Option X), ts.sz < k → ts.len < kk → R.drop i = ts.row → R.length ≤ 9223372036854775807 → ts.ok →
    iterV (f27_L1 (fun X => @f39 X k) (f27_r k) k K) kk (R, p, (i : Int)) = K (rin ts p)
  | .nil, k, kk, i, R, p, K, hk, hkk, hR, hl, _ => by
    obtain ⟨kk, rfl⟩ : ∃ j, kk = j + 1 := ⟨kk - 1, by simp [TS.len] at hkk; omega⟩
    refine (iterV_one _ _ _).trans ?_
    unfold f27_L1 f27_T1
    dsimp only
    have := drop_none hR
    exact bifF (decide_eq_false (by omega))
  | .cons a id v ks r, k, kk, i, R, p, K, hk, hkk, hR, hl, hok => by
    obtain ⟨ho1, ho2, ho3, ho4⟩ := hok
    obtain ⟨kk, rfl⟩ : ∃ j, kk = j + 1 := ⟨kk - 1, by simp [TS.len] at hkk; omega⟩
    obtain ⟨h1, h2, h3⟩ := drop_next hR
    simp only [TS.sz, TS.len] at hk hkk
    refine (iterV_one _ _ _).trans ?_
    have ih := rin_loop r k kk (i + 1) R p K (by omega) (by omega) h2 hl ho4
    generalize hrec : iterV (f27_L1 (fun X => @f39 X k) (f27_r k) k K) kk = rec at *
    unfold f27_L1 f27_T1 f27_J1 rin
    dsimp only
    refine (bifT (decide_eq_true (by omega))).trans ?_
    refine (grdT (dec0 _)).trans ?_
    rw [Int.toNat_natCast]
    refine (bAt h1 _).trans ?_
    refine (grdT rfl).trans ?_
    refine (grdT rfl).trans ?_
    refine (grdT rfl).trans ?_
    refine (grdT rfl).trans ?_
    refine (grdT rfl).trans ?_
    refine (may_eq _ a p).trans ?_
    cases c2 : inK a p with
    | false => rw [if_pos (.inl rfl)]; exact bifT rfl
    | true =>
    refine (bifF rfl).trans ?_
    by_cases c3 : id < 0
    · rw [if_pos (.inr (.inl c3))]
      exact bifT (decide_eq_true c3)
    refine (bifF (decide_eq_false c3)).trans ?_
    by_cases c4 : id > 65535
    · rw [if_pos (.inr (.inr c4))]
      exact bifT (decide_eq_true c4)
    refine (bifF (decide_eq_false c4)).trans ?_
    rw [if_neg (by simp [c3, c4])]
    have hlv : ((List.length (CV.toL (CV.cellD 2 (CV.agg [CV.int IntKind.i64 a, CV.int IntKind.i64 id, CV.slc none (by8 v), CV.slc (some 4) ks.row])))) : Int) = v.length := by
      show ((by8 v).length : Int) = _
      rw [by8_length]
    have hlk : ((List.length (CV.toL (CV.cellD 3 (CV.agg [CV.int IntKind.i64 a, CV.int IntKind.i64 id, CV.slc none (by8 v), CV.slc (some 4) ks.row])))) : Int) = ks.len := by
      show ((ks.row).length : Int) = _
      rw [row_len]
    have hkn : (ks.len : Int) > 0 ↔ ks ≠ .nil := by
      cases ks <;> simp [TS.len] <;> omega
    have hvn : (v.length : Int) > 0 ↔ v ≠ [] := by
      cases v <;> simp <;> omega
    rw [hlv, hlk, wrap64_n (by omega)]
    have leaf : (bif decide ((ks.len : Int) > 0) then K false else rec (R, p, ((i + 1 : Nat) : Int))) = K (if ks ≠ .nil then false else rin r p) := by
      by_cases c6 : ks = .nil
      · rw [if_neg (by simp [c6])]
        exact (bifF (decide_eq_false (by rw [hkn]; exact fun h => h c6))).trans ih
      · rw [if_pos c6]
        exact bifT (decide_eq_true (hkn.2 c6))
    by_cases d1 : a = 1
    · rw [if_pos (.inl d1)]
      exact (bifT (by subst d1; rfl)).trans leaf
    refine (bifF (by show (a == 1) = false; simpa using d1)).trans ?_
    by_cases d3 : a = 3
    · rw [if_pos (.inr d3)]
      exact (bifT (by subst d3; rfl)).trans leaf
    refine (bifF (by show (a == 3) = false; simpa using d3)).trans ?_
    rw [if_neg (by simp [d1, d3])]
    by_cases c6 : v = []
    · rw [if_neg (by simp [c6])]
      refine (bifF (decide_eq_false (by rw [hvn]; exact fun h => h c6))).trans ?_
      obtain ⟨k', rfl⟩ : ∃ j, k = j + 1 := ⟨k - 1, by omega⟩
      have hls := len_sz ks
      refine (rin_loop ks k' k' 0 ks.row a _ (by omega) (by omega) rfl (by rw [row_len]; exact ho2) ho3).trans ?_
      cases rin ks a with
      | false => rfl
      | true => exact ih
    · rw [if_pos c6]
      exact bifT (decide_eq_true (hvn.2 c6))
def rightB (ts : TS) : Bool := decide (ts.cnt ≤ 64) && rin ts (-1)
theorem refRight_eq {k : Nat} (K : Bool → Option X) (ts : TS) (hk : ts.sz + 1 < k) (hl : ts.len ≤ 9223372036854775807) (ho : ts.ok) : f14 k K ts.row = K (rightB ts) := by
  unfold f14 f14_A f14_T rightB
  refine (count_eq _ ts 64 hk hl ho).trans ?_
  dsimp only
  rw [ctW_min ts 64 0 (by omega) (by omega) (by omega)]
  by_cases c : ts.cnt ≤ 64
  · refine (bifT (decide_eq_true (by omega))).trans ?_
    rw [decide_eq_true c]
    obtain ⟨k, rfl⟩ : ∃ j, k = j + 1 := ⟨k - 1, by omega⟩
    have := len_sz ts
    exact rin_loop ts k k 0 ts.row (-1) K (by omega) (by omega) rfl (by rw [row_len]; exact hl) ho
  · refine (bifF (decide_eq_false (by omega))).trans ?_
    rw [decide_eq_false c]; rfl
theorem inK_kind {k p : Int} (h : inK k p = true) : (k = 1 ∨ k = 3) ∧ hold k = false ∨ (k = 0 ∨ k = 2) ∧ hold k = true := by
  unfold inK at h
  unfold hold
  split at h
  · have := of_decide_eq_true h; rcases this with rfl | rfl | rfl <;> simp
  · split at h
    · have := of_decide_eq_true h; rcases this with rfl | rfl <;> simp
    · split at h
      · have := of_decide_eq_true h; subst this; simp
      · cases h
theorem rgt_rin : ∀ (ts : TS) (p n : Int), 0 ≤ n → n ≤ 1000000 → (rin ts p = true → (ts.cnt : Int) ≤ n → rgt ts p n = (true, n - ts.cnt)) ∧ (rin ts p = false ∨ n < (ts.cnt : Int) → (rgt ts p n).1 = false)
  | .nil, p, n, h0, h1 => ⟨fun _ _ => by simp [rgt, TS.cnt], fun h => by simp [rin, TS.cnt] at h; omega⟩
  | .cons k i v ks r, p, n, h0, h1 => by
    have ihk := fun m => rgt_rin ks k m
    have ihr := fun m => rgt_rin r p m
    have w1 : IntKind.wrap .i64 (n - 1) = n - 1 := wrap64 (by omega) (by omega)
    have bad : (n - 1 < 0 ∨ inK k p = false ∨ i < 0 ∨ i > 65535 ∨ (hold k = true ∧ v ≠ []) ∨ (hold k = false ∧ ks ≠ .nil)) → rgt (.cons k i v ks r) p n = (false, n - 1) := fun h => by
      unfold rgt; rw [w1, if_pos h]
    have good : ¬ (n - 1 < 0 ∨ inK k p = false ∨ i < 0 ∨ i > 65535 ∨ (hold k = true ∧ v ≠ []) ∨ (hold k = false ∧ ks ≠ .nil)) → rgt (.cons k i v ks r) p n = match rgt ks k (n - 1) with
      | (false, m) => (false, m)
      | (true, m) => rgt r p m := fun h => by
      conv => lhs; unfold rgt
      rw [w1, if_neg h]
      rfl
    have hc : (TS.cons k i v ks r).cnt = ks.cnt + r.cnt + 1 := rfl
    rw [hc]
    have no : rin (.cons k i v ks r) p = false → rgt (.cons k i v ks r) p n = (false, n - 1) → (rin (.cons k i v ks r) p = true → ((ks.cnt + r.cnt + 1 : Nat) : Int) ≤ n → rgt (.cons k i v ks r) p n = (true, n - (ks.cnt + r.cnt + 1 : Nat))) ∧ (rin (.cons k i v ks r) p = false ∨ n < ((ks.cnt + r.cnt + 1 : Nat) : Int) → (rgt (.cons k i v ks r) p n).1 = false) := fun e1 e2 =>
      ⟨fun h => (by rw [e1] at h; cases h), fun _ => by rw [e2]⟩
    by_cases c0 : n - 1 < 0
    · exact ⟨fun _ h => by omega, fun _ => by rw [bad (.inl c0)]⟩
    by_cases c1 : inK k p = false
    · exact no (by unfold rin; rw [if_pos (.inl c1)]) (bad (.inr (.inl c1)))
    by_cases c2 : i < 0
    · exact no (by unfold rin; rw [if_pos (.inr (.inl c2))]) (bad (.inr (.inr (.inl c2))))
    by_cases c3 : i > 65535
    · exact no (by unfold rin; rw [if_pos (.inr (.inr c3))]) (bad (.inr (.inr (.inr (.inl c3)))))
    have nb : ¬ (inK k p = false ∨ i < 0 ∨ i > 65535) := by simp [c1, c2, c3]
    rcases inK_kind (by simpa using c1) with ⟨d, e⟩ | ⟨d, e⟩
    · by_cases c4 : ks = .nil
      · have er : rin (.cons k i v ks r) p = rin r p := by conv => { lhs; unfold rin }; rw [if_neg nb, if_pos d, if_neg (by simp [c4])]
        have eg : rgt (.cons k i v ks r) p n = rgt r p (n - 1) := by rw [good (by simp [c0, c1, c2, c3, c4, e]), c4]; rfl
        rw [er, eg]
        obtain ⟨q1, q2⟩ := ihr (n - 1) (by omega) (by omega)
        have e0 : ks.cnt = 0 := by rw [c4]; rfl
        exact ⟨fun a b => by rw [q1 a (by omega)]; congr 1; omega, fun a => q2 (a.imp id (fun a => by omega))⟩
      · exact no (by unfold rin; rw [if_neg nb, if_pos d, if_pos c4]) (bad (by simp [c4, e]))
    · have nd : ¬ (k = 1 ∨ k = 3) := by rcases d with rfl | rfl <;> simp
      by_cases c4 : v = []
      · have er : rin (.cons k i v ks r) p = (rin ks k && rin r p) := by conv => { lhs; unfold rin }; rw [if_neg nb, if_neg nd, if_neg (by simp [c4])]
        rw [er, good (by simp [c0, c1, c2, c3, c4, e])]
        obtain ⟨q1, q2⟩ := ihk (n - 1) (by omega) (by omega)
        by_cases q : rin ks k = true ∧ (ks.cnt : Int) ≤ n - 1
        · rw [q1 q.1 q.2, q.1, Bool.true_and]
          dsimp only
          obtain ⟨p1, p2⟩ := ihr (n - 1 - ks.cnt) (by omega) (by omega)
          exact ⟨fun a b => by rw [p1 a (by omega)]; congr 1; omega, fun a => p2 (a.imp id (fun a => by omega))⟩
        · have hf : (rgt ks k (n - 1)).1 = false := q2 (by
            cases hq : rin ks k with
            | false => exact .inl rfl
            | true => exact .inr (by have : ¬ (ks.cnt : Int) ≤ n - 1 := fun h => q ⟨hq, h⟩; omega))
          refine ⟨fun a b => ?_, fun _ => ?_⟩
          · rw [Bool.and_eq_true] at a
            exact absurd ⟨a.1, by omega⟩ q
          · cases hq : rgt ks k (n - 1) with
            | mk b m =>
              rw [hq] at hf
              dsimp only at hf
              subst hf
              rfl
      · exact no (by unfold rin; rw [if_neg nb, if_neg nd, if_pos c4]) (bad (by simp [c4, e]))
theorem rgt_right (ts : TS) : (rgt ts (-1) 64).1 = rightB ts := by
  obtain ⟨q1, q2⟩ := rgt_rin ts (-1) 64 (by omega) (by omega)
  unfold rightB
  cases h : rin ts (-1) with
  | false => rw [q2 (.inl h)]; simp
  | true =>
    by_cases c : ts.cnt ≤ 64
    · rw [q1 h (by omega), decide_eq_true c]; rfl
    · rw [q2 (.inr (by omega)), decide_eq_false c]; rfl
end
end Go.Proofs.YtkkknhfbcflkfaaD
