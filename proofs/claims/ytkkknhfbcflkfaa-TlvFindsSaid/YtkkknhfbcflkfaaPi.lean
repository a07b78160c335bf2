/- Two lists the same: the two answers. -/
import Derived.Test.YtkkknhfbcflkfaaPh
namespace Go.Proofs.YtkkknhfbcflkfaaD
open Go Go.Proofs.YtkkknhfbcflkfaaS Go.Proofs
set_option linter.unusedVariables false
set_option linter.unusedSimpArgs false
section
variable {X : Type}
/-- Values are bytes, and not too many. -/
def TS.fit : TS → Prop
  | .nil => True
  | .cons _ _ v ks r => v.length ≤ 2000000000 ∧ Byt v ∧ ks.fit ∧ r.fit
theorem row_nil {y : TS} (h : y.row = []) : y = .nil := by cases y with
  | nil => rfl
  | cons => simp [TS.row] at h
theorem refsame_loop : ∀ (x y : TS) (k kk i : Nat) (R S : List CV) (K : Bool → Option X), x.sz < k → x.len < kk → R.drop i = x.row → S.drop i = y.row → R.length = S.length → R.length ≤ 9223372036854775807 → x.ok → x.fit →
    iterV (f18_L1 (fun X => @f15 X k) (f18_r k) k K) kk (R, S, (i : Int)) = K (decide (x = y))
  | .nil, y, k, kk, i, R, S, K, hk, hkk, hR, hS, hl, _, _, _ => by
    obtain ⟨kk, rfl⟩ : ∃ j, kk = j + 1 := ⟨kk - 1, by simp [TS.len] at hkk; omega⟩
    refine (iterV_one _ _ _).trans ?_
    unfold f18_L1 f18_T1
    dsimp only
    have := drop_none hR
    refine (bifF (decide_eq_false (by omega))).trans ?_
    rw [List.drop_of_length_le (by omega)] at hS
    rw [row_nil hS.symm]
    rfl
  | .cons a id v ks r, y, k, kk, i, R, S, K, hk, hkk, hR, hS, hl, hm, hok, hfit => by
    obtain ⟨ho1, ho2, ho3, ho4⟩ := hok
    obtain ⟨f1, f2, f3, f4⟩ := hfit
    obtain ⟨kk, rfl⟩ : ∃ j, kk = j + 1 := ⟨kk - 1, by simp [TS.len] at hkk; omega⟩
    obtain ⟨h1, h2, h3⟩ := drop_next hR
    simp only [TS.sz, TS.len] at hk hkk
    cases y with
    | nil => exact absurd (drop_none hS) (by omega)
    | cons a' id' v' ks' r' =>
    obtain ⟨g1, g2, g3⟩ := drop_next hS
    refine (iterV_one _ _ _).trans ?_
    have ih := refsame_loop r r' k kk (i + 1) R S K (by omega) (by omega) h2 g2 hl hm ho4 f4
    generalize hrec : iterV (f18_L1 (fun X => @f15 X k) (f18_r k) k K) kk = rec at *
    unfold f18_L1 f18_T1
    dsimp only
    refine (bifT (decide_eq_true (by omega))).trans ?_
    refine (grdT (dec0 _)).trans ?_
    rw [Int.toNat_natCast]
    refine (bAt h1 _).trans ?_
    refine (bAt (c := .int .i64 a) rfl _).trans ?_
    refine (grdT rfl).trans ?_
    refine (grdT (dec0 _)).trans ?_
    refine (bAt g1 _).trans ?_
    refine (bAt (c := .int .i64 a') rfl _).trans ?_
    refine (grdT rfl).trans ?_
    by_cases c1 : a = a'
    · refine (bifF (by subst c1; exact bne_self_eq_false _)).trans ?_
      refine (grdT (dec0 _)).trans ?_
      refine (bAt h1 _).trans ?_
      refine (bAt (c := .int .i64 id) rfl _).trans ?_
      refine (grdT rfl).trans ?_
      refine (grdT (dec0 _)).trans ?_
      refine (bAt g1 _).trans ?_
      refine (bAt (c := .int .i64 id') rfl _).trans ?_
      refine (grdT rfl).trans ?_
      by_cases c2 : id = id'
      · refine (bifF (by subst c2; exact bne_self_eq_false _)).trans ?_
        refine (grdT (dec0 _)).trans ?_
        refine (bAt h1 _).trans ?_
        refine (bAt (c := .slc none (by8 v)) rfl _).trans ?_
        refine (grdT rfl).trans ?_
        refine (grdT (dec0 _)).trans ?_
        refine (bAt g1 _).trans ?_
        refine (bAt (c := .slc none (by8 v')) rfl _).trans ?_
        refine (grdT rfl).trans ?_
        refine (same_eq _ v v' (by omega) (by omega)).trans ?_
        by_cases c3 : v = v'
        · refine (bifF (by rw [decide_eq_true c3]; rfl)).trans ?_
          refine (grdT (dec0 _)).trans ?_
          refine (bAt h1 _).trans ?_
          refine (bAt (c := .slc (some 4) ks.row) rfl _).trans ?_
          refine (grdT rfl).trans ?_
          refine (grdT (dec0 _)).trans ?_
          refine (bAt g1 _).trans ?_
          refine (bAt (c := .slc (some 4) ks'.row) rfl _).trans ?_
          refine (grdT rfl).trans ?_
          obtain ⟨k', rfl⟩ : ∃ j, k = j + 1 := ⟨k - 1, by omega⟩
          have hls := len_sz ks
          have hkids : ∀ K' : Bool → Option X, f18_r (k' + 1) X K' ks.row ks'.row = K' (decide (ks = ks')) := fun K' => by
            have kl := fun h1 h2 h3 h4 h5 h6 h7 h8 => refsame_loop ks ks' k' k' 0 ks.row ks'.row K' h1 h2 h3 h4 h5 h6 h7 h8
            refine Eq.trans (b := f18_T (fun X => @f15 X k') (f18_r k') k' K' (iterV (f18_L1 (fun X => @f15 X k') (f18_r k') k' K') k') ks.row ks'.row) rfl ?_
            generalize iterV (f18_L1 (fun X => @f15 X k') (f18_r k') k' K') k' = lp at kl ⊢
            unfold f18_T
            by_cases c : ks.row.length = ks'.row.length
            · refine (bifF (by rw [c]; exact bne_self_eq_false _)).trans ?_
              exact kl (by omega) (by omega) rfl rfl c (by rw [row_len]; exact ho2) ho3 f3
            · refine (bifT (bne_iff_ne.2 (by omega))).trans ?_
              rw [decide_eq_false fun h => c (by rw [h])]
          refine (hkids _).trans ?_
          by_cases c4 : ks = ks'
          · refine (bifF (by rw [decide_eq_true c4]; rfl)).trans ?_
            rw [wrap64_n (by omega)]
            refine ih.trans ?_
            congr 1
            rw [decide_eq_decide]
            subst c1 c2 c3 c4
            exact ⟨fun h => by rw [h], fun h => by injection h⟩
          · refine (bifT (by rw [decide_eq_false c4]; rfl)).trans ?_
            rw [decide_eq_false fun h => c4 (by injection h)]
        · refine (bifT (by rw [decide_eq_false c3]; rfl)).trans ?_
          rw [decide_eq_false fun h => c3 (by injection h)]
      · refine (bifT (bne_iff_ne.2 c2)).trans ?_
        rw [decide_eq_false fun h => c2 (by injection h)]
    · refine (bifT (bne_iff_ne.2 c1)).trans ?_
      rw [decide_eq_false fun h => c1 (by injection h)]
theorem refSame_eq {k : Nat} (K : Bool → Option X) (x y : TS) (hk : x.sz + 1 < k) (hl : x.len ≤ 9223372036854775807) (ho : x.ok) (hf : x.fit) : f18 k K x.row y.row = K (decide (x = y)) := by
  obtain ⟨k', rfl⟩ : ∃ j, k = j + 1 := ⟨k - 1, by omega⟩
  have hls := len_sz x
  have kl := fun h1 h2 h3 h4 h5 h6 h7 h8 => refsame_loop x y k' k' 0 x.row y.row K h1 h2 h3 h4 h5 h6 h7 h8
  refine Eq.trans (b := f18_T (fun X => @f15 X k') (f18_r k') k' K (iterV (f18_L1 (fun X => @f15 X k') (f18_r k') k' K) k') x.row y.row) rfl ?_
  generalize iterV (f18_L1 (fun X => @f15 X k') (f18_r k') k' K) k' = lp at kl ⊢
  unfold f18_T
  by_cases c : x.row.length = y.row.length
  · refine (bifF (by rw [c]; exact bne_self_eq_false _)).trans ?_
    exact kl (by omega) (by omega) rfl rfl c (by rw [row_len]; exact hl) ho hf
  · refine (bifT (bne_iff_ne.2 (by omega))).trans ?_
    rw [decide_eq_false fun h => c (by rw [h])]
theorem tsame_loop : ∀ (x y : TS) (k kk i : Nat) (R S : List CV) (K : Bool → Option X), x.sz < k → x.len < kk → R.drop i = x.row → S.drop i = y.row → R.length = S.length → R.length ≤ 9223372036854775807 → x.ok → x.fit → y.fit →
    iterV (f31_L1 (fun X => @f32 X (f20_r k) k) k K) kk (S, R, (R.length : Int), (i : Int)) = K (decide (x = y))
  | .nil, y, k, kk, i, R, S, K, hk, hkk, hR, hS, hl, _, _, _, _ => by
    obtain ⟨kk, rfl⟩ : ∃ j, kk = j + 1 := ⟨kk - 1, by simp [TS.len] at hkk; omega⟩
    refine (iterV_one _ _ _).trans ?_
    unfold f31_L1 f31_T1
    dsimp only
    have := drop_none hR
    refine (bifF (decide_eq_false (by omega))).trans ?_
    rw [List.drop_of_length_le (by omega)] at hS
    rw [row_nil hS.symm]
    rfl
  | .cons a id v ks r, y, k, kk, i, R, S, K, hk, hkk, hR, hS, hl, hm, hok, hfit, hfy => by
    obtain ⟨ho1, ho2, ho3, ho4⟩ := hok
    obtain ⟨f1, f2, f3, f4⟩ := hfit
    obtain ⟨kk, rfl⟩ : ∃ j, kk = j + 1 := ⟨kk - 1, by simp [TS.len] at hkk; omega⟩
    obtain ⟨h1, h2, h3⟩ := drop_next hR
    simp only [TS.sz, TS.len] at hk hkk
    cases y with
    | nil => exact absurd (drop_none hS) (by omega)
    | cons a' id' v' ks' r' =>
    obtain ⟨g1, g2, g3⟩ := drop_next hS
    obtain ⟨fy1, fy2, fy3, fy4⟩ := hfy
    refine (iterV_one _ _ _).trans ?_
    have ih := tsame_loop r r' k kk (i + 1) R S K (by omega) (by omega) h2 g2 hl hm ho4 f4 fy4
    generalize hrec : iterV (f31_L1 (fun X => @f32 X (f20_r k) k) k K) kk = rec at *
    unfold f31_L1 f31_T1
    dsimp only
    refine (bifT (decide_eq_true (by omega))).trans ?_
    refine (grdT (dec0 _)).trans ?_
    rw [Int.toNat_natCast]
    refine (bAt h1 _).trans ?_
    refine (grdT rfl).trans ?_
    refine (grdT rfl).trans ?_
    refine (grdT rfl).trans ?_
    refine (grdT rfl).trans ?_
    refine (grdT rfl).trans ?_
    refine (grdT (dec0 _)).trans ?_
    refine (bAt g1 _).trans ?_
    refine (grdT rfl).trans ?_
    refine (grdT rfl).trans ?_
    refine (grdT rfl).trans ?_
    refine (grdT rfl).trans ?_
    refine (grdT rfl).trans ?_
    rw [wrap64_n (by omega)]
    unfold f32 f32_A f32_T
    refine (grdT rfl).trans ?_
    refine (grdT rfl).trans ?_
    refine (grdT rfl).trans ?_
    refine (grdT rfl).trans ?_
    refine (grdT rfl).trans ?_
    refine (grdT rfl).trans ?_
    refine (grdT rfl).trans ?_
    refine (grdT rfl).trans ?_
    refine (grdT rfl).trans ?_
    refine (grdT rfl).trans ?_
    by_cases c1 : a = a'
    · refine (bifT (by subst c1; exact beq_self_eq_true _)).trans ?_
      by_cases c2 : id = id'
      · refine (bifT (by subst c2; exact beq_self_eq_true _)).trans ?_
        refine (bytesEqual_eq _ v v' f2 fy2).trans ?_
        by_cases c3 : v = v'
        · refine (bifT (decide_eq_true c3)).trans ?_
          obtain ⟨k', rfl⟩ : ∃ j, k = j + 1 := ⟨k - 1, by omega⟩
          have hls := len_sz ks
          have hkids : ∀ K' : Bool → Option X, f20_r (k' + 1) X K' ks.row ks'.row = K' (decide (ks = ks')) := fun K' => by
            have kl := fun h1 h2 h3 h4 h5 h6 h7 h8 h9 => tsame_loop ks ks' k' k' 0 ks.row ks'.row K' h1 h2 h3 h4 h5 h6 h7 h8 h9
            refine Eq.trans (b := f31_T (fun X => @f32 X (f20_r k') k') k' K' (iterV (f31_L1 (fun X => @f32 X (f20_r k') k') k' K') k') ks.row ks'.row) rfl ?_
            generalize iterV (f31_L1 (fun X => @f32 X (f20_r k') k') k' K') k' = lp at kl ⊢
            unfold f31_T
            by_cases c : ks.row.length = ks'.row.length
            · refine (bifF (by rw [c]; exact bne_self_eq_false _)).trans ?_
              exact kl (by omega) (by omega) rfl rfl c (by rw [row_len]; exact ho2) ho3 f3 fy3
            · refine (bifT (bne_iff_ne.2 (by omega))).trans ?_
              rw [decide_eq_false fun h => c (by rw [h])]
          refine (hkids _).trans ?_
          by_cases c4 : ks = ks'
          · refine (bifF (by rw [decide_eq_true c4]; rfl)).trans ?_
            refine ih.trans ?_
            congr 1
            rw [decide_eq_decide]
            subst c1 c2 c3 c4
            exact ⟨fun h => by rw [h], fun h => by injection h⟩
          · refine (bifT (by rw [decide_eq_false c4]; rfl)).trans ?_
            rw [decide_eq_false fun h => c4 (by injection h)]
        · refine (bifF (decide_eq_false c3)).trans ?_
          refine (bifT rfl).trans ?_
          rw [decide_eq_false fun h => c3 (by injection h)]
      · refine (bifF (beq_eq_false_iff_ne.2 c2)).trans ?_
        refine (bifT rfl).trans ?_
        rw [decide_eq_false fun h => c2 (by injection h)]
    · refine (bifF (beq_eq_false_iff_ne.2 c1)).trans ?_
      refine (bifT rfl).trans ?_
      rw [decide_eq_false fun h => c1 (by injection h)]
theorem tSame_eq {k : Nat} (K : Bool → Option X) (x y : TS) (hk : x.sz + 1 < k) (hl : x.len ≤ 9223372036854775807) (ho : x.ok) (hf : x.fit) (hy : y.fit) : f20 k K x.row y.row = K (decide (x = y)) := by
  obtain ⟨k', rfl⟩ : ∃ j, k = j + 1 := ⟨k - 1, by omega⟩
  have hls := len_sz x
  have kl := fun h1 h2 h3 h4 h5 h6 h7 h8 h9 => tsame_loop x y k' k' 0 x.row y.row K h1 h2 h3 h4 h5 h6 h7 h8 h9
  refine Eq.trans (b := f31_T (fun X => @f32 X (f20_r k') k') k' K (iterV (f31_L1 (fun X => @f32 X (f20_r k') k') k' K) k') x.row y.row) rfl ?_
  generalize iterV (f31_L1 (fun X => @f32 X (f20_r k') k') k' K) k' = lp at kl ⊢
  unfold f31_T
  by_cases c : x.row.length = y.row.length
  · refine (bifF (by rw [c]; exact bne_self_eq_false _)).trans ?_
    exact kl (by omega) (by omega) rfl rfl c (by rw [row_len]; exact hl) ho hf hy
  · refine (bifT (bne_iff_ne.2 (by omega))).trans ?_
    rw [decide_eq_false fun h => c (by rw [h])]
end
end Go.Proofs.YtkkknhfbcflkfaaD
