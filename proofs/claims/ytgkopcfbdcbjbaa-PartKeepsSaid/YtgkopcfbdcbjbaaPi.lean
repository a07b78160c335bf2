/- PartKeeps, the law. -/
import Derived.Test.YtgkopcfbdcbjbaaPh
namespace Go.Proofs.YtgkopcfbdcbjbaaD
open Go Go.Proofs.YtgkopcfbdcbjbaaS Go.Proofs
set_option linter.unusedVariables false
set_option linter.unusedSimpArgs false
section
variable {X : Type}
theorem small4_loop {k0 : Nat} (all : List Opv) (hn : all.length < 9223372036854775808) : ∀ (k i n : Nat), all.length - i < k → n ≤ 3000 → ∃ b : Bool, ∀ K : Bool → Option X, iterV (f14_L1 k0 K) k (all.map opv, (n : Int), all.map opv, (all.length : Int), (i : Int)) = K b
  | 0, i, n, h, _ => by omega
  | k + 1, i, n, h, hm => by
    have ih := fun n h1 h2 => small4_loop (k0 := k0) all hn k (i + 1) n h1 h2
    by_cases hi : i < all.length
    · have g : (all.map opv)[i]? = some (opv all[i]) := by rw [List.getElem?_map, List.getElem?_eq_getElem hi]; rfl
      generalize all[i] = p at g
      have hw : IntKind.wrap .i64 ((i : Int) + 1) = ((i + 1 : Nat) : Int) := by rw [wrap64 (by omega) (by omega)]; simp
      have hw0 : IntKind.wrap .i64 (3000 - (n : Int)) = 3000 - (n : Int) := wrap64 (by omega) (by omega)
      have step : ∀ K : Bool → Option X, iterV (f14_L1 k0 K) (k + 1) (all.map opv, (n : Int), all.map opv, (all.length : Int), (i : Int)) = if (p.2.2.2.length : Int) > 3000 - (n : Int) then K false else iterV (f14_L1 k0 K) k (all.map opv, IntKind.wrap .i64 ((n : Int) + (p.2.2.2.length : Int)), all.map opv, (all.length : Int), ((i + 1 : Nat) : Int)) := fun K => by
        show f14_L1 k0 K (iterV (f14_L1 k0 K) k) _ = _
        generalize iterV (f14_L1 k0 K) k = rc
        unfold f14_L1 f14_T1
        simp only []
        refine (bifT (decide_eq_true (by omega))).trans ?_
        refine (grdT (decide_eq_true (by omega))).trans ?_
        simp only [Int.toNat_natCast, g, Option.bind_some, opv_a, opv_0, opv_1, opv_2, opv_3, isI_int, isL_slc, toI_int, toL_slc, grd_true, by8_length, hw, hw0, bif_dec]
      by_cases hb : (p.2.2.2.length : Int) > 3000 - (n : Int)
      · exact ⟨false, fun K => by rw [step, if_pos hb]⟩
      · obtain ⟨b, e⟩ := ih (n + p.2.2.2.length) (by omega) (by omega)
        refine ⟨b, fun K => ?_⟩
        rw [step, if_neg hb, wrap64 (by omega) (by omega)]
        exact e K
    · refine ⟨decide (((all.map opv).length : Int) ≤ 30), fun K => ?_⟩
      show f14_L1 k0 K (iterV (f14_L1 k0 K) k) _ = _
      generalize iterV (f14_L1 k0 K) k = rc
      unfold f14_L1 f14_T1
      exact bifF (decide_eq_false (by simp only []; omega))
theorem elim_l {A B C : Type} (f : A → C) (g : B → C) (x : A) : Sum.elim f g (.inl x) = f x := rfl
theorem elim_r2 {A B C : Type} (f : A → C) (g : B → C) (x : B) : Sum.elim f g (.inr x) = g x := rfl
theorem new6k {k : Nat} (hk : 400000 < k) (x : Int) (hx : ¬ x > 64) : ∃ (z : Nat) (B W : List Int), 16 ≤ z ∧ z ≤ 64 ∧ W.length = 6 ∧ B.length = 6 * z ∧ ∀ K : Nat × Int × Nat × List CV × List CV → Option X, f6 k K 6 x = K (B.length, (z : Int), W.length, by8 B, by64 W) := by
  have hzb : 16 ≤ zN x ∧ zN x ≤ 64 := by
    unfold zN
    repeat' split
    all_goals omega
  refine ⟨zN x, List.replicate (6 * zN x) 255, List.replicate 6 0, hzb.1, hzb.2, rfl, List.length_replicate, fun K => ?_⟩
  rw [new_eq _ hk 6 x, List.length_replicate, List.length_replicate]
  rfl
theorem laid_length (B ws : List Int) : (laid B ws).length = B.length := by unfold laid; simp; omega
theorem keeps_eq {k : Nat} (K : Bool → Option X) (x f c : Int) (ws : List Int) (all : List Opv) (hk : 400000 + all.length < k) (hall : ∀ p ∈ all, p.2.1 < 9223372036854775808) (hn : all.length < 9223372036854775808) : f4 k K x f c (by8 ws) (all.map opv) = K true := by
  unfold f4 f4_A f4_T
  refine (alive_eq _ (by omega)).trans ?_
  refine (bifF rfl).trans ?_
  by_cases h1 : x > 64
  · exact bifT (decide_eq_true h1)
  refine (bifF (decide_eq_false h1)).trans ?_
  obtain ⟨sm, hsm⟩ := small4_loop (X := X) (k0 := k) all hn k 0 0 (by omega) (by omega)
  have hs : ∀ K : Bool → Option X, f14 k K (all.map opv) = K sm := fun K => by
    rw [← hsm K]
    unfold f14 f14_A f14_T
    simp only [List.length_map]
    rfl
  refine (hs _).trans ?_
  cases sm with
  | false => exact bifT rfl
  | true =>
  refine (bifF rfl).trans ?_
  by_cases h2 : (ws.length : Int) > 600
  · exact bifT (decide_eq_true (by rw [by8_length]; exact h2))
  refine (bifF (decide_eq_false (by rw [by8_length]; exact h2))).trans ?_
  obtain ⟨z, B, W, z1, z2, hW, hL, hN⟩ := new6k (X := X) (k := k) (by omega) x h1
  refine (hN _).trans ?_
  refine (load_eq _ ws (z : Int) (-1) B W 0 false).trans ?_
  have hlL := laid_length B ws
  generalize laid B ws = C at hlL ⊢
  refine (image_eq _ (z : Int) (-1) C W 0 false (by omega)).trans ?_
  have hz : W.length * z = C.length := by rw [hW, hlL, hL]
  have p1 := fun K => pnew_eq (X := X) (k := k) K f c z (-1) C W 0 false (by omega) hz (by omega)
  by_cases hnw : nwP W.length f c = true
  · simp only [if_pos hnw] at p1
    refine (p1 _).trans ?_
    refine (elim_r2 _ _ _).trans ?_
    have hh : 1 ≤ c ∧ 0 ≤ f ∧ f < W.length ∧ c ≤ W.length - f := of_decide_eq_true hnw
    obtain ⟨f', rfl⟩ : ∃ n : Nat, f = (n : Int) := ⟨f.toNat, by omega⟩
    obtain ⟨c', rfl⟩ : ∃ n : Nat, c = (n : Int) := ⟨c.toNat, by omega⟩
    have st := steps_loop (k0 := k) (by omega) K f' c' z (by omega) (by omega) all hall hn C (by omega) k 0 C W 0 (-1) false (by omega) (Nat.zero_le _) hW hz (by omega) (by omega) (by omega) (Aside.rfl' ..)
    have hle : ((all.map opv).length : Int) = (all.length : Int) := by rw [List.length_map]
    rw [hle]
    exact st
  · simp only [if_neg hnw] at p1
    refine (p1 _).trans ?_
    exact elim_l _ _ _
theorem law_keeps (x0 : Int) (_ : (Lit.int .i64 x0).wf = true) (x1 : Int) (_ : (Lit.int .i64 x1).wf = true) (x2 : Int) (_ : (Lit.int .i64 x2).wf = true) (x3 : List Int) (_ : x3.length ≤ maxLen ∧ ∀ y ∈ x3, (Lit.int .u8 y).wf = true) (x4 : List (Int × Int × Int × List Int × Unit)) (w4 : x4.length ≤ maxLen ∧ ∀ x ∈ x4, (Lit.int .i64 x.1).wf = true ∧ (Lit.int .i64 x.2.1).wf = true ∧ (Lit.int .i64 x.2.2.1).wf = true ∧ (x.2.2.2.1.length ≤ maxLen ∧ ∀ y ∈ x.2.2.2.1, (Lit.int .u8 y).wf = true) ∧ True) :
    ∃ k, ∀ K : Bool → Option Out, f4 k K x0 x1 x2 (x3.map fun y => .int .u8 y) (x4.map fun x => .agg [.int .i64 x.1, .int .i64 x.2.1, .int .i64 x.2.2.1, .slc none (x.2.2.2.1.map fun y => .int .u8 y)]) = K true := ⟨400001 + x4.length, fun K => by
  have hm : maxLen < 9223372036854775808 := by decide
  have h := keeps_eq (k := 400001 + x4.length) K x0 x1 x2 x3 (x4.map fun x => (x.1, x.2.1, x.2.2.1, x.2.2.2.1)) (by rw [List.length_map]; omega) (fun p hp => by
    obtain ⟨x, hx, rfl⟩ := List.mem_map.1 hp
    exact (wf64 (w4.2 x hx).2.1).2) (by rw [List.length_map]; omega)
  rw [List.map_map] at h
  exact h⟩
end
end Go.Proofs.YtgkopcfbdcbjbaaD
