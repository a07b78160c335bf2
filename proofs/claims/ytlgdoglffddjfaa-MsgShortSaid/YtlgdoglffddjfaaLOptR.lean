/- slices.SortStableFunc, by the options' numbers: in plain words. -/
import Derived.Test.YtlgdoglffddjfaaD
import Derived.Test.YtlgdoglffddjfaaLOpt
import Derived.Test.YtlgdoglffddjfaaLIx
import Derived.Test.YtlgdoglffddjfaaLCopy
import Derived.Test.YtlgdoglffddjfaaLJoin
import Derived.Test.YtlgdoglffddjfaaLClone
namespace Go.Proofs.YtlgdoglffddjfaaD
open Go Go.Proofs.YtlgdoglffddjfaaS Go.Proofs
set_option linter.unusedVariables false
set_option linter.unusedSimpArgs false
section
variable {X : Type}
def cmpI (a b : Int) : Int := if a < b then -1 else if a > b then 1 else 0
theorem cmpI_neg (a b : Int) : decide (cmpI a b < 0) = decide (a < b) := decide_eq_decide.2 (by unfold cmpI; split <;> (try split) <;> omega)
theorem cmp_eq {k : Nat} (K : Int → Option X) (a b : Op) : f60 k K (opv a) (opv b) = K (cmpI a.1 b.1) := by
  have e : f60 k K (opv a) (opv b) = (bif (a.1 != a.1) then (bif (b.1 != b.1) then K 0 else K (-1)) else bif (b.1 != b.1) then K 1 else bif decide (a.1 < b.1) then K (-1) else bif decide (a.1 > b.1) then K 1 else K 0) := by kernel_rfl
  rw [e]
  simp only [bne_self_eq_false, cond_false, bif_dec]
  unfold cmpI
  split
  · rfl
  · split <;> rfl
theorem iterV_one {V : Type} (T : (V → Option X) → V → Option X) (k : Nat) (v : V) : iterV T (k + 1) v = T (iterV T k) v := rfl
theorem bAt {o : Option CV} {c : CV} (h : o = some c) (F : CV → Option X) : Option.bind o F = F c := by rw [h]; rfl
theorem ops_at (A : List Op) (x : Op) (B : List Op) : (ops (A ++ x :: B))[A.length]? = some (opv x) := by simp [ops]
theorem ops_at1 (A : List Op) (y x : Op) (B : List Op) : (ops (A ++ y :: x :: B))[A.length + 1]? = some (opv x) := by simp [ops]
theorem ops_swap (A : List Op) (y x : Op) (B : List Op) : ((ops (A ++ y :: x :: B)).set (A.length + 1) (opv y)).set A.length (opv x) = ops (A ++ x :: y :: B) := by simp [ops]
theorem fitO (o : Op) : (Nat.beq (CV.ncells (opv o)) 2 && CV.isAgg (opv o)) = true := rfl
/-- One step of the inner loop. -/
theorem ins2_step {k : Nat} (K : List CV → Option X) (rec1 : Nat × Int × Int × Int × List CV → Option X) (rec2 : Nat × Int × Int × Int × Int × List CV → Option X) (n a j : Nat) (b i : Int) (A : List Op) (x y : Op) (B : List Op) (hA : A.length = j) (hn : (A ++ y :: x :: B).length = n) (hn2 : n < 1000000) (ha : a ≤ j) :
    f66_T2 (fun X => @f60 X k) k K rec1 rec2 (n, (a : Int), b, i, ((j + 1 : Nat) : Int), ops (A ++ y :: x :: B)) =
      bif decide (x.1 < y.1) then rec2 (n, (a : Int), b, i, (j : Int), ops (A ++ x :: y :: B)) else rec1 (n, (a : Int), b, IntKind.wrap .i64 (i + 1), ops (A ++ y :: x :: B)) := by
  subst hA
  have hx := ops_at1 A y x B
  have hy := ops_at A y (x :: B)
  have hlen : A.length + 1 < n := by rw [← hn]; simp
  have hw : IntKind.wrap .i64 (((A.length + 1 : Nat) : Int) - 1) = (A.length : Int) := by rw [wrap64 (by omega) (by omega)]; omega
  unfold f66_T2
  dsimp only
  refine (bifT (decide_eq_true (by omega))).trans ?_
  refine (grdT (dec0 _)).trans ?_
  refine (grdT (decide_eq_true (by omega))).trans ?_
  simp only [hw, Int.toNat_natCast, Nat.zero_add]
  refine (bAt hx _).trans ?_
  refine (grdT (decide_eq_true (by omega))).trans ?_
  refine (grdT (decide_eq_true (by omega))).trans ?_
  refine (bAt hy _).trans ?_
  refine (cmp_eq _ x y).trans ?_
  have e := cmpI_neg x.1 y.1
  cases hc : decide (x.1 < y.1) with
  | false =>
    rw [hc] at e
    exact bifF e
  | true =>
    rw [hc] at e
    refine (bifT e).trans ?_
    refine (grdT (decide_eq_true (by omega))).trans ?_
    refine (grdT (decide_eq_true (by omega))).trans ?_
    refine (bAt hy _).trans ?_
    refine (grdT (decide_eq_true (by omega))).trans ?_
    refine (grdT (decide_eq_true (by omega))).trans ?_
    refine (bAt hx _).trans ?_
    refine (grdT (decide_eq_true (by omega))).trans ?_
    refine (grdT (decide_eq_true (by omega))).trans ?_
    refine (grdT (fitO y)).trans ?_
    refine (grdT (decide_eq_true (by rw [ops_length, hn]; omega))).trans ?_
    refine (grdT (decide_eq_true (by omega))).trans ?_
    refine (grdT (decide_eq_true (by omega))).trans ?_
    refine (grdT (fitO x)).trans ?_
    refine (grdT (decide_eq_true (by rw [List.length_set, ops_length, hn]; omega))).trans ?_
    rw [ops_swap]
    rfl
/-- The inner loop: the last of a sorted row goes to its place. -/
theorem ins2_eq {k : Nat} (K : List CV → Option X) (rec1 : Nat × Int × Int × Int × List CV → Option X) (n : Nat) (b i : Int) (P R : List Op) (x : Op) (M : List Op) (R0 : Option X) (hn2 : n < 1000000) (hr : rec1 (n, (P.length : Int), b, IntKind.wrap .i64 (i + 1), ops (P ++ isort (M ++ [x]) ++ R)) = R0) :
    ∀ (kk : Nat) (U Y : List Op), U.length < kk → (P ++ (U ++ x :: Y) ++ R).length = n → Srt (U ++ Y) → (∀ y ∈ Y, x.1 < y.1) → Flt M (U ++ Y) →
      iterV (f66_L2 (fun X => @f60 X k) k K rec1) kk (n, (P.length : Int), b, i, ((P.length + U.length : Nat) : Int), ops (P ++ (U ++ x :: Y) ++ R)) = R0
  | 0, U, Y, h, _, _, _, _ => absurd h (Nat.not_lt_zero _)
  | kk + 1, U, Y, h, hn, hs, hY, hf => by
    show f66_T2 (fun X => @f60 X k) k K rec1 (iterV (f66_L2 (fun X => @f60 X k) k K rec1) kk) (n, (P.length : Int), b, i, ((P.length + U.length : Nat) : Int), ops (P ++ (U ++ x :: Y) ++ R)) = R0
    have done : Srt (U ++ x :: Y) → rec1 (n, (P.length : Int), b, IntKind.wrap .i64 (i + 1), ops (P ++ (U ++ x :: Y) ++ R)) = R0 := fun hss => by
      rw [eq_isort (l := M ++ [x]) hss ?_]
      · exact hr
      · refine (hf.app (Flt.refl [x])).trans ?_
        rw [List.append_assoc]
        exact (Flt.refl U).app (by
          have := flt_blocks Y [x] (fun u hu v hv => by rw [List.mem_singleton.1 hv]; exact hY u hu)
          exact this)
    obtain ⟨hU, hYs, hUY⟩ := srt_app.1 hs
    rcases List.eq_nil_or_concat U with rfl | ⟨V, y, rfl⟩
    · unfold f66_T2
      dsimp only
      refine (bifF (decide_eq_false (by simp))).trans ?_
      refine done ?_
      exact List.pairwise_cons.2 ⟨fun z hz => Int.le_of_lt (hY z hz), hYs⟩
    · rw [List.concat_eq_append] at *
      have e1 : P ++ ((V ++ [y]) ++ x :: Y) ++ R = (P ++ V) ++ y :: x :: (Y ++ R) := by simp
      have e2 : (P ++ V) ++ x :: y :: (Y ++ R) = P ++ (V ++ x :: (y :: Y)) ++ R := by simp
      have e3 : P.length + (V ++ [y]).length = (P.length + V.length) + 1 := by simp; omega
      rw [e3]
      have step := ins2_step (k := k) K rec1 (iterV (f66_L2 (fun X => @f60 X k) k K rec1) kk) n P.length (P.length + V.length) b i (P ++ V) x y (Y ++ R) (by simp) (by rw [← e1]; exact hn) hn2 (by omega)
      rw [← e1] at step
      refine step.trans ?_
      cases hc : decide (x.1 < y.1) with
      | false =>
        refine done ?_
        have hyx : y.1 ≤ x.1 := by have := of_decide_eq_false hc; omega
        refine srt_app.2 ⟨hU, List.pairwise_cons.2 ⟨fun z hz => Int.le_of_lt (hY z hz), hYs⟩, fun u hu v hv => ?_⟩
        have huy : u.1 ≤ y.1 := by
          rcases List.mem_append.1 hu with hu' | hu'
          · exact (srt_app.1 hU).2.2 u hu' y (List.mem_singleton.2 rfl)
          · rw [List.mem_singleton.1 hu']; exact Int.le_refl _
        rcases List.mem_cons.1 hv with rfl | hv
        · omega
        · have := hY v hv; omega
      | true =>
        have hxy : x.1 < y.1 := of_decide_eq_true hc
        show iterV _ kk (n, (P.length : Int), b, i, ((P.length + V.length : Nat) : Int), ops ((P ++ V) ++ x :: y :: (Y ++ R))) = R0
        rw [e2]
        refine ins2_eq K rec1 n b i P R x M R0 hn2 hr kk V (y :: Y) (by simp at h; omega) ?_ ?_ ?_ ?_
        · rw [← e2, ← hn, e1]; simp
        · rw [show V ++ y :: Y = (V ++ [y]) ++ Y by simp]; exact hs
        · intro z hz
          rcases List.mem_cons.1 hz with rfl | hz
          · exact hxy
          · exact hY z hz
        · rw [show V ++ y :: Y = (V ++ [y]) ++ Y by simp]; exact hf
/-- Insertion sort of a part of a row. -/
theorem insSort_eq {k : Nat} (K : List CV → Option X) (P M R : List Op) (n : Nat) (hn : (P ++ M ++ R).length = n) (hn2 : n < 1000000) (hk : n < k) :
    f66 k K n (P.length : Int) ((P.length + M.length : Nat) : Int) (ops (P ++ M ++ R)) = K (ops (P ++ isort M ++ R)) := by
  have hlen : P.length + M.length + R.length = n := by rw [← hn]; simp; omega
  unfold f66 f66_A f66_T
  rw [wrap64_succ (by omega)]
  rcases Nat.eq_zero_or_pos M.length with h0 | h0
  · have hM : M = [] := List.eq_nil_of_length_eq_zero h0
    subst hM
    obtain ⟨k, rfl⟩ : ∃ j, k = j + 1 := ⟨k - 1, by omega⟩
    refine (iterV_one _ _ _).trans ?_
    unfold f66_L1
    unfold f66_T1
    exact bifF (decide_eq_false (by simp; omega))
  · have key := iterV_spec (T := f66_L1 (fun X => @f60 X k) k K) (fun j => (n, (P.length : Int), ((P.length + M.length : Nat) : Int), ((P.length + j : Nat) : Int), ops (P ++ (isort (M.take j) ++ M.drop j) ++ R)))
      (fun _ => K (ops (P ++ isort M ++ R))) M.length (fun j rec hj hr => by
        have ed : M.drop j = M[j] :: M.drop (j + 1) := List.drop_eq_getElem_cons hj
        have et : M.take (j + 1) = M.take j ++ [M[j]] := by rw [List.take_append_getElem hj]
        unfold f66_L1 f66_T1
        dsimp only
        refine (bifT (decide_eq_true (by omega))).trans ?_
        rw [ed]
        have e0 : P ++ (isort (M.take j) ++ M[j] :: M.drop (j + 1)) ++ R = P ++ (isort (M.take j) ++ M[j] :: []) ++ (M.drop (j + 1) ++ R) := by simp only [List.append_assoc, List.cons_append, List.nil_append]
        rw [e0]
        have ej : (isort (M.take j)).length = j := by rw [isort_len, List.length_take]; omega
        have := ins2_eq (k := k) K rec n ((P.length + M.length : Nat) : Int) ((P.length + j : Nat) : Int) P (M.drop (j + 1) ++ R) M[j] (M.take j) (K (ops (P ++ isort M ++ R))) hn2 (by
          have e5 : P ++ isort (M.take j ++ [M[j]]) ++ (M.drop (j + 1) ++ R) = P ++ (isort (M.take (j + 1)) ++ M.drop (j + 1)) ++ R := by rw [et]; simp
          rw [wrap64_succ (by omega), e5, show P.length + j + 1 = P.length + (j + 1) by omega]
          exact hr) k (isort (M.take j)) [] (by omega) (by rw [← e0, ← ed]; simp [isort_len]; omega) (by rw [List.append_nil]; exact isort_srt _) (fun y hy => by simp at hy) (by rw [List.append_nil]; exact isort_flt _)
        rw [ej] at this
        exact this) (fun rec => by
        unfold f66_L1 f66_T1
        dsimp only
        refine (bifF (decide_eq_false (by omega))).trans ?_
        simp) k 1 h0 (by omega)
    have e1 : P ++ (isort (M.take 1) ++ M.drop 1) ++ R = P ++ M ++ R := by
      cases M with
      | nil => simp at h0
      | cons a M => simp [isort, ins]
    rw [e1] at key
    exact key
end
end Go.Proofs.YtlgdoglffddjfaaD
/- slices.SortStableFunc, by the options' numbers: blocks that are exchanged, rows that are merged. -/
namespace Go.Proofs.YtlgdoglffddjfaaD
open Go Go.Proofs.YtlgdoglffddjfaaS Go.Proofs
set_option linter.unusedVariables false
set_option linter.unusedSimpArgs false
section
variable {X : Type}
theorem nth2 (U : List Op) (x : Op) (V : List Op) (y : Op) (W : List Op) : (ops (U ++ x :: (V ++ y :: W)))[U.length + 1 + V.length]? = some (opv y) := by
  have e : U ++ x :: (V ++ y :: W) = (U ++ x :: V) ++ y :: W := by simp
  have h := ops_at (U ++ x :: V) y W
  rw [e]
  rwa [show (U ++ x :: V).length = U.length + 1 + V.length by simp; omega] at h
theorem set2 (U : List Op) (x : Op) (V : List Op) (y : Op) (W : List Op) : ((ops (U ++ x :: (V ++ y :: W))).set U.length (opv y)).set (U.length + 1 + V.length) (opv x) = ops (U ++ y :: (V ++ x :: W)) := by
  simp only [ops, List.map_append, List.map_cons]
  rw [List.set_append_right _ _ (by simp), List.length_map, Nat.sub_self, List.set_cons_zero, List.set_append_right _ _ (by simp; omega), List.length_map, show U.length + 1 + V.length - U.length = V.length + 1 by omega, List.set_cons_succ, List.set_append_right _ _ (by simp), List.length_map, Nat.sub_self, List.set_cons_zero]
/-- Two blocks of one length are exchanged. -/
theorem swapR_eq {k : Nat} (K : List CV → Option X) (A U B V C : List Op) (n : Nat) (hn : (A ++ U ++ B ++ V ++ C).length = n) (hn2 : n < 1000000) (hUV : V.length = U.length) (hk : n < k) :
    f69 k K n (A.length : Int) ((A.length + U.length + B.length : Nat) : Int) (U.length : Int) (ops (A ++ U ++ B ++ V ++ C)) = K (ops (A ++ V ++ B ++ U ++ C)) := by
  have hlen : A.length + U.length + B.length + V.length + C.length = n := by rw [← hn]; simp; omega
  unfold f69 f69_A f69_T
  have key := iterV_spec (T := f69_L1 k K) (fun i => (n, (A.length : Int), ((A.length + U.length + B.length : Nat) : Int), (U.length : Int), (i : Int), ops (A ++ (V.take i ++ U.drop i) ++ B ++ (U.take i ++ V.drop i) ++ C)))
    (fun _ => K (ops (A ++ V ++ B ++ U ++ C))) U.length (fun i rec hi hr => by
      have hv : i < V.length := by omega
      have ed : U.drop i = U[i] :: U.drop (i + 1) := List.drop_eq_getElem_cons hi
      have ed2 : V.drop i = V[i] :: V.drop (i + 1) := List.drop_eq_getElem_cons hv
      have et : U.take (i + 1) = U.take i ++ [U[i]] := by rw [List.take_append_getElem hi]
      have et2 : V.take (i + 1) = V.take i ++ [V[i]] := by rw [List.take_append_getElem hv]
      generalize hx : U[i] = x at ed et
      generalize hy : V[i] = y at ed2 et2
      have hu1 : (U.take i).length = i := by rw [List.length_take]; omega
      have hv1 : (V.take i).length = i := by rw [List.length_take]; omega
      have e0 : A ++ (V.take i ++ U.drop i) ++ B ++ (U.take i ++ V.drop i) ++ C = (A ++ V.take i) ++ x :: ((U.drop (i + 1) ++ B ++ U.take i) ++ y :: (V.drop (i + 1) ++ C)) := by
        rw [ed, ed2]; simp only [List.append_assoc, List.cons_append]
      have e1 : (A ++ V.take i) ++ y :: ((U.drop (i + 1) ++ B ++ U.take i) ++ x :: (V.drop (i + 1) ++ C)) = A ++ (V.take (i + 1) ++ U.drop (i + 1)) ++ B ++ (U.take (i + 1) ++ V.drop (i + 1)) ++ C := by
        rw [et, et2]; simp only [List.append_assoc, List.cons_append, List.nil_append]
      have p1 : A.length + i = (A ++ V.take i).length := by rw [List.length_append, hv1]
      have p2 : A.length + U.length + B.length + i = (A ++ V.take i).length + 1 + (U.drop (i + 1) ++ B ++ U.take i).length := by
        rw [← p1]; simp only [List.length_append, List.length_drop, hu1]; omega
      have w1 : IntKind.wrap .i64 ((A.length : Int) + (i : Int)) = (((A ++ V.take i).length : Nat) : Int) := by rw [wrap64 (by omega) (by omega), ← p1]; omega
      have w2 : IntKind.wrap .i64 (((A.length + U.length + B.length : Nat) : Int) + (i : Int)) = (((A ++ V.take i).length + 1 + (U.drop (i + 1) ++ B ++ U.take i).length : Nat) : Int) := by rw [wrap64 (by omega) (by omega), ← p2]; omega
      have a1 := ops_at (A ++ V.take i) x ((U.drop (i + 1) ++ B ++ U.take i) ++ y :: (V.drop (i + 1) ++ C))
      have a2 := nth2 (A ++ V.take i) x (U.drop (i + 1) ++ B ++ U.take i) y (V.drop (i + 1) ++ C)
      have hL : (ops ((A ++ V.take i) ++ x :: ((U.drop (i + 1) ++ B ++ U.take i) ++ y :: (V.drop (i + 1) ++ C)))).length = n := by
        rw [ops_length, ← e0, ← hn]; simp only [List.length_append, hu1, hv1, List.length_drop]; omega
      unfold f69_L1 f69_T1
      dsimp only
      refine (bifT (decide_eq_true (by omega))).trans ?_
      rw [e0]
      simp only [w1, w2, Int.toNat_natCast, Nat.zero_add]
      refine (grdT (dec0 _)).trans ?_
      refine (grdT (decide_eq_true (by rw [← p2]; omega))).trans ?_
      refine (bAt a2 _).trans ?_
      refine (grdT (dec0 _)).trans ?_
      refine (grdT (decide_eq_true (by rw [← p1]; omega))).trans ?_
      refine (bAt a1 _).trans ?_
      refine (grdT (dec0 _)).trans ?_
      refine (grdT (decide_eq_true (by rw [← p1]; omega))).trans ?_
      refine (grdT (fitO y)).trans ?_
      refine (grdT (decide_eq_true (by rw [hL, ← p1]; omega))).trans ?_
      refine (grdT (dec0 _)).trans ?_
      refine (grdT (decide_eq_true (by rw [← p2]; omega))).trans ?_
      refine (grdT (fitO x)).trans ?_
      refine (grdT (decide_eq_true (by rw [List.length_set, hL, ← p2]; omega))).trans ?_
      rw [set2, e1, wrap64_succ (by omega)]
      exact hr) (fun rec => by
      unfold f69_L1 f69_T1
      dsimp only
      refine (bifF (decide_eq_false (by omega))).trans ?_
      rw [List.drop_length, List.take_length, List.append_nil, ← hUV, List.take_length, List.drop_length, List.append_nil]) k 0 (Nat.zero_le _) (by omega)
  simpa using key
/-- Two blocks that stand side by side are exchanged. -/
theorem rotLoop {k : Nat} (K : List CV → Option X) (n : Nat) (hn2 : n < 1000000) (hk : n < k) : ∀ (kk : Nat) (A U V C : List Op), (A ++ U ++ V ++ C).length = n → 0 < U.length → 0 < V.length → U.length + V.length < kk →
    iterV (f68_L1 (fun X => @f69 X k) k K) kk (n, ((A.length + U.length : Nat) : Int), (U.length : Int), (V.length : Int), ops (A ++ U ++ V ++ C)) = K (ops (A ++ V ++ U ++ C))
  | 0, _, _, _, _, _, _, _, h => absurd h (Nat.not_lt_zero _)
  | kk + 1, A, U, V, C, hn, hU, hV, h => by
    have hlen : A.length + U.length + V.length + C.length = n := by rw [← hn]; simp; omega
    refine (iterV_one _ _ _).trans ?_
    generalize hT : iterV (f68_L1 (fun X => @f69 X k) k K) kk = rec
    unfold f68_L1 f68_T1
    dsimp only
    have w0 : IntKind.wrap .i64 (((A.length + U.length : Nat) : Int) - (U.length : Int)) = (A.length : Int) := by rw [wrap64 (by omega) (by omega)]; omega
    rw [w0]
    rcases Nat.lt_trichotomy U.length V.length with hc | hc | hc
    · refine (bifT (bne_t (by omega))).trans ?_
      refine (bifF (decide_eq_false (by omega))).trans ?_
      have w1 : IntKind.wrap .i64 (IntKind.wrap .i64 (((A.length + U.length : Nat) : Int) + (V.length : Int)) - (U.length : Int)) = ((A.length + U.length + (V.take (V.length - U.length)).length : Nat) : Int) := by
        rw [wrap64 (n := ((A.length + U.length : Nat) : Int) + (V.length : Int)) (by omega) (by omega), wrap64 (by omega) (by omega), List.length_take]; omega
      have w2 : IntKind.wrap .i64 ((V.length : Int) - (U.length : Int)) = (((V.take (V.length - U.length)).length : Nat) : Int) := by rw [wrap64 (by omega) (by omega), List.length_take]; omega
      rw [w1, w2]
      have e0 : A ++ U ++ V ++ C = A ++ U ++ V.take (V.length - U.length) ++ V.drop (V.length - U.length) ++ C := by
        conv => lhs; rw [← List.take_append_drop (V.length - U.length) V]
        simp only [List.append_assoc]
      have l2 : (V.drop (V.length - U.length)).length = U.length := by rw [List.length_drop]; omega
      rw [e0]
      refine (swapR_eq _ A U (V.take (V.length - U.length)) (V.drop (V.length - U.length)) C n (by rw [← e0]; exact hn) hn2 l2 hk).trans ?_
      have ih := rotLoop K n hn2 hk kk A (V.drop (V.length - U.length)) (V.take (V.length - U.length)) (U ++ C) (by simp only [List.length_append, l2, List.length_take]; omega) (by omega) (by rw [List.length_take]; omega) (by rw [l2, List.length_take]; omega)
      rw [hT, l2] at ih
      have e1 : A ++ V.drop (V.length - U.length) ++ V.take (V.length - U.length) ++ U ++ C = A ++ V.drop (V.length - U.length) ++ V.take (V.length - U.length) ++ (U ++ C) := by simp only [List.append_assoc]
      rw [e1]
      refine ih.trans ?_
      congr 2
      conv => rhs; rw [← List.take_append_drop (V.length - U.length) V]
      simp only [List.append_assoc]
    · refine (bifF (by rw [hc]; simp)).trans ?_
      have := swapR_eq (k := k) (fun u6 => K u6) A U [] V C n (by simpa using hn) hn2 hc.symm hk
      simpa using this
    · refine (bifT (bne_t (by omega))).trans ?_
      refine (bifT (decide_eq_true (by omega))).trans ?_
      have w2 : IntKind.wrap .i64 ((U.length : Int) - (V.length : Int)) = (((U.drop V.length).length : Nat) : Int) := by rw [wrap64 (by omega) (by omega), List.length_drop]; omega
      rw [w2]
      have e0 : A ++ U ++ V ++ C = A ++ U.take V.length ++ U.drop V.length ++ V ++ C := by
        conv => lhs; rw [← List.take_append_drop V.length U]
        simp only [List.append_assoc]
      have l1 : (U.take V.length).length = V.length := by rw [List.length_take]; omega
      have l2 : (U.drop V.length).length = U.length - V.length := List.length_drop ..
      rw [e0]
      have sw := swapR_eq (k := k) (fun u4 => rec (n, ((A.length + U.length : Nat) : Int), (((U.drop V.length).length : Nat) : Int), (V.length : Int), u4)) A (U.take V.length) (U.drop V.length) V C n (by rw [← e0]; exact hn) hn2 l1.symm hk
      rw [l1, show A.length + V.length + (U.drop V.length).length = A.length + U.length by rw [l2]; omega] at sw
      refine sw.trans ?_
      have ih := rotLoop K n hn2 hk kk (A ++ V) (U.drop V.length) (U.take V.length) C (by simp only [List.length_append, l2, l1]; omega) (by omega) (by omega) (by omega)
      rw [hT, l1, show (A ++ V).length + (U.drop V.length).length = A.length + U.length by rw [List.length_append, l2]; omega] at ih
      refine ih.trans ?_
      congr 2
      conv => rhs; rw [← List.take_append_drop V.length U]
      simp only [List.append_assoc]
theorem rotate_eq {k : Nat} (K : List CV → Option X) (A U V C : List Op) (n : Nat) (hn : (A ++ U ++ V ++ C).length = n) (hn2 : n < 1000000) (hk : n < k) (hU : 0 < U.length) (hV : 0 < V.length) :
    f68 k K n (A.length : Int) ((A.length + U.length : Nat) : Int) ((A.length + U.length + V.length : Nat) : Int) (ops (A ++ U ++ V ++ C)) = K (ops (A ++ V ++ U ++ C)) := by
  have hlen : A.length + U.length + V.length + C.length = n := by rw [← hn]; simp; omega
  unfold f68 f68_A f68_T
  rw [show IntKind.wrap .i64 (((A.length + U.length : Nat) : Int) - (A.length : Int)) = (U.length : Int) by rw [wrap64 (by omega) (by omega)]; omega,
    show IntKind.wrap .i64 (((A.length + U.length + V.length : Nat) : Int) - ((A.length + U.length : Nat) : Int)) = (V.length : Int) by rw [wrap64 (by omega) (by omega)]; omega]
  exact rotLoop K n hn2 hk k A U V C hn hU hV (by omega)
/-- A search by halves. -/
def bs (q : Nat → Bool) : Nat → Nat → Nat → Nat
  | 0, i, _ => i
  | f + 1, i, j => if i < j then (if q ((i + j) / 2) = true then bs q f ((i + j) / 2 + 1) j else bs q f i ((i + j) / 2)) else i
theorem bs_spec {q : Nat → Bool} : ∀ (f i j : Nat), (∀ c d, i ≤ c → c < d → d < j → q d = true → q c = true) → i ≤ j → j - i < f →
    i ≤ bs q f i j ∧ bs q f i j ≤ j ∧ (∀ c, i ≤ c → c < bs q f i j → q c = true) ∧ ∀ c, bs q f i j ≤ c → c < j → q c = false
  | 0, i, j, _, _, h => absurd h (Nat.not_lt_zero _)
  | f + 1, i, j, hm, hij, hf => by
    unfold bs
    split
    · next hlt =>
      split
      · next hq =>
        obtain ⟨h1, h2, h3, h4⟩ := bs_spec (q := q) f ((i + j) / 2 + 1) j (fun c d hc hcd hd => hm c d (by omega) hcd hd) (by omega) (by omega)
        refine ⟨by omega, h2, fun c hc hcb => ?_, h4⟩
        rcases Nat.lt_or_ge c ((i + j) / 2 + 1) with h5 | h5
        · rcases Nat.eq_or_lt_of_le (Nat.le_of_lt_succ h5) with h6 | h6
          · rw [h6]; exact hq
          · exact hm c _ hc h6 (by omega) hq
        · exact h3 c h5 hcb
      · next hq =>
        obtain ⟨h1, h2, h3, h4⟩ := bs_spec (q := q) f i ((i + j) / 2) (fun c d hc hcd hd => hm c d hc hcd (by omega)) (by omega) (by omega)
        refine ⟨h1, by omega, h3, fun c hc hcj => ?_⟩
        rcases Nat.lt_or_ge c ((i + j) / 2) with h5 | h5
        · exact h4 c hc h5
        · cases hqc : q c with
          | false => rfl
          | true =>
            rcases Nat.eq_or_lt_of_le h5 with h6 | h6
            · rw [h6] at hq; exact absurd hqc hq
            · exact absurd (hm _ c (by omega) h6 hcj hqc) hq
    · next hge => exact ⟨Nat.le_refl _, hij, fun c h1 h2 => by omega, fun c h1 h2 => by omega⟩
theorem bsLoop {V : Type} {T : (V → Option X) → V → Option X} (S : Nat → Nat → V) (q : Nat → Bool) (F : Nat → Option X) (lo hi : Nat)
    (hs : ∀ i j rec, lo ≤ i → i < j → j ≤ hi → T rec (S i j) = bif q ((i + j) / 2) then rec (S ((i + j) / 2 + 1) j) else rec (S i ((i + j) / 2)))
    (he : ∀ i rec, lo ≤ i → i ≤ hi → T rec (S i i) = F i) : ∀ (kk i j : Nat), lo ≤ i → i ≤ j → j ≤ hi → j - i < kk → iterV T kk (S i j) = F (bs q kk i j)
  | 0, i, j, _, _, _, h => absurd h (Nat.not_lt_zero _)
  | kk + 1, i, j, hl, hij, hh, h => by
    refine (iterV_one _ _ _).trans ?_
    unfold bs
    rcases Nat.lt_or_ge i j with hlt | hge
    · rw [if_pos hlt, hs i j _ hl hlt hh]
      cases q ((i + j) / 2) with
      | true => exact bsLoop S q F lo hi hs he kk _ j (by omega) (by omega) hh (by omega)
      | false => exact bsLoop S q F lo hi hs he kk i _ hl (by omega) (by omega) (by omega)
    · have : i = j := by omega
      subst this
      rw [if_neg (by omega)]
      exact he i _ hl (by omega)
theorem half_eq (i j : Nat) (h : i + j < 1000000000) : IntKind.wrap .i64 (Int.fdiv (IntKind.wrap .u64 (IntKind.wrap .i64 ((i : Int) + (j : Int)))) (2 ^ 1)) = (((i + j) / 2 : Nat) : Int) := by
  rw [wrap64 (n := (i : Int) + (j : Int)) (by omega) (by omega), wrapU64, fdiv_eq _ (by decide), wrap64 (by omega) (by omega)]
  omega
end
end Go.Proofs.YtlgdoglffddjfaaD
/- slices.SortStableFunc, by the options' numbers: two sorted rows are merged; the sort. -/
namespace Go.Proofs.YtlgdoglffddjfaaD
open Go Go.Proofs.YtlgdoglffddjfaaS Go.Proofs
set_option linter.unusedVariables false
set_option linter.unusedSimpArgs false
section
variable {X : Type}
/-- The element at a place. -/
def el (L : List Op) (c : Nat) : Op := (L[c]?).getD (0, [])
theorem el_get {L : List Op} {c : Nat} (h : c < L.length) : (ops L)[c]? = some (opv (el L c)) := by
  unfold ops el
  rw [List.getElem?_map, List.getElem?_eq_getElem h]; rfl
theorem el_mid (A M R : List Op) {i : Nat} (h : i < M.length) : el (A ++ M ++ R) (A.length + i) = M[i] := by
  unfold el
  rw [List.append_assoc, List.getElem?_append_right (by omega), Nat.add_sub_cancel_left, List.getElem?_append_left h, List.getElem?_eq_getElem h]; rfl
theorem el_srt (A M R : List Op) (hs : Srt M) {c d : Nat} (h1 : A.length ≤ c) (h2 : c ≤ d) (h3 : d < A.length + M.length) : (el (A ++ M ++ R) c).1 ≤ (el (A ++ M ++ R) d).1 := by
  obtain ⟨i, rfl⟩ : ∃ i, c = A.length + i := ⟨c - A.length, by omega⟩
  obtain ⟨j, rfl⟩ : ∃ j, d = A.length + j := ⟨d - A.length, by omega⟩
  rw [el_mid A M R (by omega), el_mid A M R (by omega)]
  rcases Nat.eq_or_lt_of_le h2 with e | e
  · have : i = j := by omega
    subst this; exact Int.le_refl _
  · exact List.pairwise_iff_getElem.1 hs i j (by omega) (by omega) (by omega)
theorem ops_swap' (A : List Op) (x y : Op) (B : List Op) : ((ops (A ++ x :: y :: B)).set A.length (opv y)).set (A.length + 1) (opv x) = ops (A ++ y :: x :: B) := by simp [ops]
variable (k : Nat) (Rm : f67_R)
/-- An element goes to the right. -/
theorem moveR (K : List CV → Option X) (n : Nat) (hn2 : n < 1000000) (x : Op) (A V R : List Op) (hn : (A ++ x :: V ++ R).length = n) (hk : n < k) :
    iterV (f67_L2 (fun X => @f60 X k) (fun X => @f68 X k) Rm k K) k (n, ((A.length + 1 + V.length : Nat) : Int), (A.length : Int), ops (A ++ x :: V ++ R)) = K (ops (A ++ V ++ x :: R)) := by
  have hlen : A.length + 1 + V.length + R.length = n := by rw [← hn]; simp; omega
  have key := iterV_spec (T := f67_L2 (fun X => @f60 X k) (fun X => @f68 X k) Rm k K) (fun i => (n, ((A.length + 1 + V.length : Nat) : Int), ((A.length + i : Nat) : Int), ops (A ++ V.take i ++ x :: V.drop i ++ R)))
    (fun _ => K (ops (A ++ V ++ x :: R))) V.length (fun i rec hi hr => by
      have ed : V.drop i = V[i] :: V.drop (i + 1) := List.drop_eq_getElem_cons hi
      have et : V.take (i + 1) = V.take i ++ [V[i]] := by rw [List.take_append_getElem hi]
      generalize V[i] = y at ed et
      have hv : (A ++ V.take i).length = A.length + i := by rw [List.length_append, List.length_take]; omega
      have e0 : A ++ V.take i ++ x :: V.drop i ++ R = (A ++ V.take i) ++ x :: y :: (V.drop (i + 1) ++ R) := by rw [ed]; simp only [List.append_assoc, List.cons_append]
      have e1 : (A ++ V.take i) ++ y :: x :: (V.drop (i + 1) ++ R) = A ++ V.take (i + 1) ++ x :: V.drop (i + 1) ++ R := by rw [et]; simp only [List.append_assoc, List.cons_append, List.nil_append]
      have a1 := ops_at (A ++ V.take i) x (y :: (V.drop (i + 1) ++ R))
      have a2 := ops_at1 (A ++ V.take i) x y (V.drop (i + 1) ++ R)
      have hL : (ops ((A ++ V.take i) ++ x :: y :: (V.drop (i + 1) ++ R))).length = n := by
        rw [ops_length, List.length_append, hv]; simp only [List.length_cons, List.length_append, List.length_drop]; omega
      have w1 : IntKind.wrap .i64 (((A.length + 1 + V.length : Nat) : Int) - 1) = ((A.length + V.length : Nat) : Int) := by rw [wrap64 (by omega) (by omega)]; omega
      have w2 : IntKind.wrap .i64 (((A.length + i : Nat) : Int) + 1) = ((A.length + i + 1 : Nat) : Int) := by rw [wrap64 (by omega) (by omega)]; omega
      have sw := ops_swap' (A ++ V.take i) x y (V.drop (i + 1) ++ R)
      rw [hv] at a1 a2 sw
      unfold f67_L2 f67_T2
      dsimp only
      rw [e0]
      simp only [w1, w2, Int.toNat_natCast, Nat.zero_add]
      refine (bifT (decide_eq_true (by omega))).trans ?_
      refine (grdT (dec0 _)).trans ?_
      refine (grdT (decide_eq_true (by omega))).trans ?_
      refine (bAt a2 _).trans ?_
      refine (grdT (dec0 _)).trans ?_
      refine (grdT (decide_eq_true (by omega))).trans ?_
      refine (bAt a1 _).trans ?_
      refine (grdT (dec0 _)).trans ?_
      refine (grdT (decide_eq_true (by omega))).trans ?_
      refine (grdT (fitO y)).trans ?_
      refine (grdT (decide_eq_true (by rw [hL]; omega))).trans ?_
      refine (grdT (dec0 _)).trans ?_
      refine (grdT (decide_eq_true (by omega))).trans ?_
      refine (grdT (fitO x)).trans ?_
      refine (grdT (decide_eq_true (by rw [List.length_set, hL]; omega))).trans ?_
      rw [sw, e1]
      exact hr) (fun rec => by
      unfold f67_L2 f67_T2
      dsimp only
      refine (bifF (decide_eq_false (by rw [wrap64 (by omega) (by omega)]; omega))).trans ?_
      simp) k 0 (Nat.zero_le _) (by omega)
  simpa using key
/-- An element goes to the left. -/
theorem moveL (K : List CV → Option X) (n : Nat) (hn2 : n < 1000000) (x : Op) (A R : List Op) : ∀ (kk : Nat) (V Y : List Op), (A ++ V ++ x :: (Y ++ R)).length = n → V.length < kk →
    iterV (f67_L4 (fun X => @f60 X k) (fun X => @f68 X k) Rm k K) kk (n, (A.length : Int), ((A.length + V.length : Nat) : Int), ops (A ++ V ++ x :: (Y ++ R))) = K (ops (A ++ x :: (V ++ Y) ++ R))
  | 0, V, Y, _, h => absurd h (Nat.not_lt_zero _)
  | kk + 1, V, Y, hn, h => by
    have hlen : A.length + V.length + 1 + Y.length + R.length = n := by rw [← hn]; simp; omega
    refine (iterV_one _ _ _).trans ?_
    rcases List.eq_nil_or_concat V with rfl | ⟨U, y, rfl⟩
    · unfold f67_L4 f67_T4
      dsimp only
      refine (bifF (decide_eq_false (by simp))).trans ?_
      simp
    · rw [List.concat_eq_append] at *
      have ih := moveL K n hn2 x A R kk U (y :: Y) (by rw [← hn]; simp) (by simp at h; omega)
      generalize iterV (f67_L4 (fun X => @f60 X k) (fun X => @f68 X k) Rm k K) kk = rec at ih ⊢
      have e0 : A ++ (U ++ [y]) ++ x :: (Y ++ R) = (A ++ U) ++ y :: x :: (Y ++ R) := by simp
      have hv : (A ++ U).length = A.length + U.length := List.length_append ..
      have a1 := ops_at (A ++ U) y (x :: (Y ++ R))
      have a2 := ops_at1 (A ++ U) y x (Y ++ R)
      have sw := ops_swap (A ++ U) y x (Y ++ R)
      rw [hv] at a1 a2 sw
      have hUl : (U ++ [y]).length = U.length + 1 := by simp
      rw [hUl] at hlen
      have hL : (ops ((A ++ U) ++ y :: x :: (Y ++ R))).length = n := by rw [ops_length, ← e0]; exact hn
      have w1 : IntKind.wrap .i64 (((A.length + (U.length + 1) : Nat) : Int) - 1) = ((A.length + U.length : Nat) : Int) := by rw [wrap64 (by omega) (by omega)]; omega
      rw [hUl]
      unfold f67_L4 f67_T4
      dsimp only
      rw [e0]
      simp only [w1, Int.toNat_natCast, Nat.zero_add]
      refine (bifT (decide_eq_true (by omega))).trans ?_
      refine (grdT (dec0 _)).trans ?_
      refine (grdT (decide_eq_true (by omega))).trans ?_
      refine (bAt a1 _).trans ?_
      refine (grdT (dec0 _)).trans ?_
      refine (grdT (decide_eq_true (by omega))).trans ?_
      refine (bAt a2 _).trans ?_
      refine (grdT (dec0 _)).trans ?_
      refine (grdT (decide_eq_true (by omega))).trans ?_
      refine (grdT (fitO y)).trans ?_
      refine (grdT (decide_eq_true (by rw [hL]; omega))).trans ?_
      refine (grdT (dec0 _)).trans ?_
      refine (grdT (decide_eq_true (by omega))).trans ?_
      refine (grdT (fitO x)).trans ?_
      refine (grdT (decide_eq_true (by rw [List.length_set, hL]; omega))).trans ?_
      rw [show A.length + (U.length + 1) = A.length + U.length + 1 from rfl, sw]
      have e2 : (A ++ U) ++ x :: y :: (Y ++ R) = A ++ U ++ x :: ((y :: Y) ++ R) := by simp
      rw [e2]
      refine ih.trans ?_
      simp
theorem allQ {A M R : List Op} {q : Op → Bool} {t : Nat} (h : ∀ c, A.length ≤ c → c < t → q (el (A ++ M ++ R) c) = true) (ht : t ≤ A.length + M.length) : ∀ v ∈ M.take (t - A.length), q v = true := fun v hv => by
  obtain ⟨i, hi, rfl⟩ := List.mem_iff_getElem.1 hv
  rw [List.length_take] at hi
  rw [List.getElem_take]
  have := h (A.length + i) (by omega) (by omega)
  rwa [el_mid A M R (by omega)] at this
theorem allN {A M R : List Op} {q : Op → Bool} {t : Nat} (h : ∀ c, t ≤ c → c < A.length + M.length → q (el (A ++ M ++ R) c) = false) (ht : A.length ≤ t) : ∀ v ∈ M.drop (t - A.length), q v = false := fun v hv => by
  obtain ⟨i, hi, rfl⟩ := List.mem_iff_getElem.1 hv
  rw [List.length_drop] at hi
  rw [List.getElem_drop]
  have := h (A.length + (t - A.length + i)) (by omega) (by omega)
  rwa [el_mid A M R (by omega)] at this
/-- One element, and a sorted row behind it. -/
theorem merge1 (K : List CV → Option X) (n : Nat) (hn2 : n < 1000000) (x : Op) (A M R : List Op) (hn : (A ++ [x] ++ M ++ R).length = n) (hk : n < k) (hs : Srt M) :
    iterV (f67_L1 (fun X => @f60 X k) (fun X => @f68 X k) Rm k K) k (n, (A.length : Int), ((A.length + 1 : Nat) : Int), ((A.length + 1 + M.length : Nat) : Int), ops (A ++ [x] ++ M ++ R)) = K (ops (A ++ isort ([x] ++ M) ++ R)) := by
  have hlen : A.length + 1 + M.length + R.length = n := by rw [← hn]; simp; omega
  have hAx : (A ++ [x]).length = A.length + 1 := by simp
  have hLn : (A ++ [x] ++ M ++ R).length = n := hn
  have hL' : (ops (A ++ [x] ++ M ++ R)).length = n := by rw [ops_length]; exact hn
  have ax : (ops (A ++ [x] ++ M ++ R))[A.length]? = some (opv x) := by
    have := ops_at A x (M ++ R)
    simpa using this
  refine (bsLoop (fun i j => (n, (A.length : Int), (i : Int), (j : Int), ops (A ++ [x] ++ M ++ R))) (fun c => decide ((el (A ++ [x] ++ M ++ R) c).1 < x.1))
    (fun t => iterV (f67_L2 (fun X => @f60 X k) (fun X => @f68 X k) Rm k K) k (n, (t : Int), (A.length : Int), ops (A ++ [x] ++ M ++ R))) (A.length + 1) (A.length + 1 + M.length) (fun i j rec h1 h2 h3 => ?_) (fun i rec h1 h2 => ?_) k (A.length + 1) (A.length + 1 + M.length) (Nat.le_refl _) (by omega) (Nat.le_refl _) (by omega)).trans ?_
  · unfold f67_L1 f67_T1
    dsimp only
    refine (bifT (decide_eq_true (by omega))).trans ?_
    rw [half_eq _ _ (by omega)]
    simp only [Int.toNat_natCast, Nat.zero_add]
    refine (grdT (dec0 _)).trans ?_
    refine (grdT (decide_eq_true (by omega))).trans ?_
    refine (bAt (el_get (by rw [hLn]; omega)) _).trans ?_
    refine (grdT (dec0 _)).trans ?_
    refine (grdT (decide_eq_true (by omega))).trans ?_
    refine (bAt ax _).trans ?_
    refine (cmp_eq _ _ _).trans ?_
    have e := cmpI_neg (el (A ++ [x] ++ M ++ R) ((i + j) / 2)).1 x.1
    cases hc : decide ((el (A ++ [x] ++ M ++ R) ((i + j) / 2)).1 < x.1) with
    | true =>
      rw [hc] at e
      refine (bifT e).trans ?_
      rw [wrap64_succ (by omega)]; rfl
    | false => rw [hc] at e; exact bifF e
  · unfold f67_L1 f67_T1
    dsimp only
    exact bifF (decide_eq_false (by omega))
  · obtain ⟨t1, t2, t3, t4⟩ := bs_spec (q := fun c => decide ((el (A ++ [x] ++ M ++ R) c).1 < x.1)) k (A.length + 1) (A.length + 1 + M.length) (fun c d hc hcd hd hq => by
      have := el_srt (A ++ [x]) M R hs (c := c) (d := d) (by omega) (by omega) (by omega)
      simp only [decide_eq_true_eq] at hq ⊢
      omega) (by omega) (by omega)
    generalize bs (fun c => decide ((el (A ++ [x] ++ M ++ R) c).1 < x.1)) k (A.length + 1) (A.length + 1 + M.length) = t at t1 t2 t3 t4
    have v1 := allQ (A := A ++ [x]) (M := M) (R := R) (q := fun o => decide (o.1 < x.1)) (t := t) (fun c h1 h2 => t3 c (by omega) h2) (by omega)
    have v2 := allN (A := A ++ [x]) (M := M) (R := R) (q := fun o => decide (o.1 < x.1)) (t := t) (fun c h1 h2 => t4 c h1 (by omega)) (by omega)
    rw [hAx] at v1 v2
    have hl : (M.take (t - (A.length + 1))).length = t - (A.length + 1) := by rw [List.length_take]; omega
    have e0 : A ++ [x] ++ M ++ R = A ++ x :: M.take (t - (A.length + 1)) ++ (M.drop (t - (A.length + 1)) ++ R) := by
      conv => lhs; rw [← List.take_append_drop (t - (A.length + 1)) M]
      simp only [List.append_assoc, List.cons_append, List.nil_append]
    rw [e0] at hLn ⊢
    have mv := moveR k Rm K n hn2 x A (M.take (t - (A.length + 1))) (M.drop (t - (A.length + 1)) ++ R) hLn hk
    rw [hl, show A.length + 1 + (t - (A.length + 1)) = t by omega] at mv
    refine mv.trans ?_
    congr 2
    have hsV : Srt (M.take (t - (A.length + 1)) ++ M.drop (t - (A.length + 1))) := by rw [List.take_append_drop]; exact hs
    obtain ⟨s1, s2, s3⟩ := srt_app.1 hsV
    have hm : M.take (t - (A.length + 1)) ++ x :: M.drop (t - (A.length + 1)) = isort ([x] ++ M) := by
      refine eq_isort (srt_app.2 ⟨s1, List.pairwise_cons.2 ⟨fun z hz => ?_, s2⟩, fun u hu v hv => ?_⟩) ?_
      · have := v2 z hz; simp at this; exact this
      · have := v1 u hu
        simp only [decide_eq_true_eq] at this
        rcases List.mem_cons.1 hv with rfl | hv
        · omega
        · exact s3 u hu v hv
      · have := flt_blocks [x] (M.take (t - (A.length + 1))) (fun u hu v hv => by
          have h := v1 v hv
          simp only [decide_eq_true_eq] at h
          rw [List.mem_singleton.1 hu]; exact h)
        have h2 := this.app (Flt.refl (M.drop (t - (A.length + 1))))
        simpa using h2
    rw [← hm]
    simp
/-- A sorted row, and one element behind it. -/
theorem merge2 (K : List CV → Option X) (n : Nat) (hn2 : n < 1000000) (x : Op) (A M R : List Op) (hn : (A ++ M ++ [x] ++ R).length = n) (hk : n < k) (hs : Srt M) :
    iterV (f67_L3 (fun X => @f60 X k) (fun X => @f68 X k) Rm k K) k (n, ((A.length + M.length : Nat) : Int), (A.length : Int), ((A.length + M.length : Nat) : Int), ops (A ++ M ++ [x] ++ R)) = K (ops (A ++ isort (M ++ [x]) ++ R)) := by
  have hlen : A.length + M.length + 1 + R.length = n := by rw [← hn]; simp; omega
  have eL : A ++ M ++ [x] ++ R = A ++ M ++ (x :: R) := by simp
  rw [eL] at hn ⊢
  have hLn : (A ++ M ++ (x :: R)).length = n := hn
  have ax : (ops (A ++ M ++ (x :: R)))[A.length + M.length]? = some (opv x) := by
    have := ops_at (A ++ M) x R
    rwa [List.length_append] at this
  refine (bsLoop (fun i j => (n, ((A.length + M.length : Nat) : Int), (i : Int), (j : Int), ops (A ++ M ++ (x :: R)))) (fun c => !(decide (x.1 < (el (A ++ M ++ (x :: R)) c).1)))
    (fun t => iterV (f67_L4 (fun X => @f60 X k) (fun X => @f68 X k) Rm k K) k (n, (t : Int), ((A.length + M.length : Nat) : Int), ops (A ++ M ++ (x :: R)))) A.length (A.length + M.length) (fun i j rec h1 h2 h3 => ?_) (fun i rec h1 h2 => ?_) k A.length (A.length + M.length) (Nat.le_refl _) (by omega) (Nat.le_refl _) (by omega)).trans ?_
  · unfold f67_L3 f67_T3
    dsimp only
    refine (bifT (decide_eq_true (by omega))).trans ?_
    rw [half_eq _ _ (by omega)]
    simp only [Int.toNat_natCast, Nat.zero_add]
    refine (grdT (dec0 _)).trans ?_
    refine (grdT (decide_eq_true (by omega))).trans ?_
    refine (bAt ax _).trans ?_
    refine (grdT (dec0 _)).trans ?_
    refine (grdT (decide_eq_true (by omega))).trans ?_
    refine (bAt (el_get (by rw [hLn]; omega)) _).trans ?_
    refine (cmp_eq _ _ _).trans ?_
    have e := cmpI_neg x.1 (el (A ++ M ++ (x :: R)) ((i + j) / 2)).1
    cases hc : decide (x.1 < (el (A ++ M ++ (x :: R)) ((i + j) / 2)).1) with
    | true =>
      rw [hc] at e
      exact bifF (by rw [e]; rfl)
    | false =>
      rw [hc] at e
      refine (bifT (by rw [e]; rfl)).trans ?_
      rw [wrap64_succ (by omega)]; rfl
  · unfold f67_L3 f67_T3
    dsimp only
    exact bifF (decide_eq_false (by omega))
  · obtain ⟨t1, t2, t3, t4⟩ := bs_spec (q := fun c => !(decide (x.1 < (el (A ++ M ++ (x :: R)) c).1))) k A.length (A.length + M.length) (fun c d hc hcd hd hq => by
      have := el_srt A M (x :: R) hs (c := c) (d := d) (by omega) (by omega) (by omega)
      simp only [Bool.not_eq_true', decide_eq_false_iff_not] at hq ⊢
      omega) (by omega) (by omega)
    generalize bs (fun c => !(decide (x.1 < (el (A ++ M ++ (x :: R)) c).1))) k A.length (A.length + M.length) = t at t1 t2 t3 t4
    have v1 := allQ (A := A) (M := M) (R := x :: R) (q := fun o => !(decide (x.1 < o.1))) (t := t) (fun c h1 h2 => t3 c h1 h2) t2
    have v2 := allN (A := A) (M := M) (R := x :: R) (q := fun o => !(decide (x.1 < o.1))) (t := t) (fun c h1 h2 => t4 c h1 h2) t1
    have hl : (M.take (t - A.length)).length = t - A.length := by rw [List.length_take]; omega
    have hl2 : (M.drop (t - A.length)).length = M.length - (t - A.length) := List.length_drop ..
    have e0 : A ++ M ++ (x :: R) = (A ++ M.take (t - A.length)) ++ M.drop (t - A.length) ++ x :: ([] ++ R) := by
      conv => lhs; rw [← List.take_append_drop (t - A.length) M]
      simp only [List.append_assoc, List.nil_append]
    rw [e0] at hLn ⊢
    have mv := moveL k Rm K n hn2 x (A ++ M.take (t - A.length)) R k (M.drop (t - A.length)) [] hLn (by omega)
    rw [List.length_append, hl, hl2, show A.length + (t - A.length) = t by omega, show t + (M.length - (t - A.length)) = A.length + M.length by omega] at mv
    refine mv.trans ?_
    congr 2
    have hsV : Srt (M.take (t - A.length) ++ M.drop (t - A.length)) := by rw [List.take_append_drop]; exact hs
    obtain ⟨s1, s2, s3⟩ := srt_app.1 hsV
    have hm : M.take (t - A.length) ++ x :: M.drop (t - A.length) = isort (M ++ [x]) := by
      refine eq_isort (srt_app.2 ⟨s1, List.pairwise_cons.2 ⟨fun z hz => ?_, s2⟩, fun u hu v hv => ?_⟩) ?_
      · have := v2 z hz; simp at this; omega
      · have := v1 u hu
        simp only [Bool.not_eq_true', decide_eq_false_iff_not] at this
        rcases List.mem_cons.1 hv with rfl | hv
        · omega
        · exact s3 u hu v hv
      · have := flt_blocks (M.drop (t - A.length)) [x] (fun u hu v hv => by
          have h := v2 u hu
          simp at h
          rw [List.mem_singleton.1 hv]; exact h)
        have h2 := (Flt.refl (M.take (t - A.length))).app this
        rw [← List.append_assoc, List.take_append_drop] at h2
        simpa using h2
    rw [← hm]
    simp
end
end Go.Proofs.YtlgdoglffddjfaaD
/- slices.SortStableFunc, by the options' numbers: rows are merged; the sort. -/
namespace Go.Proofs.YtlgdoglffddjfaaD
open Go Go.Proofs.YtlgdoglffddjfaaS Go.Proofs
set_option linter.unusedVariables false
set_option linter.unusedSimpArgs false
section
variable {X : Type}
theorem take_el {A M R : List Op} {j : Nat} {u : Op} (h : u ∈ M.take j) : ∃ c, A.length ≤ c ∧ c < A.length + j ∧ c < A.length + M.length ∧ u = el (A ++ M ++ R) c := by
  obtain ⟨i, hi, rfl⟩ := List.mem_iff_getElem.1 h
  rw [List.length_take] at hi
  exact ⟨A.length + i, by omega, by omega, by omega, by rw [List.getElem_take, el_mid A M R (by omega)]⟩
theorem drop_el {A M R : List Op} {j : Nat} {u : Op} (h : u ∈ M.drop j) : ∃ c, A.length + j ≤ c ∧ c < A.length + M.length ∧ u = el (A ++ M ++ R) c := by
  obtain ⟨i, hi, rfl⟩ := List.mem_iff_getElem.1 h
  rw [List.length_drop] at hi
  exact ⟨A.length + (j + i), by omega, by omega, by rw [List.getElem_drop, el_mid A M R (by omega)]⟩
/-- Halves that stand as they shall are merged each by itself. -/
theorem halves {M1 M2 : List Op} {i j : Nat} (h1 : Srt M1) (h2 : Srt M2) (hAB : ∀ u ∈ M1.take i, ∀ v ∈ M2.drop j, u.1 ≤ v.1) (hBA : ∀ u ∈ M2.take j, ∀ v ∈ M1.drop i, u.1 < v.1) :
    isort (M1.take i ++ M2.take j) ++ isort (M1.drop i ++ M2.drop j) = isort (M1 ++ M2) := by
  have s1 : Srt (M1.take i ++ M1.drop i) := by rw [List.take_append_drop]; exact h1
  have s2 : Srt (M2.take j ++ M2.drop j) := by rw [List.take_append_drop]; exact h2
  refine eq_isort (srt_app.2 ⟨isort_srt _, isort_srt _, fun u hu v hv => ?_⟩) ?_
  · rw [isort_mem] at hu hv
    rcases List.mem_append.1 hu with hu | hu <;> rcases List.mem_append.1 hv with hv | hv
    · exact (srt_app.1 s1).2.2 u hu v hv
    · exact hAB u hu v hv
    · exact Int.le_of_lt (hBA u hu v hv)
    · exact (srt_app.1 s2).2.2 u hu v hv
  · have f1 : Flt (M1 ++ M2) ((M1.take i ++ M2.take j) ++ (M1.drop i ++ M2.drop j)) := by
      have := ((Flt.refl (M1.take i)).app (flt_blocks (M1.drop i) (M2.take j) (fun u hu v hv => hBA v hv u hu))).app (Flt.refl (M2.drop j))
      have e1 : M1.take i ++ (M1.drop i ++ M2.take j) ++ M2.drop j = M1 ++ M2 := by
        rw [← List.append_assoc, List.take_append_drop, List.append_assoc, List.take_append_drop]
      have e2 : M1.take i ++ (M2.take j ++ M1.drop i) ++ M2.drop j = (M1.take i ++ M2.take j) ++ (M1.drop i ++ M2.drop j) := by simp only [List.append_assoc]
      rwa [e1, e2] at this
    exact f1.trans ((isort_flt _).app (isort_flt _))
theorem isort_of {l : List Op} (h : Srt l) : isort l = l := (eq_isort h (Flt.refl l)).symm
abbrev SyS := Nat × Int × Int × Int × Int × Int × Int × Int × Int × List CV
/-- Behind the search: the blocks are exchanged, the halves merged. -/
theorem symTail (k : Nat) (K : List CV → Option X) (n : Nat) (hn2 : n < 1000000) (A M1 M2 R : List Op) (hn : (A ++ M1 ++ M2 ++ R).length = n) (hk : n < k)
    (ih : ∀ (A M1 M2 R : List Op) (K : List CV → Option X), (A ++ M1 ++ M2 ++ R).length = n → Srt M1 → Srt M2 → 0 < M1.length → 0 < M2.length → n + M1.length + M2.length + 3 < k → f67_r k X K n (A.length : Int) ((A.length + M1.length : Nat) : Int) ((A.length + M1.length + M2.length : Nat) : Int) (ops (A ++ M1 ++ M2 ++ R)) = K (ops (A ++ isort (M1 ++ M2) ++ R)))
    (h1 : Srt M1) (h2 : Srt M2) (hkk : n + M1.length + M2.length + 2 < k) (rec : SyS → Option X) (mid t i j : Nat) (hi : i ≤ M1.length) (hj : j ≤ M2.length) (ht : t = A.length + i) (hmid : mid = t + j) (hmm : mid < A.length + M1.length + M2.length) (hma : A.length < mid)
    (hAB : ∀ u ∈ M1.take i, ∀ v ∈ M2.drop j, u.1 ≤ v.1) (hBA : ∀ u ∈ M2.take j, ∀ v ∈ M1.drop i, u.1 < v.1) (p : Int) :
    f67_T5 (fun X => @f60 X k) (fun X => @f68 X k) (f67_r k) k K rec (n, (A.length : Int), ((A.length + M1.length : Nat) : Int), ((A.length + M1.length + M2.length : Nat) : Int), (mid : Int), ((mid + (A.length + M1.length) : Nat) : Int), (t : Int), (t : Int), p, ops (A ++ M1 ++ M2 ++ R)) = K (ops (A ++ isort (M1 ++ M2) ++ R)) := by
  have hlen : A.length + M1.length + M2.length + R.length = n := by rw [← hn]; simp; omega
  have s1 : Srt (M1.take i ++ M1.drop i) := by rw [List.take_append_drop]; exact h1
  have s2 : Srt (M2.take j ++ M2.drop j) := by rw [List.take_append_drop]; exact h2
  have fin := halves h1 h2 hAB hBA
  have l1 : (M1.take i).length = i := by rw [List.length_take]; omega
  have l2 : (M1.drop i).length = M1.length - i := List.length_drop ..
  have l3 : (M2.take j).length = j := by rw [List.length_take]; omega
  have l4 : (M2.drop j).length = M2.length - j := List.length_drop ..
  have e0 : A ++ M1 ++ M2 ++ R = (A ++ M1.take i) ++ M1.drop i ++ M2.take j ++ (M2.drop j ++ R) := by
    conv => lhs; rw [← List.take_append_drop i M1, ← List.take_append_drop j M2]
    simp only [List.append_assoc]
  generalize hA1 : M1.take i = A1 at *
  generalize hA2 : M1.drop i = A2 at *
  generalize hB1 : M2.take j = B1 at *
  generalize hB2 : M2.drop j = B2 at *
  have we : IntKind.wrap .i64 (((mid + (A.length + M1.length) : Nat) : Int) - (t : Int)) = ((A.length + M1.length + j : Nat) : Int) := by rw [wrap64 (by omega) (by omega)]; omega
  -- the right half
  have right : f67_J1 (fun X => @f60 X k) (fun X => @f68 X k) (f67_r k) k K (n, (A.length : Int), ((A.length + M1.length : Nat) : Int), ((A.length + M1.length + M2.length : Nat) : Int), (mid : Int), ((mid + (A.length + M1.length) : Nat) : Int), (t : Int), (t : Int), p, ops (A ++ M1 ++ M2 ++ R)) (ops ((A ++ isort (A1 ++ B1)) ++ A2 ++ B2 ++ R)) = K (ops (A ++ isort (M1 ++ M2) ++ R)) := by
    have hA' : (A ++ isort (A1 ++ B1)).length = mid := by rw [List.length_append, isort_len, List.length_append, l1, l3]; omega
    have goal : isort (A2 ++ B2) = A2 ++ B2 → K (ops ((A ++ isort (A1 ++ B1)) ++ A2 ++ B2 ++ R)) = K (ops (A ++ isort (M1 ++ M2) ++ R)) := fun e => by
      rw [← fin, e]; simp only [List.append_assoc]
    unfold f67_J1
    dsimp only
    rw [we]
    by_cases c1 : i < M1.length
    · refine (bifT (decide_eq_true (by omega))).trans ?_
      by_cases c2 : j < M2.length
      · refine (bifT (decide_eq_true (by omega))).trans ?_
        have := ih (A ++ isort (A1 ++ B1)) A2 B2 R (fun u45 => K u45) (by simp only [List.length_append, isort_len, l1, l2, l3, l4]; omega) (srt_app.1 s1).2.1 (srt_app.1 s2).2.1 (by omega) (by omega) (by omega)
        rw [hA', l2, l4, show mid + (M1.length - i) = A.length + M1.length + j by omega, show A.length + M1.length + j + (M2.length - j) = A.length + M1.length + M2.length by omega] at this
        refine this.trans ?_
        rw [← fin]; simp only [List.append_assoc]
      · refine (bifF (decide_eq_false (by omega))).trans ?_
        refine goal (isort_of ?_)
        rw [List.eq_nil_of_length_eq_zero (show B2.length = 0 by omega), List.append_nil]
        exact (srt_app.1 s1).2.1
    · refine (bifF (decide_eq_false (by omega))).trans ?_
      refine goal (isort_of ?_)
      rw [List.eq_nil_of_length_eq_zero (show A2.length = 0 by omega), List.nil_append]
      exact (srt_app.1 s2).2.1
  -- the left half
  have left : f67_J2 (fun X => @f60 X k) (fun X => @f68 X k) (f67_r k) k K (n, (A.length : Int), ((A.length + M1.length : Nat) : Int), ((A.length + M1.length + M2.length : Nat) : Int), (mid : Int), ((mid + (A.length + M1.length) : Nat) : Int), (t : Int), (t : Int), p, ops (A ++ M1 ++ M2 ++ R)) (ops (A ++ A1 ++ B1 ++ (A2 ++ B2 ++ R))) = K (ops (A ++ isort (M1 ++ M2) ++ R)) := by
    have goal : isort (A1 ++ B1) = A1 ++ B1 → ops (A ++ A1 ++ B1 ++ (A2 ++ B2 ++ R)) = ops ((A ++ isort (A1 ++ B1)) ++ A2 ++ B2 ++ R) := fun e => by rw [e]; simp only [List.append_assoc]
    unfold f67_J2
    dsimp only
    by_cases c1 : 0 < i
    · refine (bifT (decide_eq_true (by omega))).trans ?_
      by_cases c2 : 0 < j
      · refine (bifT (decide_eq_true (by omega))).trans ?_
        have := ih A A1 B1 (A2 ++ B2 ++ R) (fun u46 => f67_J1 (fun X => @f60 X k) (fun X => @f68 X k) (f67_r k) k K (n, (A.length : Int), ((A.length + M1.length : Nat) : Int), ((A.length + M1.length + M2.length : Nat) : Int), (mid : Int), ((mid + (A.length + M1.length) : Nat) : Int), (t : Int), (t : Int), p, ops (A ++ M1 ++ M2 ++ R)) u46) (by simp only [List.length_append, l1, l2, l3, l4]; omega) (srt_app.1 s1).1 (srt_app.1 s2).1 (by omega) (by omega) (by omega)
        rw [l1, l3, ← ht, ← hmid] at this
        refine this.trans ?_
        have e : A ++ isort (A1 ++ B1) ++ (A2 ++ B2 ++ R) = (A ++ isort (A1 ++ B1)) ++ A2 ++ B2 ++ R := by simp only [List.append_assoc]
        rw [e]
        exact right
      · refine (bifF (decide_eq_false (by omega))).trans ?_
        rw [goal (isort_of (by rw [List.eq_nil_of_length_eq_zero (show B1.length = 0 by omega), List.append_nil]; exact (srt_app.1 s1).1))]
        exact right
    · refine (bifF (decide_eq_false (by omega))).trans ?_
      rw [goal (isort_of (by rw [List.eq_nil_of_length_eq_zero (show A1.length = 0 by omega), List.nil_append]; exact (srt_app.1 s2).1))]
      exact right
  unfold f67_T5
  dsimp only
  refine (bifF (decide_eq_false (by omega))).trans ?_
  rw [we]
  have same : ∀ Z : List CV, Z = ops (A ++ A1 ++ B1 ++ (A2 ++ B2 ++ R)) → f67_J2 (fun X => @f60 X k) (fun X => @f68 X k) (f67_r k) k K (n, (A.length : Int), ((A.length + M1.length : Nat) : Int), ((A.length + M1.length + M2.length : Nat) : Int), (mid : Int), ((mid + (A.length + M1.length) : Nat) : Int), (t : Int), (t : Int), p, ops (A ++ M1 ++ M2 ++ R)) Z = K (ops (A ++ isort (M1 ++ M2) ++ R)) := fun Z e => by rw [e]; exact left
  by_cases c1 : i < M1.length
  · refine (bifT (decide_eq_true (by omega))).trans ?_
    by_cases c2 : 0 < j
    · refine (bifT (decide_eq_true (by omega))).trans ?_
      have hr := rotate_eq (k := k) (fun u47 => f67_J2 (fun X => @f60 X k) (fun X => @f68 X k) (f67_r k) k K (n, (A.length : Int), ((A.length + M1.length : Nat) : Int), ((A.length + M1.length + M2.length : Nat) : Int), (mid : Int), ((mid + (A.length + M1.length) : Nat) : Int), (t : Int), (t : Int), p, ops (A ++ M1 ++ M2 ++ R)) u47) (A ++ A1) A2 B1 (B2 ++ R) n (by rw [← e0]; exact hn) hn2 hk (by omega) (by omega)
      rw [← e0, List.length_append, l1, l2, l3, ← ht, show t + (M1.length - i) = A.length + M1.length by omega] at hr
      refine hr.trans ?_
      exact same _ (by congr 1; simp only [List.append_assoc])
    · refine (bifF (decide_eq_false (by omega))).trans ?_
      refine same _ ?_
      rw [e0, List.eq_nil_of_length_eq_zero (show B1.length = 0 by omega)]
      congr 1
      simp only [List.append_assoc, List.nil_append, List.append_nil]
  · refine (bifF (decide_eq_false (by omega))).trans ?_
    refine same _ ?_
    rw [e0, List.eq_nil_of_length_eq_zero (show A2.length = 0 by omega)]
    congr 1
    simp only [List.append_assoc, List.nil_append, List.append_nil]
/-- The search in the middle. -/
theorem symMid (k : Nat) (K : List CV → Option X) (n : Nat) (hn2 : n < 1000000) (A M1 M2 R : List Op) (hn : (A ++ M1 ++ M2 ++ R).length = n) (hk : n < k)
    (ih : ∀ (A M1 M2 R : List Op) (K : List CV → Option X), (A ++ M1 ++ M2 ++ R).length = n → Srt M1 → Srt M2 → 0 < M1.length → 0 < M2.length → n + M1.length + M2.length + 3 < k → f67_r k X K n (A.length : Int) ((A.length + M1.length : Nat) : Int) ((A.length + M1.length + M2.length : Nat) : Int) (ops (A ++ M1 ++ M2 ++ R)) = K (ops (A ++ isort (M1 ++ M2) ++ R)))
    (h1 : Srt M1) (h2 : Srt M2) (hkk : n + M1.length + M2.length + 2 < k) (g1 : 1 < M1.length) (g2 : 1 < M2.length) (mid s0 r0 : Nat) (hmid : mid = (A.length + (A.length + M1.length + M2.length)) / 2)
    (hs : (A.length + M1.length > mid ∧ s0 + (A.length + M1.length + M2.length) = mid + (A.length + M1.length) ∧ r0 = mid) ∨ (A.length + M1.length ≤ mid ∧ s0 = A.length ∧ r0 = A.length + M1.length)) :
    iterV (f67_L5 (fun X => @f60 X k) (fun X => @f68 X k) (f67_r k) k K) k (n, (A.length : Int), ((A.length + M1.length : Nat) : Int), ((A.length + M1.length + M2.length : Nat) : Int), (mid : Int), ((mid + (A.length + M1.length) : Nat) : Int), (s0 : Int), (r0 : Int), ((mid + (A.length + M1.length) - 1 : Nat) : Int), ops (A ++ M1 ++ M2 ++ R)) = K (ops (A ++ isort (M1 ++ M2) ++ R)) := by
  have hlen : A.length + M1.length + M2.length + R.length = n := by rw [← hn]; simp; omega
  have f1 : A.length ≤ s0 := by rcases hs with h | h <;> omega
  have f2 : s0 ≤ r0 := by rcases hs with h | h <;> omega
  have f3 : r0 ≤ A.length + M1.length := by rcases hs with h | h <;> omega
  have f4 : r0 ≤ mid := by rcases hs with h | h <;> omega
  have f5 : mid + (A.length + M1.length) - s0 ≤ A.length + M1.length + M2.length := by rcases hs with h | h <;> omega
  have eM1 : A ++ M1 ++ M2 ++ R = A ++ M1 ++ (M2 ++ R) := List.append_assoc ..
  have hAM : (A ++ M1).length = A.length + M1.length := List.length_append ..
  have srtL : ∀ c d, A.length ≤ c → c ≤ d → d < A.length + M1.length → (el (A ++ M1 ++ M2 ++ R) c).1 ≤ (el (A ++ M1 ++ M2 ++ R) d).1 := fun c d a b c' => by
    rw [eM1]; exact el_srt A M1 (M2 ++ R) h1 a b c'
  have srtR : ∀ c d, A.length + M1.length ≤ c → c ≤ d → d < A.length + M1.length + M2.length → (el (A ++ M1 ++ M2 ++ R) c).1 ≤ (el (A ++ M1 ++ M2 ++ R) d).1 := fun c d a b c' => el_srt (A ++ M1) M2 R h2 (by rw [hAM]; exact a) b (by rw [hAM]; exact c')
  refine (bsLoop (fun i j => (n, (A.length : Int), ((A.length + M1.length : Nat) : Int), ((A.length + M1.length + M2.length : Nat) : Int), (mid : Int), ((mid + (A.length + M1.length) : Nat) : Int), (i : Int), (j : Int), ((mid + (A.length + M1.length) - 1 : Nat) : Int), ops (A ++ M1 ++ M2 ++ R)))
    (fun c => !(decide ((el (A ++ M1 ++ M2 ++ R) (mid + (A.length + M1.length) - 1 - c)).1 < (el (A ++ M1 ++ M2 ++ R) c).1)))
    (fun t => f67_T5 (fun X => @f60 X k) (fun X => @f68 X k) (f67_r k) k K (fun _ => none) (n, (A.length : Int), ((A.length + M1.length : Nat) : Int), ((A.length + M1.length + M2.length : Nat) : Int), (mid : Int), ((mid + (A.length + M1.length) : Nat) : Int), (t : Int), (t : Int), ((mid + (A.length + M1.length) - 1 : Nat) : Int), ops (A ++ M1 ++ M2 ++ R)))
    s0 r0 (fun i j rec q1 q2 q3 => ?_) (fun i rec q1 q2 => ?_) k s0 r0 (Nat.le_refl _) f2 (Nat.le_refl _) (by omega)).trans ?_
  · unfold f67_L5 f67_T5
    dsimp only
    refine (bifT (decide_eq_true (by omega))).trans ?_
    rw [half_eq _ _ (by omega)]
    have wp : IntKind.wrap .i64 (((mid + (A.length + M1.length) - 1 : Nat) : Int) - (((i + j) / 2 : Nat) : Int)) = ((mid + (A.length + M1.length) - 1 - (i + j) / 2 : Nat) : Int) := by rw [wrap64 (by omega) (by omega)]; omega
    simp only [wp, Int.toNat_natCast, Nat.zero_add]
    refine (grdT (dec0 _)).trans ?_
    refine (grdT (decide_eq_true (by omega))).trans ?_
    refine (bAt (el_get (by rw [hn]; omega)) _).trans ?_
    refine (grdT (dec0 _)).trans ?_
    refine (grdT (decide_eq_true (by omega))).trans ?_
    refine (bAt (el_get (by rw [hn]; omega)) _).trans ?_
    refine (cmp_eq _ _ _).trans ?_
    have e := cmpI_neg (el (A ++ M1 ++ M2 ++ R) (mid + (A.length + M1.length) - 1 - (i + j) / 2)).1 (el (A ++ M1 ++ M2 ++ R) ((i + j) / 2)).1
    cases hc : decide ((el (A ++ M1 ++ M2 ++ R) (mid + (A.length + M1.length) - 1 - (i + j) / 2)).1 < (el (A ++ M1 ++ M2 ++ R) ((i + j) / 2)).1) with
    | true => rw [hc] at e; exact bifF (by rw [e]; rfl)
    | false =>
      rw [hc] at e
      refine (bifT (by rw [e]; rfl)).trans ?_
      rw [wrap64_succ (by omega)]; rfl
  · unfold f67_L5 f67_T5
    dsimp only
    exact (bifF (decide_eq_false (by omega))).trans (bifF (decide_eq_false (by omega))).symm
  · obtain ⟨t1, t2, t3, t4⟩ := bs_spec (q := fun c => !(decide ((el (A ++ M1 ++ M2 ++ R) (mid + (A.length + M1.length) - 1 - c)).1 < (el (A ++ M1 ++ M2 ++ R) c).1))) k s0 r0 (fun c d hc hcd hd hq => by
      have a1 := srtL c d (by omega) (by omega) (by omega)
      have a2 := srtR (mid + (A.length + M1.length) - 1 - d) (mid + (A.length + M1.length) - 1 - c) (by omega) (by omega) (by omega)
      simp only [Bool.not_eq_true', decide_eq_false_iff_not] at hq ⊢
      omega) f2 (by omega)
    generalize bs (fun c => !(decide ((el (A ++ M1 ++ M2 ++ R) (mid + (A.length + M1.length) - 1 - c)).1 < (el (A ++ M1 ++ M2 ++ R) c).1))) k s0 r0 = t at t1 t2 t3 t4
    refine symTail k K n hn2 A M1 M2 R hn hk ih h1 h2 hkk _ mid t (t - A.length) (mid - t) (by omega) (by omega) (by omega) (by omega) (by omega) (by omega) (fun u hu v hv => ?_) (fun u hu v hv => ?_) _
    · obtain ⟨c, c1, c2, c3, rfl⟩ := take_el (A := A) (R := M2 ++ R) hu
      obtain ⟨d, d1, d2, rfl⟩ := drop_el (A := A ++ M1) (R := R) hv
      rw [hAM] at d1 d2
      rw [← eM1]
      rcases Nat.eq_or_lt_of_le t1 with e | e
      · rcases hs with h | h <;> omega
      · have hq := t3 (t - 1) (by omega) (by omega)
        simp only [Bool.not_eq_true', decide_eq_false_iff_not] at hq
        have a1 := srtL c (t - 1) c1 (by omega) (by omega)
        have a2 := srtR (mid + (A.length + M1.length) - 1 - (t - 1)) d (by omega) (by omega) d2
        omega
    · obtain ⟨c, c1, c2, c3, rfl⟩ := take_el (A := A ++ M1) (R := R) hu
      obtain ⟨d, d1, d2, rfl⟩ := drop_el (A := A) (R := M2 ++ R) hv
      rw [hAM] at c1 c2 c3
      rw [← eM1]
      rcases Nat.eq_or_lt_of_le t2 with e | e
      · rcases hs with h | h <;> omega
      · have hq := t4 t (Nat.le_refl _) e
        simp only [Bool.not_eq_false', decide_eq_true_eq] at hq
        have a1 := srtL t d (by omega) (by omega) d2
        have a2 := srtR c (mid + (A.length + M1.length) - 1 - t) c1 (by omega) (by omega)
        omega
/-- Two sorted rows are merged. -/
theorem symMerge_eq (n : Nat) (hn2 : n < 1000000) : ∀ (k : Nat) (A M1 M2 R : List Op) (K : List CV → Option X), (A ++ M1 ++ M2 ++ R).length = n → Srt M1 → Srt M2 → 0 < M1.length → 0 < M2.length → n + M1.length + M2.length + 3 < k →
    f67_r k X K n (A.length : Int) ((A.length + M1.length : Nat) : Int) ((A.length + M1.length + M2.length : Nat) : Int) (ops (A ++ M1 ++ M2 ++ R)) = K (ops (A ++ isort (M1 ++ M2) ++ R))
  | 0, _, _, _, _, _, _, _, _, _, _, h => absurd h (Nat.not_lt_zero _)
  | k + 1, A, M1, M2, R, K, hn, h1, h2, p1, p2, hk => by
    have hlen : A.length + M1.length + M2.length + R.length = n := by rw [← hn]; simp; omega
    show f67_A (fun X => @f60 X k) (fun X => @f68 X k) (f67_r k) k X K n _ _ _ _ = _
    unfold f67_A f67_T
    rw [show IntKind.wrap .i64 (((A.length + M1.length : Nat) : Int) - (A.length : Int)) = (M1.length : Int) by rw [wrap64 (by omega) (by omega)]; omega,
      show IntKind.wrap .i64 (((A.length + M1.length + M2.length : Nat) : Int) - ((A.length + M1.length : Nat) : Int)) = (M2.length : Int) by rw [wrap64 (by omega) (by omega)]; omega]
    by_cases g1 : M1.length = 1
    · obtain ⟨x, rfl⟩ := List.length_eq_one_iff.1 g1
      refine (bifT (by rw [g1]; rfl)).trans ?_
      exact merge1 k (f67_r k) K n hn2 x A M2 R hn (by omega) h2
    refine (bifF (beq_f (by omega))).trans ?_
    by_cases g2 : M2.length = 1
    · obtain ⟨x, rfl⟩ := List.length_eq_one_iff.1 g2
      refine (bifT (by rw [g2]; rfl)).trans ?_
      exact merge2 k (f67_r k) K n hn2 x A M1 R hn (by omega) h1
    refine (bifF (beq_f (by omega))).trans ?_
    rw [half_eq _ _ (by omega)]
    have ih := symMerge_eq n hn2 k
    have wn : IntKind.wrap .i64 ((((A.length + (A.length + M1.length + M2.length)) / 2 : Nat) : Int) + ((A.length + M1.length : Nat) : Int)) = (((A.length + (A.length + M1.length + M2.length)) / 2 + (A.length + M1.length) : Nat) : Int) := by rw [wrap64 (by omega) (by omega)]; omega
    have wp : IntKind.wrap .i64 ((((A.length + (A.length + M1.length + M2.length)) / 2 + (A.length + M1.length) : Nat) : Int) - 1) = (((A.length + (A.length + M1.length + M2.length)) / 2 + (A.length + M1.length) - 1 : Nat) : Int) := by rw [wrap64 (by omega) (by omega)]; omega
    unfold f67_J3
    dsimp only
    rw [wn, wp]
    by_cases g3 : A.length + M1.length > (A.length + (A.length + M1.length + M2.length)) / 2
    · refine (bifT (decide_eq_true (by omega))).trans ?_
      have ws : IntKind.wrap .i64 ((((A.length + (A.length + M1.length + M2.length)) / 2 + (A.length + M1.length) : Nat) : Int) - ((A.length + M1.length + M2.length : Nat) : Int)) = (((A.length + (A.length + M1.length + M2.length)) / 2 + (A.length + M1.length) - (A.length + M1.length + M2.length) : Nat) : Int) := by rw [wrap64 (by omega) (by omega)]; omega
      rw [ws]
      exact symMid k K n hn2 A M1 M2 R hn (by omega) ih h1 h2 (by omega) (by omega) (by omega) _ _ _ rfl (.inl ⟨g3, by omega, rfl⟩)
    · refine (bifF (decide_eq_false (by omega))).trans ?_
      exact symMid k K n hn2 A M1 M2 R hn (by omega) ih h1 h2 (by omega) (by omega) (by omega) _ _ _ rfl (.inr ⟨by omega, rfl, rfl⟩)
theorem isort_isort (l m : List Op) : isort (isort l ++ isort m) = isort (l ++ m) :=
  eq_isort (isort_srt _) (((isort_flt l).app (isort_flt m)).trans (isort_flt _))
/-- The sort of up to 39. -/
theorem stable_eq {k : Nat} (K : List CV → Option X) (l : List Op) (hl : l.length < 40) (hk : 200 < k) : f64 k K l.length (l.length : Int) (ops l) = K (ops (isort l)) := by
  obtain ⟨k, rfl⟩ : ∃ j, k = j + 5 := ⟨k - 5, by omega⟩
  unfold f64 f64_A f64_T
  have ins0 := fun K' => insSort_eq (X := X) (k := k + 5) K' [] (l.take 20) (l.drop 20) l.length (by simp) (by omega) (by omega)
  simp only [List.nil_append, List.length_nil, List.take_append_drop, Nat.zero_add] at ins0
  rcases Nat.lt_or_ge l.length 20 with h | h
  · have et : l.take 20 = l := List.take_of_length_le (by omega)
    have ed : l.drop 20 = [] := List.drop_of_length_le (by omega)
    rw [et, ed, List.append_nil] at ins0
    refine (iterV_one _ _ _).trans ?_
    generalize iterV (f64_L1 _ _ (k + 5) K) (k + 4) = rec
    unfold f64_L1 f64_T1
    dsimp only
    refine (bifF (decide_eq_false (by omega))).trans ?_
    refine (ins0 _).trans ?_
    refine (iterV_one _ _ _).trans ?_
    unfold f64_L2 f64_T2
    exact bifF (decide_eq_false (by show ¬ ((20 : Int) < (l.length : Int)); omega))
  · have l1 : (l.take 20).length = 20 := by rw [List.length_take]; omega
    have l2 : (l.drop 20).length = l.length - 20 := List.length_drop ..
    rw [l1] at ins0
    refine (iterV_one _ _ _).trans ?_
    have e1 : iterV (f64_L1 (fun X => @f66 X (k + 5)) (fun X => @f67 X (k + 5)) (k + 5) K) (k + 4) = fun v => f64_L1 (fun X => @f66 X (k + 5)) (fun X => @f67 X (k + 5)) (k + 5) K (iterV (f64_L1 (fun X => @f66 X (k + 5)) (fun X => @f67 X (k + 5)) (k + 5) K) (k + 3)) v := rfl
    rw [e1]
    generalize iterV (f64_L1 (fun X => @f66 X (k + 5)) (fun X => @f67 X (k + 5)) (k + 5) K) (k + 3) = rec
    unfold f64_L1 f64_T1
    dsimp only
    refine (bifT (decide_eq_true (by omega))).trans ?_
    refine (ins0 _).trans ?_
    rw [show IntKind.wrap .i64 (20 + 20) = 40 from by decide]
    refine (bifF (decide_eq_false (by omega))).trans ?_
    have ins1 := fun K' => insSort_eq (X := X) (k := k + 5) K' (isort (l.take 20)) (l.drop 20) [] l.length (by simp [isort_len]; omega) (by omega) (by omega)
    simp only [List.append_nil, isort_len, l1, l2, show 20 + (l.length - 20) = l.length from by omega] at ins1
    refine (ins1 _).trans ?_
    refine (iterV_one _ _ _).trans ?_
    have e2 : iterV (f64_L2 (fun X => @f66 X (k + 5)) (fun X => @f67 X (k + 5)) (k + 5) K) (k + 4) = fun v => f64_L2 (fun X => @f66 X (k + 5)) (fun X => @f67 X (k + 5)) (k + 5) K (iterV (f64_L2 (fun X => @f66 X (k + 5)) (fun X => @f67 X (k + 5)) (k + 5) K) (k + 3)) v := rfl
    rw [e2]
    generalize iterV (f64_L2 (fun X => @f66 X (k + 5)) (fun X => @f67 X (k + 5)) (k + 5) K) (k + 3) = rec2
    unfold f64_L2 f64_T2
    dsimp only
    rcases Nat.eq_or_lt_of_le h with e | e
    · refine (bifF (decide_eq_false (by omega))).trans ?_
      rw [List.drop_of_length_le (by omega), List.take_of_length_le (by omega)]
      rw [show isort ([] : List Op) = [] from rfl, List.append_nil]
    · refine (bifT (decide_eq_true (by omega))).trans ?_
      refine (iterV_one _ _ _).trans ?_
      generalize iterV (f64_L3 _ _ (k + 5) K _) (k + 4) = rec3
      unfold f64_L3 f64_T3 f64_J1
      dsimp only
      rw [show IntKind.wrap .i64 (2 * 20) = 40 from by decide, show IntKind.wrap .i64 (0 + 20) = 20 from by decide, show IntKind.wrap .i64 (20 * 2) = 40 from by decide]
      refine (bifF (decide_eq_false (by omega))).trans ?_
      refine (bifT (decide_eq_true (by omega))).trans ?_
      have sm := fun K' => symMerge_eq (X := X) l.length (by omega) (k + 5) [] (isort (l.take 20)) (isort (l.drop 20)) [] K' (by simp [isort_len]; omega) (isort_srt _) (isort_srt _) (by rw [isort_len]; omega) (by rw [isort_len]; omega) (by rw [isort_len, isort_len]; omega)
      simp only [List.nil_append, List.append_nil, List.length_nil, Nat.zero_add, isort_len, l1, l2, show 20 + (l.length - 20) = l.length from by omega] at sm
      refine (sm _).trans ?_
      rw [isort_isort, List.take_append_drop]
      exact bifF (decide_eq_false (by omega))
theorem byNum_eq {k : Nat} (K : Nat × List CV → Option X) (l : List Op) (hl : l.length < 40) (hk : 200 < k) : f49 k K (ops l) = K (l.length, ops (isort l)) := by
  have e : f49 k K (ops l) = grd (decide ((0 + List.length (ops l)) * 32 ≤ 140737488355328)) (f64 k (fun u2 => K ((ops l).length, List.take (0 + (ops l).length) u2)) (ops l).length ((Nat.cast (ops l).length : Int)) (ops l)) := by kernel_rfl
  rw [e, grdT (decide_eq_true (by rw [ops_length]; omega))]
  rw [ops_length, stable_eq _ l hl hk, Nat.zero_add, take_all _ _ (by rw [ops_length, isort_len]; exact Nat.le_refl _)]
end
end Go.Proofs.YtlgdoglffddjfaaD
/- What is wrong with options; four bits that tell a number; the document's sorting: in plain words. -/
namespace Go.Proofs.YtlgdoglffddjfaaD
open Go Go.Proofs.YtlgdoglffddjfaaS Go.Proofs
set_option linter.unusedVariables false
set_option linter.unusedSimpArgs false
section
variable {X : Type}
theorem ops_nth (l : List Op) (i : Nat) (h : i < l.length) : (ops l)[i]? = some (opv l[i]) := by simp [ops, h]
def pF (o : Op) : Bool := decide (o.1 < 0) || decide (o.1 > 65535)
def qF (o : Op) : Bool := decide (300 < o.2.length)
def flt (l : List Op) : Int := bif decide (24 < l.length) then 3 else bif l.any pF then 1 else bif l.any qF then 2 else 0
theorem ixI_any {α : Type} (p : α → Bool) : ∀ (l : List α) (i : Nat), decide (ixI (ixf p i l) ≥ 0) = l.any p
  | [], i => by simp [ixf, ixI]
  | a :: l, i => by
    unfold ixf
    rw [List.any_cons]
    cases h : p a with
    | true => simp [ixI]
    | false => simpa using ixI_any p l (i + 1)
theorem pF_eq {k : Nat} (K : Bool → Option X) (o : Op) : f56 k K (opv o) = K (pF o) := by
  have e : f56 k K (opv o) = (bif decide (o.1 < 0) then K true else K (decide (o.1 > 65535))) := by kernel_rfl
  rw [e]
  unfold pF
  cases decide (o.1 < 0) <;> rfl
theorem qF_eq {k : Nat} (K : Bool → Option X) (o : Op) : f57 k K (opv o) = K (qF o) := by
  have e : f57 k K (opv o) = K (decide (((by8 o.2).length : Int) > 300)) := by kernel_rfl
  rw [e]
  unfold qF
  rw [by8_length]
  congr 1
  exact decide_eq_decide.2 (by omega)
theorem ix1_eq {k : Nat} (K : Int → Option X) (l : List Op) (hk : l.length < k) (hl : l.length < 1000000) : f63 k K (ops l) = K (ixI (ixf pF 0 l)) := by
  refine ixLoop0 (T := f63_L1 (fun X => @f56 X k) k K) (fun i => (ops l, ((ops l).length : Int), (i : Int))) pF l K (fun i rec h => ?_) (fun rec => ?_) k hk
  · unfold f63_L1 f63_T1
    dsimp only
    refine (bifT (decide_eq_true (by rw [ops_length]; omega))).trans ?_
    refine (grdT (dec0 _)).trans ?_
    rw [Int.toNat_natCast]
    refine (bAt (ops_nth l i h) _).trans ?_
    refine (pF_eq _ _).trans ?_
    rw [wrap64_s (by omega)]
  · unfold f63_L1 f63_T1
    dsimp only
    exact bifF (decide_eq_false (by rw [ops_length]; omega))
theorem ix2_eq {k : Nat} (K : Int → Option X) (l : List Op) (hk : l.length < k) (hl : l.length < 1000000) : f63b k K (ops l) = K (ixI (ixf qF 0 l)) := by
  refine ixLoop0 (T := f63b_L1 (fun X => @f57 X k) k K) (fun i => (ops l, ((ops l).length : Int), (i : Int))) qF l K (fun i rec h => ?_) (fun rec => ?_) k hk
  · unfold f63b_L1 f63b_T1
    dsimp only
    refine (bifT (decide_eq_true (by rw [ops_length]; omega))).trans ?_
    refine (grdT (dec0 _)).trans ?_
    rw [Int.toNat_natCast]
    refine (bAt (ops_nth l i h) _).trans ?_
    refine (qF_eq _ _).trans ?_
    rw [wrap64_s (by omega)]
  · unfold f63b_L1 f63b_T1
    dsimp only
    exact bifF (decide_eq_false (by rw [ops_length]; omega))
theorem fault_eq {k : Nat} (K : Int → Option X) (l : List Op) (hk : l.length < k) (hl : l.length < 1000000) : f48 k K (ops l) = K (flt l) := by
  have e : f48 k K (ops l) = (bif decide (((ops l).length : Int) > 24) then K 3 else f63 k (fun u1 => bif decide (u1 ≥ 0) then K 1 else f63b k (fun u3 => bif decide (u3 ≥ 0) then K 2 else K 0) (ops l)) (ops l)) := by kernel_rfl
  rw [e, ix1_eq _ l hk hl, ix2_eq _ l hk hl, ixI_any, ixI_any, ops_length]
  unfold flt
  rw [show decide ((l.length : Int) > 24) = decide (24 < l.length) from decide_eq_decide.2 (by omega)]
  cases decide (24 < l.length)
  · cases l.any pF
    · cases l.any qF <;> rfl
    · rfl
  · rfl
/-- Four bits that tell a number, the bytes that follow. -/
def tellN (n : Int) : Int × List Int := if n < 13 then (n, []) else if n < 269 then (13, [n - 13]) else (14, [(n - 269) / 256, (n - 269) % 256])
theorem u8_small {n : Int} (h : 0 ≤ n) (h2 : n < 256) : IntKind.wrap .u8 n = n := by rw [wrapU8]; omega
theorem nibble_eq {k : Nat} (K : Int × Nat × List CV → Option X) (n : Int) (h0 : 0 ≤ n) (h1 : n ≤ 65535) : f50 k K n = K ((tellN n).1, (tellN n).2.length, by8 (tellN n).2) := by
  have e : f50 k K n = (bif decide (n < 13) then K (n, 0, by8 []) else bif decide (n < 269) then K (13, 1, by8 [IntKind.wrap .u8 (IntKind.wrap .i64 (n - 13))]) else K (14, 2, by8 [IntKind.wrap .u8 (Int.fdiv (IntKind.wrap .i64 (n - 269)) 256), IntKind.wrap .u8 (IntKind.wrap .i64 (n - 269))])) := by kernel_rfl
  rw [e]
  unfold tellN
  by_cases h : n < 13
  · rw [if_pos h]; exact bifT (decide_eq_true h)
  · rw [if_neg h]
    refine (bifF (decide_eq_false h)).trans ?_
    by_cases h' : n < 269
    · rw [if_pos h']
      refine (bifT (decide_eq_true h')).trans ?_
      rw [wrap64 (n := n - 13) (by omega) (by omega), u8_small (by omega) (by omega)]; rfl
    · rw [if_neg h']
      refine (bifF (decide_eq_false h')).trans ?_
      rw [wrap64 (n := n - 269) (by omega) (by omega), fdiv_eq _ (by decide), u8_small (n := (n - 269) / 256) (by omega) (by omega), wrapU8]; rfl
theorem tell_eq {k : Nat} (K : Int × Nat × List CV → Option X) (n : Int) (h0 : 0 ≤ n) (h1 : n ≤ 65535) : f52 k K n = K ((tellN n).1, (tellN n).2.length, by8 (tellN n).2) := by
  have e : f52 k K n = (bif decide (n < 13) then K (n, 0, by8 []) else bif decide (n < 269) then K (13, 1, by8 [IntKind.wrap .u8 (IntKind.wrap .i64 (n - 13))]) else K (14, 2, by8 [IntKind.wrap .u8 (IntKind.wrap .i64 (Int.tdiv (IntKind.wrap .i64 (n - 269)) 256)), IntKind.wrap .u8 (Int.tmod (IntKind.wrap .i64 (n - 269)) 256)])) := by kernel_rfl
  rw [e]
  unfold tellN
  by_cases h : n < 13
  · rw [if_pos h]; exact bifT (decide_eq_true h)
  · rw [if_neg h]
    refine (bifF (decide_eq_false h)).trans ?_
    by_cases h' : n < 269
    · rw [if_pos h']
      refine (bifT (decide_eq_true h')).trans ?_
      rw [wrap64 (n := n - 13) (by omega) (by omega), u8_small (by omega) (by omega)]; rfl
    · rw [if_neg h']
      refine (bifF (decide_eq_false h')).trans ?_
      rw [wrap64 (n := n - 269) (by omega) (by omega), tdiv_eq (by omega), tmod_eq (by omega), wrap64 (n := (n - 269) / 256) (by omega) (by omega), u8_small (n := (n - 269) / 256) (by omega) (by omega), u8_small (n := (n - 269) % 256) (by omega) (by omega)]; rfl
end
end Go.Proofs.YtlgdoglffddjfaaD
/- The document's sorting, and options as bytes: in plain words. -/
namespace Go.Proofs.YtlgdoglffddjfaaD
open Go Go.Proofs.YtlgdoglffddjfaaS Go.Proofs
set_option linter.unusedVariables false
set_option linter.unusedSimpArgs false
section
variable {X : Type}
theorem opv0 (o : Op) : CV.cell (opv o) 0 = some (.int .i64 o.1) := rfl
theorem opv1 (o : Op) : CV.cell (opv o) 1 = some (.slc none (by8 o.2)) := rfl
theorem opvI (o : Op) : CV.toI (CV.cellD 0 (opv o)) = o.1 := rfl
theorem opvL (o : Op) : CV.toL (CV.cellD 1 (opv o)) = by8 o.2 := rfl
theorem t1o (o : Op) : List.take 1 (List.drop 0 [opv o]) = ops [o] := rfl
theorem t1n (n : Int) : List.take 1 (List.drop 0 [CV.int .u8 n]) = by8 [n] := rfl
theorem d8 (P : List Int) : List.take P.length (List.drop 0 (by8 P)) = by8 P := by rw [List.drop_zero]; exact t8' P
theorem tO (Q : List Op) : List.take Q.length (ops Q) = ops Q := take_all _ _ (by rw [ops_length]; exact Nat.le_refl _)
theorem dO (Q : List Op) : List.take Q.length (List.drop 0 (ops Q)) = ops Q := by rw [List.drop_zero]; exact tO Q
/-- The rest of the loop, where it is done. -/
theorem addT {k : Nat} (K : Nat × List CV → Option X) (L : List Op) (num : Int) (v : List Int) (hL : L.length ≤ 100000) : ∀ (kk i : Nat) (Q : List Op), L.length - i < kk → i ≤ L.length → Q.length ≤ 100000 + i →
    iterV (f47_L1 (fun X => @f40 X k) k K) kk (ops L, num, by8 v, Q.length, true, (i : Int), ops Q) = K ((Q ++ L.drop i).length, ops (Q ++ L.drop i))
  | 0, i, Q, h, _, _ => absurd h (Nat.not_lt_zero _)
  | kk + 1, i, Q, h, hi, hq => by
    refine (iterV_one _ _ _).trans ?_
    have ih := addT K L num v hL kk (k := k)
    generalize iterV (f47_L1 (fun X => @f40 X k) k K) kk = rec at ih ⊢
    unfold f47_L1 f47_T1 f47_J1 f47_J2
    dsimp only
    rcases Nat.lt_or_ge i L.length with hl | hl
    · refine (bifT (decide_eq_true (by rw [ops_length]; omega))).trans ?_
      refine (bifF rfl).trans ?_
      refine (grdT (dec0 _)).trans ?_
      rw [Int.toNat_natCast]
      refine (bAt (ops_nth L i hl) _).trans ?_
      refine (grdT rfl).trans ?_
      simp only [t1o, tO, ← ops_append]
      refine (grdT (decide_eq_true (by simp [ops_length]; omega))).trans ?_
      rw [wrap64_s (by omega), ops_length, ← List.length_append]
      rw [ih (i + 1) (Q ++ [L[i]]) (by omega) (by omega) (by simp; omega)]
      rw [List.append_assoc, List.singleton_append, ← List.drop_eq_getElem_cons hl]
    · refine (bifF (decide_eq_false (by rw [ops_length]; omega))).trans ?_
      refine (bifF rfl).trans ?_
      rw [List.drop_of_length_le hl, List.append_nil, Nat.zero_add, tO]
theorem addF {k : Nat} (K : Nat × List CV → Option X) (L : List Op) (num : Int) (v : List Int) (hL : L.length ≤ 100000) (hk : v.length < k) (hv : v.length ≤ 100000) : ∀ (kk i : Nat), L.length - i < kk → i ≤ L.length →
    iterV (f47_L1 (fun X => @f40 X k) k K) kk (ops L, num, by8 v, i, false, (i : Int), ops (L.take i)) = K ((L.take i ++ ins (num, v) (L.drop i)).length, ops (L.take i ++ ins (num, v) (L.drop i)))
  | 0, i, h, _ => absurd h (Nat.not_lt_zero _)
  | kk + 1, i, h, hi => by
    refine (iterV_one _ _ _).trans ?_
    have ih := addF K L num v hL hk hv kk
    have iT := addT (k := k) K L num v hL kk
    generalize iterV (f47_L1 (fun X => @f40 X k) k K) kk = rec at ih iT ⊢
    have lt : (L.take i).length = i := by rw [List.length_take]; omega
    have tI : List.take i (ops (L.take i)) = ops (L.take i) := by have := tO (L.take i); rwa [lt] at this
    unfold f47_L1 f47_T1 f47_J1 f47_J2
    dsimp only
    have tv : List.take 1 (List.drop 0 [CV.agg [CV.int .i64 num, CV.slc none (by8 v)]]) = ops [(num, v)] := rfl
    rcases Nat.lt_or_ge i L.length with hl | hl
    · refine (bifT (decide_eq_true (by rw [ops_length]; omega))).trans ?_
      refine (bifT rfl).trans ?_
      refine (grdT (dec0 _)).trans ?_
      rw [Int.toNat_natCast]
      refine (bAt (ops_nth L i hl) _).trans ?_
      refine (bAt (opv0 _) _).trans ?_
      refine (grdT rfl).trans ?_
      rw [show CV.toI (CV.int .i64 L[i].1) = L[i].1 from rfl]
      by_cases hc : num < L[i].1
      · refine (bifT (decide_eq_true hc)).trans ?_
        refine (copy_eq _ v hk hv).trans ?_
        simp only [d8, tv, tI, ← ops_append]
        refine (grdT (decide_eq_true (by simp [ops_length]; omega))).trans ?_
        refine (grdT (dec0 _)).trans ?_
        refine (bAt (ops_nth L i hl) _).trans ?_
        refine (grdT rfl).trans ?_
        have l2 : (L.take i ++ [(num, v)]).length = i + (ops [(num, v)]).length := by simp [lt, ops_length]
        have tQ := tO (L.take i ++ [(num, v)])
        rw [l2] at tQ
        simp only [t1o, tQ, ← ops_append]
        refine (grdT (decide_eq_true (by simp [ops_length]; omega))).trans ?_
        have l3 : (L.take i ++ [(num, v)] ++ [L[i]]).length = i + (ops [(num, v)]).length + (ops [L[i]]).length := by simp [lt, ops_length]
        have := iT (i + 1) (L.take i ++ [(num, v)] ++ [L[i]]) (by omega) (by omega) (by simp; omega)
        rw [l3] at this
        rw [wrap64_s (by omega), this]
        rw [List.drop_eq_getElem_cons hl]
        rw [show ins (num, v) (L[i] :: L.drop (i + 1)) = (num, v) :: L[i] :: L.drop (i + 1) from if_pos hc]
        simp
      · refine (bifF (decide_eq_false hc)).trans ?_
        refine (grdT (dec0 _)).trans ?_
        refine (bAt (ops_nth L i hl) _).trans ?_
        refine (grdT rfl).trans ?_
        simp only [t1o, tI, ← ops_append]
        refine (grdT (decide_eq_true (by simp [ops_length]; omega))).trans ?_
        have := ih (i + 1) (by omega) (by omega)
        rw [wrap64_s (by omega), ops_length, List.length_singleton, List.take_append_getElem hl, this]
        conv => rhs; rw [List.drop_eq_getElem_cons hl]
        rw [show ins (num, v) (L[i] :: L.drop (i + 1)) = L[i] :: ins (num, v) (L.drop (i + 1)) from if_neg hc]
        rw [← List.take_append_getElem hl, List.append_assoc]; rfl
    · refine (bifF (decide_eq_false (by rw [ops_length]; omega))).trans ?_
      refine (bifT rfl).trans ?_
      refine (copy_eq _ v hk hv).trans ?_
      simp only [d8, tv, tI, ← ops_append]
      refine (grdT (decide_eq_true (by simp [ops_length]; omega))).trans ?_
      have l2 : (L.take i ++ [(num, v)]).length = i + (ops [(num, v)]).length := by simp [lt, ops_length]
      rw [Nat.zero_add, ← l2, tO, List.drop_of_length_le hl]; rfl
theorem add_eq {k : Nat} (K : Nat × List CV → Option X) (L : List Op) (num : Int) (v : List Int) (hL : L.length ≤ 100000) (hk : v.length < k) (hkL : L.length < k) (hv : v.length ≤ 100000) : f47 k K (ops L) num (by8 v) = K ((ins (num, v) L).length, ops (ins (num, v) L)) := addF K L num v hL hk hv k 0 (by omega) (by omega)
theorem sorted_eq {k : Nat} (K : Nat × List CV → Option X) (L : List Op) (hL : L.length ≤ 100000) (hv : ∀ o ∈ L, o.2.length ≤ 100000 ∧ o.2.length < k) (hk : L.length < k) : f28 k K (ops L) = K (L.length, ops (isort L)) := by
  refine iterV_spec (T := f28_L1 (fun X => @f47 X k) k K) (fun i => (ops L, (isort (L.take i)).length, (i : Int), ops (isort (L.take i)))) (fun i => K (L.length, ops (isort L))) L.length (fun i rec h hr => ?_) (fun rec => ?_) k 0 (Nat.zero_le _) (by omega)
  · unfold f28_L1 f28_T1
    dsimp only
    refine (bifT (decide_eq_true (by rw [ops_length]; omega))).trans ?_
    refine (grdT (dec0 _)).trans ?_
    rw [Int.toNat_natCast]
    refine (bAt (ops_nth L i h) _).trans ?_
    refine (bAt (opv0 _) _).trans ?_
    refine (grdT rfl).trans ?_
    refine (grdT (dec0 _)).trans ?_
    refine (bAt (ops_nth L i h) _).trans ?_
    refine (bAt (opv1 _) _).trans ?_
    refine (grdT rfl).trans ?_
    rw [dO, show CV.toI (CV.int .i64 L[i].1) = L[i].1 from rfl, show CV.toL (CV.slc none (by8 L[i].2)) = by8 L[i].2 from rfl]
    have hm := hv _ (List.getElem_mem h)
    have hle : (isort (L.take i)).length ≤ L.length := by rw [isort_len, List.length_take]; omega
    refine (add_eq _ _ _ _ (by omega) hm.2 (by omega) hm.1).trans ?_
    rw [wrap64_s (by omega)]
    rw [← List.take_append_getElem h, isort_snoc] at hr
    exact hr
  · unfold f28_L1 f28_T1
    dsimp only
    refine (bifF (decide_eq_false (by rw [ops_length]; omega))).trans ?_
    rw [List.take_length, Nat.zero_add, tO, isort_len]
end
end Go.Proofs.YtlgdoglffddjfaaD
/- Options as bytes: in plain words. -/
namespace Go.Proofs.YtlgdoglffddjfaaD
open Go Go.Proofs.YtlgdoglffddjfaaS Go.Proofs
set_option linter.unusedVariables false
set_option linter.unusedSimpArgs false
section
variable {X : Type}
/-- An option's bytes behind a number; the bytes of options. -/
def hd (last : Int) (o : Op) : Int := (tellN (o.1 - last)).1 * 16 + (tellN (o.2.length : Int)).1
def chunk (last : Int) (o : Op) : List Int := [hd last o] ++ (tellN (o.1 - last)).2 ++ (tellN (o.2.length : Int)).2 ++ o.2
def enc : Int → List Op → List Int
  | _, [] => []
  | last, o :: l => chunk last o ++ enc o.1 l
/-- Options that may be written behind a number. -/
def Okk : Int → List Op → Prop
  | _, [] => True
  | last, o :: l => 0 ≤ last ∧ last ≤ o.1 ∧ o.1 ≤ 65535 ∧ o.2.length ≤ 300 ∧ Okk o.1 l
theorem tell_bnd (n : Int) (h : 0 ≤ n) : 0 ≤ (tellN n).1 ∧ (tellN n).1 ≤ 14 ∧ (tellN n).2.length ≤ 2 := by
  unfold tellN
  split
  · exact ⟨h, by show n ≤ 14; omega, by simp⟩
  · split
    · exact ⟨by simp, by simp, by simp⟩
    · exact ⟨by simp, by simp, by simp⟩
theorem chunk_len (last : Int) (o : Op) (h : last ≤ o.1) : (chunk last o).length ≤ o.2.length + 5 ∧ 1 ≤ (chunk last o).length := by
  have h1 := tell_bnd (o.1 - last) (by omega)
  have h2 := tell_bnd (o.2.length : Int) (by omega)
  unfold chunk
  simp only [List.length_append, List.length_singleton]
  omega
theorem or_nib {d l : Int} (hd : 0 ≤ d) (hd2 : d ≤ 14) (hl : 0 ≤ l) (hl2 : l ≤ 14) : IntKind.wrap .u8 (bop .or .i64 (IntKind.wrap .i64 (d * 2 ^ 4)) l) = d * 16 + l := by
  obtain ⟨a, rfl⟩ := Int.eq_ofNat_of_zero_le hd
  obtain ⟨b, rfl⟩ := Int.eq_ofNat_of_zero_le hl
  rw [wrap64 (by omega) (by omega)]
  rw [show ((a : Int) * 2 ^ 4) = ((a * 2 ^ 4 : Nat) : Int) from by push_cast; rfl]
  rw [bop_or64 (by omega) (by omega), or_add (by omega), u8_small (by omega) (by omega)]
  push_cast; omega
theorem add_nib {d l : Int} (hd : 0 ≤ d) (hd2 : d ≤ 14) (hl : 0 ≤ l) (hl2 : l ≤ 14) : IntKind.wrap .u8 (IntKind.wrap .i64 (IntKind.wrap .i64 (d * 16) + l)) = d * 16 + l := by
  rw [wrap64 (n := d * 16) (by omega) (by omega), wrap64 (by omega) (by omega), u8_small (by omega) (by omega)]
theorem ops_mid (A : List Op) (o : Op) (B : List Op) : (ops (A ++ o :: B))[A.length]? = some (opv o) := ops_at A o B
theorem writeL {k : Nat} (K : Nat × Int × List CV → Option X) (L : List Op) (hL : L.length ≤ 100000) : ∀ (kk : Nat) (B A : List Op) (P : List Int) (last : Int), B.length < kk → L = A ++ B → Okk last B → P.length + 400 * B.length ≤ 1000000000 →
    iterV (f32_L1 (fun X => @f48 X k) (fun X => @f49 X k) (fun X => @f50 X k) k K) kk (P.length, last, L.length, (L.length : Int), (A.length : Int), by8 P, ops L) = K ((P ++ enc last B).length, 0, by8 (P ++ enc last B))
  | 0, B, A, P, last, h, _, _, _ => absurd h (Nat.not_lt_zero _)
  | kk + 1, [], A, P, last, h, e, _, hp => by
    refine (iterV_one _ _ _).trans ?_
    unfold f32_L1 f32_T1
    dsimp only
    rw [List.append_nil] at e
    refine (bifF (decide_eq_false (by rw [e]; omega))).trans ?_
    rw [t8, enc, List.append_nil]
  | kk + 1, o :: B, A, P, last, h, e, hok, hp => by
    refine (iterV_one _ _ _).trans ?_
    have ih := writeL K L hL kk B (A ++ [o]) (P ++ chunk last o) o.1 (k := k)
    generalize iterV (f32_L1 (fun X => @f48 X k) (fun X => @f49 X k) (fun X => @f50 X k) k K) kk = rec at ih ⊢
    obtain ⟨h0, h1, h2, h3, hok⟩ := hok
    have hl : L.length = A.length + (B.length + 1) := by rw [e]; simp
    have hx : (ops L)[A.length]? = some (opv o) := by rw [e]; exact ops_mid A o B
    have cl := chunk_len last o h1
    have tb1 := tell_bnd (o.1 - last) (by omega)
    have tb2 := tell_bnd (o.2.length : Int) (by omega)
    simp only [List.length_cons] at h hp
    unfold f32_L1 f32_T1
    dsimp only
    refine (bifT (decide_eq_true (by omega))).trans ?_
    refine (grdT (dec0 _)).trans ?_
    refine (grdT (decide_eq_true (by omega))).trans ?_
    rw [Int.toNat_natCast, Nat.zero_add]
    refine (bAt hx _).trans ?_
    refine (grdT rfl).trans ?_
    refine (grdT rfl).trans ?_
    refine (grdT rfl).trans ?_
    simp only [opvI, opvL, by8_length]
    rw [wrap64 (n := o.1 - last) (by omega) (by omega)]
    refine (nibble_eq _ _ (by omega) (by omega)).trans ?_
    refine (nibble_eq _ _ (by omega) (by omega)).trans ?_
    dsimp only
    rw [or_nib tb1.1 tb1.2.1 tb2.1 tb2.2.1]
    show grd _ _ = _
    simp only [t1n, d8, t8', ← by8_append, by8_length]
    have a1 : P.length + [(tellN (o.1 - last)).1 * 16 + (tellN (o.2.length : Int)).1].length = (P ++ [(tellN (o.1 - last)).1 * 16 + (tellN (o.2.length : Int)).1]).length := (List.length_append).symm
    simp only [a1, t8', ← List.length_append, ← by8_append]
    refine (grdT (decide_eq_true (by simp; omega))).trans ?_
    refine (grdT (decide_eq_true (by simp; omega))).trans ?_
    refine (grdT (decide_eq_true (by simp; omega))).trans ?_
    refine (grdT (decide_eq_true (by simp; omega))).trans ?_
    rw [wrap64_s (by omega)]
    have e1 : P ++ [(tellN (o.1 - last)).1 * 16 + (tellN (o.2.length : Int)).1] ++ (tellN (o.1 - last)).2 ++ (tellN (o.2.length : Int)).2 ++ o.2 = P ++ chunk last o := by
      unfold chunk hd; simp
    rw [e1]
    have := ih (by omega) (by rw [e]; simp) hok (by simp only [List.length_append]; omega)
    rw [show (A ++ [o]).length = A.length + 1 from by simp] at this
    rw [this, enc, List.append_assoc]
theorem writeR {k : Nat} (K : Nat × Int × List CV → Option X) (L : List Op) (hL : L.length ≤ 100000) (hk : 1000000 < k) : ∀ (kk : Nat) (B A : List Op) (P : List Int) (last : Int), B.length < kk → L = A ++ B → Okk last B → P.length + 400 * B.length ≤ 900000 →
    iterV (f35_L3 (fun X => @f28 X k) (fun X => @f52 X k) (fun X => @f36 X k) k K) kk (L.length, P.length, last, (A.length : Int), ops L, by8 P) = K ((P ++ enc last B).length, 0, by8 (P ++ enc last B))
  | 0, B, A, P, last, h, _, _, _ => absurd h (Nat.not_lt_zero _)
  | kk + 1, [], A, P, last, h, e, _, hp => by
    refine (iterV_one _ _ _).trans ?_
    unfold f35_L3 f35_T3
    dsimp only
    rw [List.append_nil] at e
    refine (bifF (decide_eq_false (by rw [e]; omega))).trans ?_
    rw [t8, enc, List.append_nil]
  | kk + 1, o :: B, A, P, last, h, e, hok, hp => by
    refine (iterV_one _ _ _).trans ?_
    have ih := writeR K L hL hk kk B (A ++ [o]) (P ++ chunk last o) o.1
    generalize iterV (f35_L3 (fun X => @f28 X k) (fun X => @f52 X k) (fun X => @f36 X k) k K) kk = rec at ih ⊢
    obtain ⟨h0, h1, h2, h3, hok⟩ := hok
    have hl : L.length = A.length + (B.length + 1) := by rw [e]; simp
    have hx : (ops L)[A.length]? = some (opv o) := by rw [e]; exact ops_mid A o B
    have cl := chunk_len last o h1
    have tb1 := tell_bnd (o.1 - last) (by omega)
    have tb2 := tell_bnd (o.2.length : Int) (by omega)
    simp only [List.length_cons] at h hp
    unfold f35_L3 f35_T3
    dsimp only
    refine (bifT (decide_eq_true (by omega))).trans ?_
    refine (grdT (dec0 _)).trans ?_
    refine (grdT (decide_eq_true (by omega))).trans ?_
    rw [Int.toNat_natCast, Nat.zero_add]
    refine (bAt hx _).trans ?_
    refine (bAt (opv0 _) _).trans ?_
    refine (grdT rfl).trans ?_
    rw [show CV.toI (CV.int .i64 o.1) = o.1 from rfl]
    rw [wrap64 (n := o.1 - last) (by omega) (by omega)]
    refine (tell_eq _ _ (by omega) (by omega)).trans ?_
    refine (grdT (dec0 _)).trans ?_
    refine (grdT (decide_eq_true (by omega))).trans ?_
    refine (bAt hx _).trans ?_
    refine (bAt (opv1 _) _).trans ?_
    refine (grdT rfl).trans ?_
    rw [show CV.toL (CV.slc none (by8 o.2)) = by8 o.2 from rfl, by8_length]
    refine (tell_eq _ _ (by omega) (by omega)).trans ?_
    refine (grdT (dec0 _)).trans ?_
    refine (grdT (decide_eq_true (by omega))).trans ?_
    refine (bAt hx _).trans ?_
    refine (bAt (opv1 _) _).trans ?_
    refine (grdT rfl).trans ?_
    dsimp only
    rw [add_nib tb1.1 tb1.2.1 tb2.1 tb2.2.1]
    simp only [t1n, d8]
    show f36 k _ (parts [P, [(tellN (o.1 - last)).1 * 16 + (tellN (o.2.length : Int)).1], (tellN (o.1 - last)).2, (tellN (o.2.length : Int)).2, o.2]) = _
    have e1 : [P, [(tellN (o.1 - last)).1 * 16 + (tellN (o.2.length : Int)).1], (tellN (o.1 - last)).2, (tellN (o.2.length : Int)).2, o.2].flatten = P ++ chunk last o := by
      unfold chunk hd; simp
    have e2 : (P ++ chunk last o).length ≤ 900000 := by simp only [List.length_append]; omega
    refine (join_eq _ _ (by rw [e1]; simp only [List.length_cons, List.length_nil]; omega) (by rw [e1]; omega) (by simp)).trans ?_
    rw [e1]
    refine (grdT (dec0 _)).trans ?_
    refine (grdT (decide_eq_true (by omega))).trans ?_
    refine (bAt hx _).trans ?_
    refine (bAt (opv0 _) _).trans ?_
    refine (grdT rfl).trans ?_
    rw [wrap64_s (by omega)]
    have := ih (by omega) (by rw [e]; simp) hok (by simp only [List.length_append]; omega)
    rw [show (A ++ [o]).length = A.length + 1 from by simp] at this
    refine (show _ = _ from this).trans ?_
    rw [enc, List.append_assoc]
/-- Options as bytes. -/
def optW (l : List Op) : Int × List Int := bif flt l != 0 then (flt l, []) else (0, enc 0 (isort l))
theorem okk_of : ∀ (l : List Op) (last : Int), 0 ≤ last → Srt l → (∀ o ∈ l, last ≤ o.1 ∧ o.1 ≤ 65535 ∧ o.2.length ≤ 300) → Okk last l
  | [], _, _, _, _ => trivial
  | o :: l, last, h0, hs, h => by
    have hs' := List.pairwise_cons.1 hs
    have ho := h o List.mem_cons_self
    exact ⟨h0, ho.1, ho.2.1, ho.2.2, okk_of l o.1 (by omega) hs'.2 fun p hp => ⟨hs'.1 p hp, (h p (List.mem_cons_of_mem _ hp)).2⟩⟩
theorem flt_ok {l : List Op} (h : flt l = 0) : l.length ≤ 24 ∧ ∀ o ∈ l, 0 ≤ o.1 ∧ o.1 ≤ 65535 ∧ o.2.length ≤ 300 := by
  unfold flt at h
  cases h1 : decide (24 < l.length) with
  | true => rw [h1] at h; exact absurd (show (3 : Int) = 0 from h) (by decide)
  | false =>
    rw [h1] at h
    cases h2 : l.any pF with
    | true => rw [h2] at h; exact absurd (show (1 : Int) = 0 from h) (by decide)
    | false =>
      rw [h2] at h
      cases h3 : l.any qF with
      | true => rw [h3] at h; exact absurd (show (2 : Int) = 0 from h) (by decide)
      | false =>
        have h1 := of_decide_eq_false h1
        refine ⟨by omega, fun o ho => ?_⟩
        have h2 := List.any_eq_false.1 h2 o ho
        have h3 := List.any_eq_false.1 h3 o ho
        simp only [pF, qF, Bool.or_eq_true, decide_eq_true_eq, not_or] at h2 h3
        omega
theorem okk_isort {l : List Op} (h : flt l = 0) : Okk 0 (isort l) := by
  obtain ⟨h1, h2⟩ := flt_ok h
  exact okk_of _ 0 (Int.le_refl _) (isort_srt l) fun o ho => h2 o (isort_mem.1 ho)
theorem optW_eq {k : Nat} (K : Nat × Int × List CV → Option X) (l : List Op) (hk : 1000000 < k) (hl : l.length < 1000) : f32 k K (ops l) = K ((optW l).2.length, (optW l).1, by8 (optW l).2) := by
  unfold f32 f32_A f32_T
  refine (fault_eq _ l (by omega) (by omega)).trans ?_
  unfold optW
  cases h : flt l != 0 with
  | true => rfl
  | false =>
    refine (bifF rfl).trans ?_
    have h0 : flt l = 0 := by simpa using h
    have h1 := flt_ok h0
    refine (byNum_eq _ l (by omega) (by omega)).trans ?_
    have := writeL (k := k) K (isort l) (by rw [isort_len]; omega) k (isort l) [] [] 0 (by rw [isort_len]; omega) rfl (okk_isort h0) (by rw [isort_len]; simp; omega)
    rw [isort_len] at this
    exact this
theorem errLoop1 {k : Nat} (K : Nat × Int × List CV → Option X) (l : List Op) (hk : l.length < k) (hl : l.length < 1000) : iterV (f35_L1 (fun X => @f28 X k) (fun X => @f52 X k) (fun X => @f36 X k) k K) k (ops l, 0) = bif l.any pF then K (0, 1, []) else iterV (f35_L2 (fun X => @f28 X k) (fun X => @f52 X k) (fun X => @f36 X k) k K) k (ops l, 0) := by
  refine iterV_spec (T := f35_L1 (fun X => @f28 X k) (fun X => @f52 X k) (fun X => @f36 X k) k K) (fun i => (ops l, (i : Int))) (fun i => bif (l.drop i).any pF then K (0, 1, []) else iterV (f35_L2 (fun X => @f28 X k) (fun X => @f52 X k) (fun X => @f36 X k) k K) k (ops l, 0)) l.length (fun i rec h hr => ?_) (fun rec => ?_) k 0 (Nat.zero_le _) (by omega)
  · unfold f35_L1 f35_T1
    dsimp only
    refine (bifT (decide_eq_true (by rw [ops_length]; omega))).trans ?_
    refine (grdT (dec0 _)).trans ?_
    rw [Int.toNat_natCast]
    refine (bAt (ops_nth l i h) _).trans ?_
    refine (bAt (opv0 _) _).trans ?_
    refine (grdT rfl).trans ?_
    rw [show CV.toI (CV.int .i64 l[i].1) = l[i].1 from rfl]
    rw [List.drop_eq_getElem_cons h, List.any_cons]
    unfold pF
    cases h1 : decide (l[i].1 < 0) with
    | true => rfl
    | false =>
      refine (bifF rfl).trans ?_
      refine (grdT (dec0 _)).trans ?_
      refine (bAt (ops_nth l i h) _).trans ?_
      refine (bAt (opv0 _) _).trans ?_
      refine (grdT rfl).trans ?_
      rw [show CV.toI (CV.int .i64 l[i].1) = l[i].1 from rfl]
      cases h2 : decide (l[i].1 > 65535) with
      | true => rfl
      | false =>
        refine (bifF rfl).trans ?_
        rw [wrap64_s (by omega), hr]
        rfl
  · unfold f35_L1 f35_T1
    dsimp only
    refine (bifF (decide_eq_false (by rw [ops_length]; omega))).trans ?_
    rw [List.drop_length]; rfl
theorem errLoop2 {k : Nat} (K : Nat × Int × List CV → Option X) (l : List Op) (hk : l.length < k) (hl : l.length < 1000) : iterV (f35_L2 (fun X => @f28 X k) (fun X => @f52 X k) (fun X => @f36 X k) k K) k (ops l, 0) = bif l.any qF then K (0, 2, []) else f28 k (fun u27 => iterV (f35_L3 (fun X => @f28 X k) (fun X => @f52 X k) (fun X => @f36 X k) k K) k (u27.1, 0, 0, 0, u27.2, [])) (ops l) := by
  refine iterV_spec (T := f35_L2 (fun X => @f28 X k) (fun X => @f52 X k) (fun X => @f36 X k) k K) (fun i => (ops l, (i : Int))) (fun i => bif (l.drop i).any qF then K (0, 2, []) else f28 k (fun u27 => iterV (f35_L3 (fun X => @f28 X k) (fun X => @f52 X k) (fun X => @f36 X k) k K) k (u27.1, 0, 0, 0, u27.2, [])) (ops l)) l.length (fun i rec h hr => ?_) (fun rec => ?_) k 0 (Nat.zero_le _) (by omega)
  · unfold f35_L2 f35_T2
    dsimp only
    refine (bifT (decide_eq_true (by rw [ops_length]; omega))).trans ?_
    refine (grdT (dec0 _)).trans ?_
    rw [Int.toNat_natCast]
    refine (bAt (ops_nth l i h) _).trans ?_
    refine (bAt (opv1 _) _).trans ?_
    refine (grdT rfl).trans ?_
    rw [show CV.toL (CV.slc none (by8 l[i].2)) = by8 l[i].2 from rfl, by8_length]
    rw [List.drop_eq_getElem_cons h, List.any_cons]
    unfold qF
    rw [show decide ((l[i].2.length : Int) > 300) = decide (300 < l[i].2.length) from decide_eq_decide.2 (by omega)]
    cases h1 : decide (300 < l[i].2.length) with
    | true => rfl
    | false =>
      refine (bifF rfl).trans ?_
      rw [wrap64_s (by omega), hr]
      rfl
  · unfold f35_L2 f35_T2
    dsimp only
    refine (bifF (decide_eq_false (by rw [ops_length]; omega))).trans ?_
    rw [List.drop_length]; rfl
theorem refW_eq {k : Nat} (K : Nat × Int × List CV → Option X) (l : List Op) (hk : 1000000 < k) (hl : l.length < 1000) : f35 k K (ops l) = K ((optW l).2.length, (optW l).1, by8 (optW l).2) := by
  unfold f35 f35_A f35_T
  rw [ops_length, show decide ((l.length : Int) > 24) = decide (24 < l.length) from decide_eq_decide.2 (by omega)]
  unfold optW
  cases h1 : decide (24 < l.length) with
  | true =>
    have e : flt l = 3 := by unfold flt; rw [h1]; rfl
    rw [e]; rfl
  | false =>
    refine (bifF rfl).trans ?_
    refine (errLoop1 K l (by omega) hl).trans ?_
    cases h2 : l.any pF with
    | true =>
      have e : flt l = 1 := by unfold flt; rw [h1, h2]; rfl
      rw [e]; rfl
    | false =>
      refine (bifF rfl).trans ?_
      refine (errLoop2 K l (by omega) hl).trans ?_
      cases h3 : l.any qF with
      | true =>
        have e : flt l = 2 := by unfold flt; rw [h1, h2, h3]; rfl
        rw [e]; rfl
      | false =>
        have e : flt l = 0 := by unfold flt; rw [h1, h2, h3]; rfl
        have h1 := flt_ok e
        refine (bifF rfl).trans ?_
        refine (sorted_eq _ l (by omega) (fun o ho => by have := h1.2 o ho; omega) (by omega)).trans ?_
        rw [e]
        have := writeR (k := k) K (isort l) (by rw [isort_len]; omega) hk k (isort l) [] [] 0 (by rw [isort_len]; omega) rfl (okk_isort e) (by rw [isort_len]; simp; omega)
        rw [isort_len] at this
        exact this
end
end Go.Proofs.YtlgdoglffddjfaaD
/- The options of bytes: in plain words. -/
namespace Go.Proofs.YtlgdoglffddjfaaD
open Go Go.Proofs.YtlgdoglffddjfaaS Go.Proofs
set_option linter.unusedVariables false
set_option linter.unusedSimpArgs false
section
variable {X : Type}
/-- A byte of bytes. -/
def gt (b : List Int) (i : Nat) : Int := b[i]?.getD 0
theorem gtB {b : List Int} (h : Byt b) (i : Nat) : 0 ≤ gt b i ∧ gt b i < 256 := by
  unfold gt
  rcases Nat.lt_or_ge i b.length with hi | hi
  · rw [List.getElem?_eq_getElem hi]; exact h _ (List.getElem_mem hi)
  · rw [List.getElem?_eq_none hi]; exact ⟨Int.le_refl _, by decide⟩
theorem gtE {b : List Int} {i : Nat} (hi : i < b.length) : (by8 b)[i]? = some (CV.int .u8 (gt b i)) := by
  unfold gt
  rw [by8_get, List.getElem?_eq_getElem hi]; rfl
/-- The number that four bits tell, and where it goes on. -/
def rdNum (b : List Int) (at' : Nat) (n : Int) : Option (Int × Nat) :=
  if n < 13 then some (n, at') else if n = 13 then (if at' < b.length then some (13 + gt b at', at' + 1) else none) else if at' + 2 ≤ b.length then some (269 + gt b at' * 256 + gt b (at' + 1), at' + 2) else none
theorem rdNum_bnd {b : List Int} {a : Nat} {n d : Int} {p : Nat} (hb : Byt b) (ha : a ≤ b.length) (hn : 0 ≤ n) (h : rdNum b a n = some (d, p)) : a ≤ p ∧ p ≤ b.length ∧ 0 ≤ d ∧ d ≤ 70000 := by
  unfold rdNum at h
  have h1 := gtB hb a
  have h2 := gtB hb (a + 1)
  split at h
  · cases h; omega
  · split at h
    · split at h
      · cases h; omega
      · cases h
    · split at h
      · cases h; omega
      · cases h
theorem number_eq {k : Nat} (K : Int × Bool × List CV × Int → Option X) (b : List Int) (a : Nat) (n : Int) (hb : Byt b) (ha : a ≤ b.length) (hl : b.length ≤ 1000000) (h0 : 0 ≤ n) (h1 : n ≤ 14) :
    f62 k K n (by8 b) (a : Int) = match rdNum b a n with | none => K (0, false, by8 b, (a : Int)) | some (d, p) => K (d, true, by8 b, (p : Int)) := by
  have g1 := gtB hb a
  have g2 := gtB hb (a + 1)
  unfold f62 f62_A f62_T rdNum
  rw [by8_length]
  by_cases h : n < 13
  · rw [if_pos h]
    refine (bifF (beq_eq_false_iff_ne.2 (by omega))).trans ?_
    exact bifF (beq_eq_false_iff_ne.2 (by omega))
  · rw [if_neg h]
    rw [wrap64 (n := (a : Int) + 1) (by omega) (by omega), wrap64 (n := (a : Int) + 2) (by omega) (by omega)]
    by_cases h13 : n = 13
    · rw [if_pos h13]
      refine (bifT (beq_iff_eq.2 h13)).trans ?_
      by_cases hc : a < b.length
      · rw [if_pos hc]
        refine (bifF (decide_eq_false (by omega))).trans ?_
        rw [wrap64 (n := (a : Int) + 1 - 1) (by omega) (by omega), show ((a : Int) + 1 - 1) = (a : Int) from by omega, Int.toNat_natCast]
        refine (grdT (dec0 _)).trans ?_
        refine (bAt (gtE hc) _).trans ?_
        refine (grdT rfl).trans ?_
        rw [show CV.toI (CV.int .u8 (gt b a)) = gt b a from rfl, wrap64 (n := gt b a) (by omega) (by omega), wrap64 (n := 13 + gt b a) (by omega) (by omega)]
        rfl
      · rw [if_neg hc]
        exact bifT (decide_eq_true (by omega))
    · rw [if_neg h13]
      refine (bifF (beq_eq_false_iff_ne.2 h13)).trans ?_
      refine (bifT (beq_iff_eq.2 (by omega))).trans ?_
      by_cases hc : a + 2 ≤ b.length
      · rw [if_pos hc]
        refine (bifF (decide_eq_false (by omega))).trans ?_
        rw [wrap64 (n := (a : Int) + 2 - 2) (by omega) (by omega), show ((a : Int) + 2 - 2) = (a : Int) from by omega, Int.toNat_natCast]
        rw [wrap64 (n := (a : Int) + 2 - 1) (by omega) (by omega), show ((a : Int) + 2 - 1) = ((a + 1 : Nat) : Int) from by omega, Int.toNat_natCast]
        refine (grdT (dec0 _)).trans ?_
        refine (bAt (gtE (by omega)) _).trans ?_
        refine (grdT rfl).trans ?_
        refine (grdT (dec0 _)).trans ?_
        refine (bAt (gtE (by omega)) _).trans ?_
        refine (grdT rfl).trans ?_
        rw [show CV.toI (CV.int .u8 (gt b a)) = gt b a from rfl, show CV.toI (CV.int .u8 (gt b (a + 1))) = gt b (a + 1) from rfl, show (2 : Int) ^ 8 = 256 from rfl]
        rw [wrap64 (n := gt b a) (by omega) (by omega), wrap64 (n := gt b (a + 1)) (by omega) (by omega), wrap64 (n := gt b a * 256) (by omega) (by omega), wrap64 (n := 269 + gt b a * 256) (by omega) (by omega), wrap64 (n := 269 + gt b a * 256 + gt b (a + 1)) (by omega) (by omega)]
        rfl
      · rw [if_neg hc]
        exact bifT (decide_eq_true (by omega))
theorem numR_eq {k : Nat} (K : Int × Int × Bool → Option X) (b : List Int) (a : Nat) (n : Int) (hb : Byt b) (ha : a ≤ b.length) (hl : b.length ≤ 1000000) (h0 : 0 ≤ n) (h1 : n ≤ 14) :
    f54 k K (by8 b) (a : Int) n = match rdNum b a n with | none => K (0, (a : Int), false) | some (d, p) => K (d, (p : Int), true) := by
  have g1 := gtB hb a
  have g2 := gtB hb (a + 1)
  unfold f54 f54_A f54_T rdNum
  rw [by8_length]
  by_cases h : n < 13
  · rw [if_pos h]
    exact bifT (decide_eq_true h)
  · rw [if_neg h]
    refine (bifF (decide_eq_false (by omega))).trans ?_
    rw [wrap64 (n := (a : Int) + 1) (by omega) (by omega), wrap64 (n := (a : Int) + 2) (by omega) (by omega), wrap64 (n := (b.length : Int) - (a : Int)) (by omega) (by omega)]
    by_cases h13 : n = 13
    · rw [if_pos h13]
      refine (bifT (beq_iff_eq.2 h13)).trans ?_
      by_cases hc : a < b.length
      · rw [if_pos hc]
        refine (bifF (decide_eq_false (by omega))).trans ?_
        rw [Int.toNat_natCast]
        refine (grdT (dec0 _)).trans ?_
        refine (bAt (gtE hc) _).trans ?_
        refine (grdT rfl).trans ?_
        rw [show CV.toI (CV.int .u8 (gt b a)) = gt b a from rfl, wrap64 (n := gt b a) (by omega) (by omega), wrap64 (n := 13 + gt b a) (by omega) (by omega)]
        rfl
      · rw [if_neg hc]
        exact bifT (decide_eq_true (by omega))
    · rw [if_neg h13]
      refine (bifF (beq_eq_false_iff_ne.2 h13)).trans ?_
      by_cases hc : a + 2 ≤ b.length
      · rw [if_pos hc]
        refine (bifF (decide_eq_false (by omega))).trans ?_
        rw [Int.toNat_natCast, show ((a : Int) + 1) = ((a + 1 : Nat) : Int) from by omega, Int.toNat_natCast]
        refine (grdT (dec0 _)).trans ?_
        refine (bAt (gtE (by omega)) _).trans ?_
        refine (grdT rfl).trans ?_
        refine (grdT (dec0 _)).trans ?_
        refine (bAt (gtE (by omega)) _).trans ?_
        refine (grdT rfl).trans ?_
        rw [show CV.toI (CV.int .u8 (gt b a)) = gt b a from rfl, show CV.toI (CV.int .u8 (gt b (a + 1))) = gt b (a + 1) from rfl]
        rw [wrap64 (n := gt b a) (by omega) (by omega), wrap64 (n := gt b (a + 1)) (by omega) (by omega), wrap64 (n := gt b a * 256) (by omega) (by omega), wrap64 (n := 269 + gt b a * 256) (by omega) (by omega), wrap64 (n := 269 + gt b a * 256 + gt b (a + 1)) (by omega) (by omega)]
        rfl
      · rw [if_neg hc]
        exact bifT (decide_eq_true (by omega))
/-- An option behind others: its number, where its bytes stand, how many; or what is wrong. -/
def rdO (b : List Int) (last : Int) (cnt a : Nat) : (Int × Nat) ⊕ (Int × Nat × Int) :=
  if gt b a / 16 = 15 ∨ gt b a % 16 = 15 then .inl (20, a) else
  match rdNum b (a + 1) (gt b a / 16) with
  | none => .inl (20, a + 1)
  | some (d, p) => match rdNum b p (gt b a % 16) with
    | none => .inl (20, p)
    | some (n, q) => if cnt ≥ 24 then .inl (3, q) else if last + d > 65535 then .inl (1, q) else if n > 300 then .inl (2, q) else if n > (b.length : Int) - q then .inl (20, q) else .inr (last + d, q, n)
theorem rdO_bnd {b : List Int} {last : Int} {cnt a : Nat} {num n : Int} {q : Nat} (hb : Byt b) (ha : a < b.length) (h0 : 0 ≤ last) (h : rdO b last cnt a = .inr (num, q, n)) : a < q ∧ (q : Int) + n ≤ b.length ∧ 0 ≤ n ∧ n ≤ 300 ∧ last ≤ num ∧ num ≤ 65535 ∧ cnt < 24 := by
  have g := gtB hb a
  unfold rdO at h
  split at h
  · cases h
  · split at h
    · cases h
    · next e1 =>
      have b1 := rdNum_bnd hb (by omega) (by omega) e1
      split at h
      · cases h
      · next e2 =>
        have b2 := rdNum_bnd hb b1.2.1 (by omega) e2
        split at h
        · cases h
        · split at h
          · cases h
          · split at h
            · cases h
            · split at h
              · cases h
              · cases h; omega
theorem rdO_err {b : List Int} {last : Int} {cnt a : Nat} {e : Int} {q : Nat} (h : rdO b last cnt a = .inl (e, q)) : e = 20 ∨ e = 3 ∨ e = 1 ∨ e = 2 := by
  unfold rdO at h
  split at h
  · cases h; exact .inl rfl
  · split at h
    · cases h; exact .inl rfl
    · split at h
      · cases h; exact .inl rfl
      · split at h
        · cases h; exact .inr (.inl rfl)
        · split at h
          · cases h; exact .inr (.inr (.inl rfl))
          · split at h
            · cases h; exact .inr (.inr (.inr rfl))
            · split at h
              · cases h; exact .inl rfl
              · cases h
theorem by8_drop (b : List Int) (n : Nat) : List.drop n (by8 b) = by8 (b.drop n) := by simp [by8, List.map_drop]
theorem by8_take (b : List Int) (n : Nat) : List.take n (by8 b) = by8 (b.take n) := by simp [by8, List.map_take]
theorem option_eq {k : Nat} (K : Int × Nat × Int × List CV × Int × List CV → Option X) (b : List Int) (last : Int) (cnt a : Nat) (hb : Byt b) (ha : a < b.length) (hl : b.length ≤ 1000000) (h0 : 0 ≤ last) (h1 : last ≤ 65535) (hc : cnt ≤ 24) :
    f53 k K last (cnt : Int) (by8 b) (a : Int) = match rdO b last cnt a with | .inl (e, q) => K (0, 0, e, by8 b, (q : Int), by8 []) | .inr (num, q, n) => K (num, ((b.drop q).take n.toNat).length, 0, by8 b, ((q + n.toNat : Nat) : Int), by8 ((b.drop q).take n.toNat)) := by
  have g := gtB hb a
  unfold f53 f53_A f53_T
  refine (grdT (dec0 _)).trans ?_
  rw [Int.toNat_natCast]
  refine (bAt (gtE ha) _).trans ?_
  refine (grdT rfl).trans ?_
  rw [show CV.toI (CV.int .u8 (gt b a)) = gt b a from rfl, wrap64 (n := gt b a) (by omega) (by omega), fdiv_eq _ (by decide), show (2 : Int) ^ 4 = 16 from rfl, show bop .and .i64 (gt b a) 15 = gt b a % 16 from bop_mask64 (gt b a) 4 (by decide)]
  unfold rdO
  by_cases h15 : gt b a / 16 = 15 ∨ gt b a % 16 = 15
  · rw [if_pos h15]
    rcases h15 with h | h
    · exact bifT (beq_iff_eq.2 h)
    · by_cases h' : gt b a / 16 = 15
      · exact bifT (beq_iff_eq.2 h')
      · refine (bifF (beq_eq_false_iff_ne.2 h')).trans ?_
        exact bifT (beq_iff_eq.2 h)
  · rw [if_neg h15]
    refine (bifF (beq_eq_false_iff_ne.2 fun h => h15 (.inl h))).trans ?_
    refine (bifF (beq_eq_false_iff_ne.2 fun h => h15 (.inr h))).trans ?_
    rw [wrap64_s (by omega)]
    refine (number_eq _ b (a + 1) _ hb (by omega) hl (by omega) (by omega)).trans ?_
    cases e1 : rdNum b (a + 1) (gt b a / 16) with
    | none => exact bifT rfl
    | some dp =>
      obtain ⟨d, p⟩ := dp
      have b1 := rdNum_bnd hb (by omega) (by omega) e1
      refine (bifF rfl).trans ?_
      dsimp only
      refine (number_eq _ b p _ hb b1.2.1 hl (by omega) (by omega)).trans ?_
      cases e2 : rdNum b p (gt b a % 16) with
      | none => exact bifT rfl
      | some nq =>
        obtain ⟨n, q⟩ := nq
        have b2 := rdNum_bnd hb b1.2.1 (by omega) e2
        refine (bifF rfl).trans ?_
        dsimp only
        rw [by8_length, wrap64 (n := last + d) (by omega) (by omega), wrap64 (n := (b.length : Int) - (q : Int)) (by omega) (by omega)]
        by_cases c1 : cnt ≥ 24
        · rw [if_pos c1]
          exact bifT (beq_iff_eq.2 (by omega))
        rw [if_neg c1]
        refine (bifF (beq_eq_false_iff_ne.2 (by omega))).trans ?_
        by_cases c2 : last + d > 65535
        · rw [if_pos c2]; exact bifT (decide_eq_true c2)
        rw [if_neg c2]
        refine (bifF (decide_eq_false c2)).trans ?_
        by_cases c3 : n > 300
        · rw [if_pos c3]; exact bifT (decide_eq_true c3)
        rw [if_neg c3]
        refine (bifF (decide_eq_false c3)).trans ?_
        by_cases c4 : n > (b.length : Int) - q
        · rw [if_pos c4]; exact bifT (decide_eq_true c4)
        rw [if_neg c4]
        refine (bifF (decide_eq_false c4)).trans ?_
        rw [wrap64 (n := (q : Int) + n) (by omega) (by omega)]
        refine (grdT (decide_eq_true (by omega))).trans ?_
        refine (grdT (decide_eq_true (by omega))).trans ?_
        refine (grdT (decide_eq_true (by omega))).trans ?_
        rw [show (q : Int) + n = ((q + n.toNat : Nat) : Int) from by omega, Int.toNat_natCast, Int.toNat_natCast, show q + n.toNat - q = n.toNat from by omega, by8_drop, by8_take]
        refine (clone_eq _ _ (by rw [by8_length, List.length_take]; omega)).trans ?_
        rw [by8_length, t8]
/-- The options of bytes. -/
def rd : Nat → List Int → Int → List Op → Nat → Int × Nat × List Op
  | 0, _, _, _, _ => (99, 0, [])
  | kk + 1, b, last, acc, a =>
    if a < b.length ∧ gt b a ≠ 255 then
      match rdO b last acc.length a with
      | .inl (e, _) => (e, 0, [])
      | .inr (num, q, n) => rd kk b num (acc ++ [(num, (b.drop q).take n.toNat)]) (q + n.toNat)
    else (0, a, acc)
def rdK (K : Nat × Int × Int × List CV → Option X) (r : Int × Nat × List Op) : Option X := K (r.2.2.length, (r.2.1 : Int), r.1, ops r.2.2)
theorem readL {k : Nat} (K : Nat × Int × Int × List CV → Option X) (b : List Int) (hb : Byt b) (hl : b.length ≤ 1000000) : ∀ (kk : Nat) (last : Int) (acc : List Op) (a : Nat), b.length - a < kk → a ≤ b.length → 0 ≤ last → last ≤ 65535 → acc.length ≤ 24 →
    iterV (f38_L1 (fun X => @f53 X k) k K) kk (by8 b, acc.length, last, ops acc, by8 b, (a : Int)) = rdK K (rd kk b last acc a)
  | 0, last, acc, a, h, _, _, _, _ => absurd h (Nat.not_lt_zero _)
  | kk + 1, last, acc, a, h, ha, h0, h1, hc => by
    refine (iterV_one _ _ _).trans ?_
    have ih := readL K b hb hl kk (k := k)
    generalize iterV (f38_L1 (fun X => @f53 X k) k K) kk = rec at ih ⊢
    unfold f38_L1 f38_T1 rd
    dsimp only
    rcases Nat.lt_or_ge a b.length with hl' | hl'
    · refine (bifT (decide_eq_true (by rw [by8_length]; omega))).trans ?_
      refine (grdT (dec0 _)).trans ?_
      rw [Int.toNat_natCast]
      refine (bAt (gtE hl') _).trans ?_
      refine (grdT rfl).trans ?_
      rw [show CV.toI (CV.int .u8 (gt b a)) = gt b a from rfl]
      by_cases h255 : gt b a = 255
      · rw [if_neg (fun h => h.2 h255)]
        refine (bifF (by simp [h255])).trans ?_
        rw [Nat.zero_add, tO]; rfl
      · rw [if_pos ⟨hl', h255⟩]
        refine (bifT (bne_iff_ne.2 h255)).trans ?_
        refine (option_eq _ b last acc.length a hb hl' hl h0 h1 hc).trans ?_
        cases e : rdO b last acc.length a with
        | inl eq =>
          obtain ⟨e', q⟩ := eq
          have := rdO_err e
          have hne : (e' != 0) = true := bne_iff_ne.2 (by omega)
          exact bifT hne
        | inr o =>
          obtain ⟨num, q, n⟩ := o
          have bd := rdO_bnd hb hl' h0 e
          refine (bifF rfl).trans ?_
          dsimp only
          rw [d8, show List.take 1 (List.drop 0 [CV.agg [CV.int .i64 num, CV.slc none (by8 (List.take n.toNat (List.drop q b)))]]) = ops [(num, List.take n.toNat (List.drop q b))] from rfl, tO, ← ops_append]
          refine (grdT (decide_eq_true (by simp [ops_length]; omega))).trans ?_
          have := ih num (acc ++ [(num, List.take n.toNat (List.drop q b))]) (q + n.toNat) (by omega) (by omega) (by omega) (by omega) (by simp; omega)
          rw [List.length_append] at this
          rw [ops_length]
          exact this
    · rw [if_neg (fun h => absurd h.1 (by omega))]
      refine (bifF (decide_eq_false (by rw [by8_length]; omega))).trans ?_
      rw [Nat.zero_add, tO]; rfl
theorem readR {k : Nat} (K : Nat × Int × Int × List CV → Option X) (b : List Int) (hb : Byt b) (hl : b.length ≤ 1000000) (hk : 1000 < k) : ∀ (kk : Nat) (last : Int) (acc : List Op) (a : Nat), b.length - a < kk → a ≤ b.length → 0 ≤ last → last ≤ 65535 → acc.length ≤ 24 →
    iterV (f41_L1 (fun X => @f54 X k) (fun X => @f40 X k) k K) kk (by8 b, acc.length, (a : Int), last, ops acc) = rdK K (rd kk b last acc a)
  | 0, last, acc, a, h, _, _, _, _ => absurd h (Nat.not_lt_zero _)
  | kk + 1, last, acc, a, h, ha, h0, h1, hc => by
    refine (iterV_one _ _ _).trans ?_
    have ih := readR K b hb hl hk kk
    generalize iterV (f41_L1 (fun X => @f54 X k) (fun X => @f40 X k) k K) kk = rec at ih ⊢
    unfold f41_L1 f41_T1 rd
    dsimp only
    have g := gtB hb a
    rcases Nat.lt_or_ge a b.length with hl' | hl'
    · refine (bifT (decide_eq_true (by rw [by8_length]; omega))).trans ?_
      refine (grdT (dec0 _)).trans ?_
      rw [Int.toNat_natCast]
      refine (bAt (gtE hl') _).trans ?_
      refine (grdT rfl).trans ?_
      rw [show CV.toI (CV.int .u8 (gt b a)) = gt b a from rfl]
      by_cases h255 : gt b a = 255
      · rw [if_neg (fun h => h.2 h255)]
        refine (bifF (by simp [h255])).trans ?_
        rw [Nat.zero_add, tO]; rfl
      · rw [if_pos ⟨hl', h255⟩]
        refine (bifT (bne_iff_ne.2 h255)).trans ?_
        refine (grdT (dec0 _)).trans ?_
        refine (bAt (gtE hl') _).trans ?_
        refine (grdT rfl).trans ?_
        refine (grdT (dec0 _)).trans ?_
        refine (bAt (gtE hl') _).trans ?_
        refine (grdT rfl).trans ?_
        rw [show CV.toI (CV.int .u8 (gt b a)) = gt b a from rfl, wrap64 (n := gt b a) (by omega) (by omega), tdiv_eq (by omega), tmod_eq (by omega), wrap64 (n := gt b a / 16) (by omega) (by omega)]
        unfold rdO
        by_cases h15 : gt b a / 16 = 15 ∨ gt b a % 16 = 15
        · rw [if_pos h15]
          rcases h15 with h | h
          · exact bifT (beq_iff_eq.2 h)
          · by_cases h' : gt b a / 16 = 15
            · exact bifT (beq_iff_eq.2 h')
            · refine (bifF (beq_eq_false_iff_ne.2 h')).trans ?_
              exact bifT (beq_iff_eq.2 h)
        · rw [if_neg h15]
          refine (bifF (beq_eq_false_iff_ne.2 fun h => h15 (.inl h))).trans ?_
          refine (bifF (beq_eq_false_iff_ne.2 fun h => h15 (.inr h))).trans ?_
          rw [wrap64_s (by omega)]
          refine (numR_eq _ b (a + 1) _ hb (by omega) hl (by omega) (by omega)).trans ?_
          cases e1 : rdNum b (a + 1) (gt b a / 16) with
          | none => exact bifT rfl
          | some dp =>
            obtain ⟨d, p⟩ := dp
            have b1 := rdNum_bnd hb (by omega) (by omega) e1
            refine (bifF rfl).trans ?_
            dsimp only
            refine (numR_eq _ b p _ hb b1.2.1 hl (by omega) (by omega)).trans ?_
            cases e2 : rdNum b p (gt b a % 16) with
            | none => exact bifT rfl
            | some nq =>
              obtain ⟨n, q⟩ := nq
              have b2 := rdNum_bnd hb b1.2.1 (by omega) e2
              refine (bifF rfl).trans ?_
              dsimp only
              rw [by8_length, wrap64 (n := last + d) (by omega) (by omega), wrap64 (n := (b.length : Int) - (q : Int)) (by omega) (by omega)]
              by_cases c1 : acc.length ≥ 24
              · rw [if_pos c1]
                exact bifT (decide_eq_true (by omega))
              rw [if_neg c1]
              refine (bifF (decide_eq_false (by omega))).trans ?_
              by_cases c2 : last + d > 65535
              · rw [if_pos c2]; exact bifT (decide_eq_true c2)
              rw [if_neg c2]
              refine (bifF (decide_eq_false c2)).trans ?_
              by_cases c3 : n > 300
              · rw [if_pos c3]; exact bifT (decide_eq_true c3)
              rw [if_neg c3]
              refine (bifF (decide_eq_false c3)).trans ?_
              by_cases c4 : n > (b.length : Int) - q
              · rw [if_pos c4]; exact bifT (decide_eq_true c4)
              rw [if_neg c4]
              refine (bifF (decide_eq_false c4)).trans ?_
              rw [wrap64 (n := (q : Int) + n) (by omega) (by omega)]
              refine (grdT (decide_eq_true (by omega))).trans ?_
              refine (grdT (decide_eq_true (by omega))).trans ?_
              refine (grdT (decide_eq_true (by omega))).trans ?_
              rw [show (q : Int) + n = ((q + n.toNat : Nat) : Int) from by omega, Int.toNat_natCast, Int.toNat_natCast, show q + n.toNat - q = n.toNat from by omega, by8_drop, by8_take]
              refine (copy_eq _ _ (by rw [List.length_take]; omega) (by rw [List.length_take]; omega)).trans ?_
              rw [d8, show List.take 1 (List.drop 0 [CV.agg [CV.int .i64 (last + d), CV.slc none (by8 (List.take n.toNat (List.drop q b)))]]) = ops [(last + d, List.take n.toNat (List.drop q b))] from rfl, tO, ← ops_append]
              refine (grdT (decide_eq_true (by simp [ops_length]; omega))).trans ?_
              have := ih (last + d) (acc ++ [(last + d, List.take n.toNat (List.drop q b))]) (q + n.toNat) (by omega) (by omega) (by omega) (by omega) (by simp; omega)
              rw [List.length_append] at this
              rw [ops_length]
              exact this
    · rw [if_neg (fun h => absurd h.1 (by omega))]
      refine (bifF (decide_eq_false (by rw [by8_length]; omega))).trans ?_
      rw [Nat.zero_add, tO]; rfl
theorem optR_eq {k : Nat} (K : Nat × Int × Int × List CV → Option X) (b : List Int) (hb : Byt b) (hl : b.length ≤ 1000000) (hk : 1000000 < k) : f38 k K (by8 b) = rdK K (rd k b 0 [] 0) :=
  readL K b hb hl k 0 [] 0 (by omega) (by omega) (by omega) (by omega) (by simp)
theorem refR_eq {k : Nat} (K : Nat × Int × Int × List CV → Option X) (b : List Int) (hb : Byt b) (hl : b.length ≤ 1000000) (hk : 1000000 < k) : f41 k K (by8 b) = rdK K (rd k b 0 [] 0) :=
  readR K b hb hl (by omega) k 0 [] 0 (by omega) (by omega) (by omega) (by omega) (by simp)
end
end Go.Proofs.YtlgdoglffddjfaaD
