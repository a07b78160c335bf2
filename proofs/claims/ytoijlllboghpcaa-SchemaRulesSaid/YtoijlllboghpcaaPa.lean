/- Which objects there are: the law that just the rules that are said are found. -/
import Derived.Test.YtoijlllboghpcaaD
import Derived.Test.YtoijlllboghpcaaPM
namespace Go.Proofs.YtoijlllboghpcaaD
open Go Go.Proofs.YtoijlllboghpcaaS Go.Proofs
set_option linter.unusedVariables false
set_option linter.unusedSimpArgs false
section
variable {X : Type}
abbrev Ru := Int × Int × Bool × Bool × Bool × Int × Int × Bool
abbrev Ob := Int × Int × Bool × List Ru
def ruv (r : Ru) : CV := .agg [.int .i64 r.1, .int .i64 r.2.1, .bool r.2.2.1, .bool r.2.2.2.1, .bool r.2.2.2.2.1, .int .i64 r.2.2.2.2.2.1, .int .i64 r.2.2.2.2.2.2.1, .bool r.2.2.2.2.2.2.2]
def obv (o : Ob) : CV := .agg [.int .i64 o.1, .int .i64 o.2.1, .bool o.2.2.1, .slc (some 8) (o.2.2.2.map ruv)]
def OBJ : List Ob := [(0, 2, false, [(0, 3, false, false, false, 1, 100, true), (1, 2, false, false, false, 0, 0, true), (10, 1, false, false, false, 1, 65534, true)]),
  (1, 2, false, [(0, 1, true, false, false, 1, 65534, true), (1, 1, true, true, false, 1, 86400, true), (2, 1, true, true, false, 0, 65535, false), (3, 1, true, true, false, 0, 65535, false), (6, 2, true, true, false, 0, 0, true), (7, 3, true, true, false, 1, 3, true), (8, 0, false, false, true, 0, 0, false)]),
  (2, 8, true, [(0, 1, true, false, false, 0, 65534, true), (1, 1, true, false, false, 0, 65535, true), (2, 4, true, true, false, 0, 64, false), (3, 1, true, true, false, 0, 65535, true)]),
  (3, 1, false, [(0, 3, true, false, false, 0, 40, false), (1, 3, true, false, false, 0, 40, false), (3, 3, true, false, false, 0, 40, false), (4, 0, false, false, true, 0, 0, false), (9, 1, true, false, false, 0, 100, false), (11, 1, true, false, false, 0, 32, true), (13, 5, true, true, false, 0, 1099511627776, false), (14, 3, true, true, false, 0, 6, false)]),
  (5, 1, false, [(0, 4, false, true, false, 0, 200, false), (1, 3, true, true, false, 0, 100, false), (2, 0, false, false, true, 0, 0, false), (3, 1, true, false, false, 0, 3, true), (5, 1, true, false, false, 0, 9, true), (6, 3, true, false, false, 0, 40, false), (7, 3, true, false, false, 0, 40, false), (9, 1, true, false, false, 0, 2, true)])]
set_option maxRecDepth 100000 in
theorem all_eq {k : Nat} (K : List CV → Option X) (hk : 100 < k) : f14 k K = K (OBJ.map obv) := by
  obtain ⟨k, rfl⟩ : ∃ j, k = j + 50 := ⟨k - 50, by omega⟩
  clear hk
  kernel_rfl
set_option maxRecDepth 100000 in
theorem refAll_eq {k : Nat} (K : List CV → Option X) (hk : 100 < k) : f16 k K = K (OBJ.map obv) := by
  obtain ⟨k, rfl⟩ : ∃ j, k = j + 50 := ⟨k - 50, by omega⟩
  clear hk
  kernel_rfl
set_option maxRecDepth 100000 in
theorem alive_eq {k : Nat} (K : Bool → Option X) (hk : 100 < k) : f6 k K = K true := by
  obtain ⟨k, rfl⟩ : ∃ j, k = j + 50 := ⟨k - 50, by omega⟩
  clear hk
  kernel_rfl
/-- The place of the first such, from a place on. -/
def ix {α : Type} (p : α → Bool) : Nat → List α → Option Nat
  | _, [] => none
  | i, a :: l => if p a = true then some i else ix p (i + 1) l
theorem ix_some {α : Type} {p : α → Bool} : ∀ {l : List α} {i j : Nat}, ix p i l = some j → i ≤ j ∧ ∃ a, l[j - i]? = some a ∧ p a = true
  | [], i, j, h => by cases h
  | a :: l, i, j, h => by
    unfold ix at h
    split at h
    · cases h; exact ⟨Nat.le_refl _, a, by simp, by assumption⟩
    · obtain ⟨h1, b, h2, h3⟩ := ix_some h
      refine ⟨by omega, b, ?_, h3⟩
      rw [show j - i = (j - (i + 1)) + 1 by omega]
      simpa using h2
theorem ix_none {α : Type} {p : α → Bool} : ∀ {l : List α} {i : Nat}, ix p i l = none → ∀ a ∈ l, p a = false
  | [], i, h, a, ha => by simp at ha
  | b :: l, i, h, a, ha => by
    unfold ix at h
    split at h
    · cases h
    · rename_i hb
      rcases List.mem_cons.1 ha with rfl | ha
      · simpa using hb
      · exact ix_none h a ha
def oI : Option Nat → Int
  | none => -1
  | some j => j
theorem idxO {k0 : Nat} (K : Int → Option X) (os : List Ob) (x : Int) (hl : os.length ≤ 1000) : ∀ (k i : Nat), os.length - i < k → iterV (f30_L1 (fun X => @f31 X k0) k0 K) k (os.map obv, x, (os.length : Int), (i : Int)) = K (oI (ix (fun o => o.1 == x) i (os.drop i)))
  | 0, i, h => by omega
  | k + 1, i, h => by
    have ih := fun h1 => idxO (k0 := k0) K os x hl k (i + 1) h1
    show f30_L1 _ k0 K (iterV (f30_L1 (fun X => @f31 X k0) k0 K) k) _ = _
    generalize iterV (f30_L1 (fun X => @f31 X k0) k0 K) k = rc at ih ⊢
    unfold f30_L1 f30_T1
    by_cases hi : i < os.length
    · rw [List.drop_eq_getElem_cons hi]
      simp only [decLt, decide_eq_true hi, cond_true, dec0, grd_true, Int.toNat_natCast, List.getElem?_map, List.getElem?_eq_getElem hi, Option.map_some, Option.bind_some]
      show f31 k0 _ (obv os[i]) x = _
      have e : ∀ K', f31 (X := X) k0 K' (obv os[i]) x = K' (os[i].1 == x) := fun K' => rfl
      rw [e]
      unfold ix
      cases h : (os[i].1 == x) with
      | true => rfl
      | false =>
        simp only [cond_false, Bool.false_eq_true, if_false]
        rw [wrap64_s (by omega)]
        exact ih (by omega)
    · rw [List.drop_eq_nil_of_le (by omega)]
      simp only [decLt]
      rw [decide_eq_false hi]
      rfl
theorem idxR {k0 : Nat} (K : Int → Option X) (os : List Ru) (x : Int) (hl : os.length ≤ 1000) : ∀ (k i : Nat), os.length - i < k → iterV (f33_L1 (fun X => @f34 X k0) k0 K) k (os.map ruv, x, (os.length : Int), (i : Int)) = K (oI (ix (fun o => o.1 == x) i (os.drop i)))
  | 0, i, h => by omega
  | k + 1, i, h => by
    have ih := fun h1 => idxR (k0 := k0) K os x hl k (i + 1) h1
    show f33_L1 _ k0 K (iterV (f33_L1 (fun X => @f34 X k0) k0 K) k) _ = _
    generalize iterV (f33_L1 (fun X => @f34 X k0) k0 K) k = rc at ih ⊢
    unfold f33_L1 f33_T1
    by_cases hi : i < os.length
    · rw [List.drop_eq_getElem_cons hi]
      simp only [decLt, decide_eq_true hi, cond_true, dec0, grd_true, Int.toNat_natCast, List.getElem?_map, List.getElem?_eq_getElem hi, Option.map_some, Option.bind_some]
      have e : ∀ K', f34 (X := X) k0 K' (ruv os[i]) x = K' (os[i].1 == x) := fun K' => rfl
      rw [e]
      unfold ix
      cases h : (os[i].1 == x) with
      | true => rfl
      | false =>
        simp only [cond_false, Bool.false_eq_true, if_false]
        rw [wrap64_s (by omega)]
        exact ih (by omega)
    · rw [List.drop_eq_nil_of_le (by omega)]
      simp only [decLt]
      rw [decide_eq_false hi]
      rfl
theorem idxF {k0 : Nat} (K : Int → Option X) (os : List Ob) (x : Int) (hl : os.length ≤ 1000) : ∀ (k i : Nat), os.length - i < k → iterV (f35_L1 k0 K) k (os.map obv, x, (i : Int)) = K (oI (ix (fun o => o.1 == x) i (os.drop i)))
  | 0, i, h => by omega
  | k + 1, i, h => by
    have ih := fun h1 => idxF (k0 := k0) K os x hl k (i + 1) h1
    show f35_L1 k0 K (iterV (f35_L1 k0 K) k) _ = _
    generalize iterV (f35_L1 k0 K) k = rc at ih ⊢
    unfold f35_L1 f35_T1
    by_cases hi : i < os.length
    · rw [List.drop_eq_getElem_cons hi]
      have ec : CV.cell (obv os[i]) 0 = some (.int .i64 os[i].1) := rfl
      simp only [List.length_map, decLt, decide_eq_true hi, cond_true, dec0, grd_true, Int.toNat_natCast, List.getElem?_map, List.getElem?_eq_getElem hi, Option.map_some, Option.bind_some, ec, isI_int, toI_int]
      unfold ix
      cases h : (os[i].1 == x) with
      | true => rfl
      | false =>
        simp only [cond_false, Bool.false_eq_true, if_false]
        rw [wrap64_s (by omega)]
        exact ih (by omega)
    · rw [List.drop_eq_nil_of_le (by omega)]
      simp only [List.length_map, decLt]
      rw [decide_eq_false hi]
      rfl
def zru : CV := .agg [.int .i64 0, .int .i64 0, .bool false, .bool false, .bool false, .int .i64 0, .int .i64 0, .bool false]
/-- The rule that is found. -/
def pk (rs : List Ru) : Option Nat → CV × Bool
  | none => (zru, false)
  | some j => (ruv (rs.getD j (0, 0, false, false, false, 0, 0, false)), true)
def rr (rs : List Ru) (res : Int) : CV × Bool := pk rs (ix (fun o => o.1 == res) 0 rs)
def rulesOf (obj : Int) : List Ru := match ix (fun o => o.1 == obj) 0 OBJ with
  | none => []
  | some j => (OBJ.getD j (0, 0, false, [])).2.2.2
theorem small_all : ∀ o ∈ OBJ, o.2.2.2.length ≤ 10 := by decide
theorem find_eq {k : Nat} (K : Int × Int × Bool × Nat × Bool × List CV → Option X) (hk : 100 < k) (obj : Int) : f17 k K (OBJ.map obv) obj = match ix (fun o => o.1 == obj) 0 OBJ with
    | none => K (0, 0, false, 0, false, [])
    | some j => K ((OBJ.getD j (0, 0, false, [])).1, (OBJ.getD j (0, 0, false, [])).2.1, (OBJ.getD j (0, 0, false, [])).2.2.1, (rulesOf obj).length, true, (rulesOf obj).map ruv) := by
  unfold f17 f17_A f17_T
  have h5 : OBJ.length = 5 := rfl
  have hidx := idxO (k0 := k) (fun u1 => bif decide (u1 < 0) then K (0, 0, false, 0, false, List.take 0 []) else grd (decide (0 ≤ u1)) (Option.bind (OBJ.map obv)[Int.toNat u1]? fun e2 => f32 k (fun u3 => K (u3.1, u3.2.1, u3.2.2.1, u3.2.2.2.1, true, List.take (0 + u3.2.2.2.1) u3.2.2.2.2)) e2)) OBJ obj (by decide) k 0 (by omega)
  refine Eq.trans ?_ (hidx.trans ?_)
  · rfl
  rw [List.drop_zero]
  unfold rulesOf
  cases hx : ix (fun o => o.1 == obj) 0 OBJ with
  | none => rfl
  | some j =>
    obtain ⟨_, o, ho, _⟩ := ix_some hx
    rw [Nat.sub_zero] at ho
    have hD : OBJ.getD j (0, 0, false, []) = o := by rw [List.getD_eq_getElem?_getD, ho]; rfl
    have hm := small_all o (List.mem_of_getElem? ho)
    simp only [oI, hD]
    refine (bifF (decide_eq_false (by omega))).trans ?_
    simp only [dec0, grd_true, Int.toNat_natCast, List.getElem?_map, ho, Option.map_some, Option.bind_some]
    have e : ∀ K' : Int × Int × Bool × Nat × List CV → Option X, f32 k K' (obv o) = K' (o.1, o.2.1, o.2.2.1, o.2.2.2.length, o.2.2.2.map ruv) := fun K' => by
      show grd (decide ((0 + (o.2.2.2.map ruv).length) * 48 ≤ 140737488355328)) (K' (o.1, o.2.1, o.2.2.1, (o.2.2.2.map ruv).length, List.take (0 + (o.2.2.2.map ruv).length) (o.2.2.2.map ruv))) = _
      refine (grdT (decide_eq_true (by simp; omega))).trans ?_
      rw [Nat.zero_add, List.take_length, List.length_map]
    rw [e]
    simp only []
    rw [take_all _ _ (by simp)]
    exact grdT (decide_eq_true (by omega))
theorem rules_small (obj : Int) : (rulesOf obj).length ≤ 10 := by
  unfold rulesOf
  cases hx : ix (fun o => o.1 == obj) 0 OBJ with
  | none => simp
  | some j =>
    obtain ⟨_, o, ho, _⟩ := ix_some hx
    rw [Nat.sub_zero] at ho
    have hD : OBJ.getD j (0, 0, false, []) = o := by rw [List.getD_eq_getElem?_getD, ho]; rfl
    simp only [hD]
    exact small_all o (List.mem_of_getElem? ho)
theorem rule_eq {k : Nat} (K : CV × Bool → Option X) (hk : 100 < k) (obj res : Int) : f18 k K (OBJ.map obv) obj res = K (rr (rulesOf obj) res) := by
  have hs := rules_small obj
  unfold f18 f18_A f18_T
  refine (find_eq _ hk obj).trans ?_
  cases hx : ix (fun o => o.1 == obj) 0 OBJ with
  | none =>
    have hr : rulesOf obj = [] := by unfold rulesOf; rw [hx]
    rw [hr]
    obtain ⟨k, rfl⟩ : ∃ j, k = j + 2 := ⟨k - 2, by omega⟩
    rfl
  | some j =>
    simp only [List.drop_zero]
    rw [take_all ((rulesOf obj).map ruv) _ (by simp)]
    generalize rulesOf obj = rs at hs ⊢
    have hidx := idxR (k0 := k) (fun u2 => bif decide (u2 < 0) then K (zru, false) else grd (decide (0 ≤ u2)) (grd (decide (u2 < (rs.length : Int))) (Option.bind (rs.map ruv)[0 + Int.toNat u2]? fun e3 => grd (CV.isA 8 e3) (grd (CV.isI .i64 (CV.cellD 0 e3)) (grd (CV.isI .i64 (CV.cellD 1 e3)) (grd (CV.isB (CV.cellD 2 e3)) (grd (CV.isB (CV.cellD 3 e3)) (grd (CV.isB (CV.cellD 4 e3)) (grd (CV.isI .i64 (CV.cellD 5 e3)) (grd (CV.isI .i64 (CV.cellD 6 e3)) (grd (CV.isB (CV.cellD 7 e3)) (K (CV.agg [CV.int .i64 (CV.toI (CV.cellD 0 e3)), CV.int .i64 (CV.toI (CV.cellD 1 e3)), CV.bool (CV.toB (CV.cellD 2 e3)), CV.bool (CV.toB (CV.cellD 3 e3)), CV.bool (CV.toB (CV.cellD 4 e3)), CV.int .i64 (CV.toI (CV.cellD 5 e3)), CV.int .i64 (CV.toI (CV.cellD 6 e3)), CV.bool (CV.toB (CV.cellD 7 e3))], true))))))))))))) rs res (by omega) k 0 (by omega)
    refine Eq.trans ?_ (hidx.trans ?_)
    · unfold f33 f33_A f33_T
      rw [List.length_map]
      rfl
    rw [List.drop_zero]
    unfold rr
    cases hy : ix (fun o => o.1 == res) 0 rs with
    | none => rfl
    | some m =>
      obtain ⟨_, r, hr, _⟩ := ix_some hy
      rw [Nat.sub_zero] at hr
      have hD : rs.getD m (0, 0, false, false, false, 0, 0, false) = r := by rw [List.getD_eq_getElem?_getD, hr]; rfl
      have hm : m < rs.length := (List.getElem?_eq_some_iff.1 hr).1
      simp only [oI, pk, hD]
      refine (bifF (decide_eq_false (by omega))).trans ?_
      simp only [dec0, grd_true, Int.toNat_natCast, Nat.zero_add, List.getElem?_map, hr, Option.map_some, Option.bind_some]
      refine (grdT (decide_eq_true (by omega))).trans ?_
      refine (grdT (decide_eq_true (by omega))).trans ?_
      rfl
theorem refRule_loop {k0 : Nat} (K : CV × Bool → Option X) (j : Nat) (o : Ob) (ho : OBJ[j]? = some o) (res : Int) (hl : o.2.2.2.length ≤ 10) : ∀ (k i : Nat), o.2.2.2.length - i < k → iterV (f19_L1 (fun X => @f35 X k0) k0 K) k (OBJ.map obv, res, (j : Int), (i : Int)) = K (pk o.2.2.2 (ix (fun o => o.1 == res) i (o.2.2.2.drop i)))
  | 0, i, h => by omega
  | k + 1, i, h => by
    have ih := fun h1 => refRule_loop (k0 := k0) K j o ho res hl k (i + 1) h1
    show f19_L1 _ k0 K (iterV (f19_L1 (fun X => @f35 X k0) k0 K) k) _ = _
    generalize iterV (f19_L1 (fun X => @f35 X k0) k0 K) k = rc at ih ⊢
    unfold f19_L1 f19_T1
    have ec : CV.cell (obv o) 3 = some (.slc (some 8) (o.2.2.2.map ruv)) := rfl
    have eL : CV.isL (some 8) (.slc (some 8) (o.2.2.2.map ruv)) = true := isL_slc _ _
    simp only [dec0, grd_true, Int.toNat_natCast, List.getElem?_map, ho, Option.map_some, Option.bind_some, ec, eL, toL_slc, List.length_map, decLt]
    by_cases hi : i < o.2.2.2.length
    · rw [List.drop_eq_getElem_cons hi]
      have ec0 : CV.cell (ruv o.2.2.2[i]) 0 = some (.int .i64 o.2.2.2[i].1) := rfl
      simp only [decide_eq_true hi, cond_true, List.getElem?_eq_getElem hi, Option.map_some, Option.bind_some, ec0, isI_int, grd_true, toI_int]
      unfold ix
      cases h : (o.2.2.2[i].1 == res) with
      | true =>
        have hD : o.2.2.2.getD i (0, 0, false, false, false, 0, 0, false) = o.2.2.2[i] := by rw [List.getD_eq_getElem?_getD, List.getElem?_eq_getElem hi]; rfl
        simp only [cond_true, if_true, pk, hD]
        rfl
      | false =>
        simp only [cond_false, Bool.false_eq_true, if_false]
        rw [wrap64_s (by omega)]
        exact ih (by omega)
    · rw [List.drop_eq_nil_of_le (by omega), decide_eq_false hi]
      rfl
theorem refRule_eq {k : Nat} (K : CV × Bool → Option X) (hk : 100 < k) (obj res : Int) : f19 k K (OBJ.map obv) obj res = K (rr (rulesOf obj) res) := by
  have h5 : OBJ.length = 5 := rfl
  unfold f19 f19_A f19_T
  have hidx := idxF (k0 := k) (fun u1 => bif decide (u1 < 0) then K (zru, false) else iterV (f19_L1 (fun X => @f35 X k) k K) k (OBJ.map obv, res, u1, 0)) OBJ obj (by omega) k 0 (by omega)
  refine Eq.trans ?_ (hidx.trans ?_)
  · rfl
  rw [List.drop_zero]
  unfold rulesOf
  cases hx : ix (fun o => o.1 == obj) 0 OBJ with
  | none => rfl
  | some j =>
    obtain ⟨_, o, ho, _⟩ := ix_some hx
    rw [Nat.sub_zero] at ho
    have hD : OBJ.getD j (0, 0, false, []) = o := by rw [List.getD_eq_getElem?_getD, ho]; rfl
    have hm := small_all o (List.mem_of_getElem? ho)
    simp only [oI, hD]
    refine (bifF (decide_eq_false (by omega))).trans ?_
    have := refRule_loop (k0 := k) K j o ho res hm k 0 (by omega)
    rw [List.drop_zero] at this
    exact this
theorem nodups : ∀ o ∈ OBJ, (o.2.2.2.map (·.1)).Nodup := by decide
theorem count_loop {k0 : Nat} (K : Bool → Option X) (rs : List Ru) (obj res a b : Int) (ok c : Bool) (id : Int) (hid : id = obj) (hn : (rs.map (·.1)).Nodup) (hl : rs.length ≤ 10) (hok : ok = ((rs.map (·.1)).count res == 1)) : ∀ (k i : Nat), rs.length - i < k →
    iterV (f5_L1 (fun X => @f6 X k0) (fun X => @f14 X k0) (fun X => @f18 X k0) (fun X => @f16 X k0) (fun X => @f19 X k0) (fun X => @f17 X k0) k0 K) k (obj, res, ok, ((((rs.take i).map (·.1)).count res : Nat) : Int), rs.length, (rs.length : Int), (i : Int), id, b, c, rs.length, rs.map ruv) = K true
  | 0, i, h => by omega
  | k + 1, i, h => by
    have ih := fun h1 => count_loop (k0 := k0) K rs obj res a b ok c id hid hn hl hok k (i + 1) h1
    show f5_L1 _ _ _ _ _ _ k0 K (iterV (f5_L1 (fun X => @f6 X k0) (fun X => @f14 X k0) (fun X => @f18 X k0) (fun X => @f16 X k0) (fun X => @f19 X k0) (fun X => @f17 X k0) k0 K) k) _ = _
    generalize iterV (f5_L1 (fun X => @f6 X k0) (fun X => @f14 X k0) (fun X => @f18 X k0) (fun X => @f16 X k0) (fun X => @f19 X k0) (fun X => @f17 X k0) k0 K) k = rc at ih ⊢
    unfold f5_L1 f5_T1
    by_cases hi : i < rs.length
    · have hc : ((rs.take (i + 1)).map (·.1)).count res = ((rs.take i).map (·.1)).count res + (if rs[i].1 == res then 1 else 0) := by
        rw [← List.take_append_getElem hi, List.map_append, List.count_append]
        simp [List.count_cons]
      have hb : ((rs.take i).map (·.1)).count res ≤ 10 := Nat.le_trans List.count_le_length (by simp; omega)
      simp only [decLt, decide_eq_true hi, cond_true, dec0, grd_true, Int.toNat_natCast, Nat.zero_add, List.getElem?_map, List.getElem?_eq_getElem hi, Option.map_some, Option.bind_some, hi, decide_true]
      show (bif (rs[i].1 == res) then _ else _) = _
      cases h : (rs[i].1 == res) with
      | true =>
        rw [h] at hc
        unfold f5_J1
        simp only [cond_true]
        rw [wrap64_s (by omega), wrap64_s (by omega)]
        simp only [if_true] at hc
        rw [← hc]
        exact ih (by omega)
      | false =>
        rw [h] at hc
        unfold f5_J1
        simp only [cond_false]
        rw [wrap64_s (by omega)]
        simp only [Bool.false_eq_true, if_false, Nat.add_zero] at hc
        rw [← hc]
        exact ih (by omega)
    · simp only [decLt]
      rw [decide_eq_false hi, List.take_of_length_le (by omega)]
      simp only [cond_false]
      have hle : (rs.map (·.1)).count res ≤ 1 := List.nodup_iff_count.1 hn res
      rw [show (id == obj) = true by simp [hid]]
      have e2 : (ok == ((((rs.map (·.1)).count res : Nat) : Int) == 1)) = true := by
        rw [hok]
        rcases Nat.lt_or_ge ((rs.map (·.1)).count res) 1 with h0 | h0
        · have : (rs.map (·.1)).count res = 0 := by omega
          rw [this]; rfl
        · have : (rs.map (·.1)).count res = 1 := by omega
          rw [this]; rfl
      rw [e2]
      exact congrArg K (decide_eq_true (by omega))
theorem rules_law {k : Nat} (K : Bool → Option X) (hk : 100 < k) (obj res : Int) : f5 k K obj res = K true := by
  have h5 : OBJ.length = 5 := rfl
  unfold f5 f5_A f5_T
  refine (alive_eq _ hk).trans ?_
  simp only [Bool.not_true, cond_false]
  have ht : List.take 5 (List.drop 0 (OBJ.map obv)) = OBJ.map obv := rfl
  refine (all_eq _ hk).trans ?_
  simp only [ht]
  refine (rule_eq _ hk obj res).trans ?_
  have hform : ∃ r ok, rr (rulesOf obj) res = (ruv r, ok) ∧ ok = (ix (fun o : Ru => o.1 == res) 0 (rulesOf obj)).isSome := by
    unfold rr
    cases hy : ix (fun o => o.1 == res) 0 (rulesOf obj) with
    | none => exact ⟨(0, 0, false, false, false, 0, 0, false), false, rfl, rfl⟩
    | some m => exact ⟨_, true, rfl, rfl⟩
  obtain ⟨r, ok, hrr, hok⟩ := hform
  rw [hrr]
  have hA : CV.isA 8 (ruv r) = true := rfl
  have c0 : CV.cellD 0 (ruv r) = .int .i64 r.1 := rfl
  have c1 : CV.cellD 1 (ruv r) = .int .i64 r.2.1 := rfl
  have c2 : CV.cellD 2 (ruv r) = .bool r.2.2.1 := rfl
  have c3 : CV.cellD 3 (ruv r) = .bool r.2.2.2.1 := rfl
  have c4 : CV.cellD 4 (ruv r) = .bool r.2.2.2.2.1 := rfl
  have c5 : CV.cellD 5 (ruv r) = .int .i64 r.2.2.2.2.2.1 := rfl
  have c6 : CV.cellD 6 (ruv r) = .int .i64 r.2.2.2.2.2.2.1 := rfl
  have c7 : CV.cellD 7 (ruv r) = .bool r.2.2.2.2.2.2.2 := rfl
  simp only [hA, c0, c1, c2, c3, c4, c5, c6, c7, isI_int, isB_bool, toI_int, toB_bool, grd_true]
  refine (refAll_eq _ hk).trans ?_
  simp only [ht]
  refine (refRule_eq _ hk obj res).trans ?_
  rw [hrr]
  simp only [hA, c0, c1, c2, c3, c4, c5, c6, c7, isI_int, isB_bool, toI_int, toB_bool, grd_true, beq_self_eq_true, Bool.not_true, cond_false, Bool.and_self]
  refine (all_eq _ hk).trans ?_
  simp only [ht]
  refine (find_eq _ hk obj).trans ?_
  cases hx : ix (fun o => o.1 == obj) 0 OBJ with
  | none =>
    have hr : rulesOf obj = [] := by unfold rulesOf; rw [hx]
    rw [hr] at hok
    rw [hok]
    rfl
  | some j =>
    obtain ⟨_, o, ho, hp⟩ := ix_some hx
    rw [Nat.sub_zero] at ho
    have hD : OBJ.getD j (0, 0, false, []) = o := by rw [List.getD_eq_getElem?_getD, ho]; rfl
    have hr : rulesOf obj = o.2.2.2 := by unfold rulesOf; rw [hx]; simp only [hD]
    have hmem := List.mem_of_getElem? ho
    have hnd := nodups o hmem
    have hle : (o.2.2.2.map (·.1)).count res ≤ 1 := List.nodup_iff_count.1 hnd res
    simp only [hD, hr, Bool.not_true, cond_false]
    rw [hr] at hok
    have hok2 : ok = ((o.2.2.2.map (·.1)).count res == 1) := by
      rw [hok]
      cases hy : ix (fun o : Ru => o.1 == res) 0 o.2.2.2 with
      | none =>
        have hz : (o.2.2.2.map (·.1)).count res = 0 := List.count_eq_zero.2 fun hm => by
          obtain ⟨q, hq, e⟩ := List.mem_map.1 hm
          have := ix_none hy q hq
          rw [e] at this
          simp at this
        rw [hz]; rfl
      | some m =>
        obtain ⟨_, q, hq, e⟩ := ix_some hy
        have : 0 < (o.2.2.2.map (·.1)).count res := List.count_pos_iff.2 (List.mem_map.2 ⟨q, List.mem_of_getElem? hq, eq_of_beq e⟩)
        have : (o.2.2.2.map (·.1)).count res = 1 := by omega
        rw [this]; rfl
    have := count_loop (k0 := k) K o.2.2.2 obj res 0 o.2.1 ok o.2.2.1 o.1 (eq_of_beq hp) hnd (small_all o hmem) hok2 k 0 (by have := small_all o hmem; omega)
    exact this
theorem law_rules (x0 : Int) (_ : (Lit.int .i64 x0).wf = true) (x1 : Int) (_ : (Lit.int .i64 x1).wf = true) : ∃ k, ∀ K : Bool → Option Out, f5 k K x0 x1 = K true := ⟨101, fun K => rules_law K (by omega) x0 x1⟩
end
end Go.Proofs.YtoijlllboghpcaaD
