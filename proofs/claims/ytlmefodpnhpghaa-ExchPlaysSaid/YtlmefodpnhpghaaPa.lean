/- What the functions of the exchanges compute, in plain words. -/
import Derived.Test.YtlmefodpnhpghaaD
import Derived.Test.YtlmefodpnhpghaaPL
namespace Go.Proofs.YtlmefodpnhpghaaD
open Go Go.Proofs.YtlmefodpnhpghaaS Go.Proofs
set_option linter.unusedVariables false
set_option linter.unusedSimpArgs false
section
variable {X : Type}
theorem alive_eq (n : Nat) (K : Bool → Option X) : f7 (n + 20) K = K true := by kernel_rfl
theorem same_eq {k : Nat} (K : Bool → Option X) (a b : List Int) (hk : a.length < k) (hl : a.length < 4611686018427387904) : f12 k K (by8 a) (by8 b) = K (decide (a = b)) := by
  unfold f12 f12_T
  by_cases h : a.length = b.length
  · have key := iterV_spec (T := f12_L1 k K) (fun i => (by8 a, by8 b, (i : Int))) (fun i => K (decide (a.drop i = b.drop i))) a.length (fun i rec hi hr => by
      have hb : i < b.length := by omega
      unfold f12_L1 f12_T1
      simp only [by8_length, by8_get, Int.toNat_natCast, List.getElem?_eq_getElem hi, List.getElem?_eq_getElem hb, Option.map_some, Option.bind_some, isI_int, toI_int, grd_true, dec0, decLt, hi, decide_true, cond_true, wrap64_succ (show i < 4611686018427387904 by omega), hr]
      conv => rhs; rw [List.drop_eq_getElem_cons hi, List.drop_eq_getElem_cons hb]
      by_cases e : a[i] = b[i]
      · rw [show (a[i] != b[i]) = false by simp [e]]
        simp only [cond_false, List.cons.injEq, e, true_and]
      · rw [show (a[i] != b[i]) = true by simp [e]]
        simp only [cond_true, List.cons.injEq, e, false_and, decide_false]) (fun rec => by
      unfold f12_L1 f12_T1
      simp only [by8_length, bif_dec]
      rw [if_neg (by omega)]
      simp [h]) k 0 (Nat.zero_le _) (by omega)
    simp only [by8_length, h] at key ⊢
    simpa using key
  · have : a ≠ b := fun e => h (by rw [e])
    have h' : ((a.length : Int) != (b.length : Int)) = true := by simp; omega
    simp only [by8_length, h', cond_true, this, decide_false]
theorem clone_eq {k : Nat} (K : List CV → Option X) (x : List CV) (h : x.length < 70368744177664) : f27 k K x = K x := by
  unfold f27
  rw [grd_dec (by omega)]
/-- A message that waits. -/
structure Ex where
  t : Int
  i : Int
  d : List Int
  a : Int
  w : Int
  l : Nat
  deriving DecidableEq, Inhabited
def Ex.en (x : Ex) : CV := .agg [.int .i64 x.t, .int .i64 x.i, .slc none (by8 x.d), .int .i64 x.a, .int .i64 x.w, .int .i64 x.l]
def row (ks : List Ex) : List CV := ks.map Ex.en
theorem row_length (ks : List Ex) : (row ks).length = ks.length := by simp [row]
theorem row_get (ks : List Ex) (i : Nat) : (row ks)[i]? = ks[i]?.map Ex.en := by simp [row]
theorem row_append (a b : List Ex) : row (a ++ b) = row a ++ row b := by simp [row]
theorem row_set (a : List Ex) (i : Nat) (x : Ex) : (row a).set i x.en = row (a.set i x) := by simp [row, List.map_set]
theorem eraseIdx_row : ∀ (ks : List Ex) (i : Nat), (row ks).eraseIdx i = row (ks.eraseIdx i)
  | [], _ => rfl
  | _ :: _, 0 => rfl
  | x :: l, i + 1 => congrArg (x.en :: ·) (eraseIdx_row l i)
theorem en_isA (x : Ex) : CV.isA 6 x.en = true := rfl
theorem en_0 (x : Ex) : CV.cellD 0 x.en = .int .i64 x.t := rfl
theorem en_1 (x : Ex) : CV.cellD 1 x.en = .int .i64 x.i := rfl
theorem en_2 (x : Ex) : CV.cellD 2 x.en = .slc none (by8 x.d) := rfl
theorem en_3 (x : Ex) : CV.cellD 3 x.en = .int .i64 x.a := rfl
theorem en_4 (x : Ex) : CV.cellD 4 x.en = .int .i64 x.w := rfl
theorem en_5 (x : Ex) : CV.cellD 5 x.en = .int .i64 x.l := rfl
theorem en_c0 (x : Ex) : CV.cell x.en 0 = some (.int .i64 x.t) := rfl
theorem en_c1 (x : Ex) : CV.cell x.en 1 = some (.int .i64 x.i) := rfl
theorem en_c2 (x : Ex) : CV.cell x.en 2 = some (.slc none (by8 x.d)) := rfl
theorem en_c3 (x : Ex) : CV.cell x.en 3 = some (.int .i64 x.a) := rfl
theorem en_c4 (x : Ex) : CV.cell x.en 4 = some (.int .i64 x.w) := rfl
theorem en_c5 (x : Ex) : CV.cell x.en 5 = some (.int .i64 x.l) := rfl
def is (a b : Int) (x : Ex) : Bool := x.t == a && x.i == b
theorem is_eq {k : Nat} (K : Bool → Option X) (x : Ex) (a b : Int) : f35 k K x.en a b = K (is a b x) := by
  unfold f35 f35_T is
  simp only [en_isA, en_0, en_1, en_2, en_3, en_4, en_5, isI_int, isL_slc, toI_int, grd_true]
  cases x.t == a <;> rfl
def ixI (o : Option Nat) : Int := match o with
  | some i => (i : Nat)
  | none => -1
theorem indexFunc_eq {k : Nat} (K : Int → Option X) (ks : List Ex) (a b : Int) (hk : ks.length < k) (hl : ks.length < 4611686018427387904) : f34 k K (row ks) a b = K (ixI (ks.findIdx? (is a b))) := by
  unfold f34 f34_T
  have key := iterV_spec (T := f34_L1 k K) (fun i => (row ks, a, b, ((ks.length : Nat) : Int), (i : Int))) (fun i => K (ixI (((ks.drop i).findIdx? (is a b)).map (i + ·)))) ks.length (fun i rec hi hr => by
    unfold f34_L1 f34_T1
    simp only [row_get, Int.toNat_natCast, List.getElem?_eq_getElem hi, Option.map_some, Option.bind_some, grd_true, dec0, decLt, hi, decide_true, cond_true, is_eq, wrap64_succ (show i < 4611686018427387904 by omega), hr]
    conv => rhs; rw [List.drop_eq_getElem_cons hi, List.findIdx?_cons]
    cases e : is a b ks[i] with
    | true => simp [ixI]
    | false =>
      simp only [cond_false, Bool.false_eq_true, if_false, Option.map_map]
      congr 2
      cases List.findIdx? (is a b) (List.drop (i + 1) ks) with
      | none => rfl
      | some j => simp; omega) (fun rec => by
    unfold f34_L1 f34_T1
    simp [ixI]) k 0 (Nat.zero_le _) (by omega)
  simp only [row_length]
  simpa using key
theorem tk (ks : List Ex) : List.take (0 + ks.length) (row ks) = row ks := by rw [Nat.zero_add, List.take_of_length_le (by simp [row])]
theorem index_eq {k : Nat} (K : Int × Nat × Int × List CV → Option X) (ks : List Ex) (a b now : Int) (hk : ks.length < k) (hl : ks.length < 4611686018427387904) : f30 k K a b ks.length now (row ks) = K (ixI (ks.findIdx? (is a b)), ks.length, now, row ks) := by
  unfold f30 f30_T
  have h1 : List.take ks.length (List.drop 0 (row ks)) = row ks := by rw [List.drop_zero, List.take_of_length_le (by simp [row])]
  rw [h1, indexFunc_eq _ _ _ _ hk hl, tk]
theorem del_eq {k : Nat} (K : Nat × List CV → Option X) (xs : List CV) (i : Nat) (hi : i < xs.length) : f31 k K xs.length (i : Int) ((i + 1 : Nat) : Int) xs = K (xs.length - 1, xs.eraseIdx i) := by
  unfold f31 f31_T
  have e0 : ((i : Int) == ((i + 1 : Nat) : Int)) = false := by simp; omega
  simp only [Int.toNat_natCast, Nat.zero_add, Nat.sub_zero, e0, cond_false]
  repeat (refine (grd_of ?_).trans ?_; · simp; try omega)
  congr 1
  refine Prod.ext ?_ ?_
  · simp; omega
  · simp only [List.length_take, List.length_drop, List.length_append]
    rw [List.eraseIdx_eq_take_drop_succ]
    rw [Nat.min_self, List.take_of_length_le (l := List.drop (i + 1) xs) (by simp)]
    exact take_del (by simp; omega)
theorem ix_any (ks : List Ex) (a b : Int) : decide (ixI (ks.findIdx? (is a b)) ≥ 0) = ks.any (is a b) := by
  cases h : ks.findIdx? (is a b) with
  | none =>
    have : ks.any (is a b) = false := by
      rw [List.any_eq_false]
      simpa using List.findIdx?_eq_none_iff.1 h
    rw [this]; rfl
  | some i =>
    obtain ⟨hi, hp⟩ := List.findIdx?_eq_some_iff_getElem.1 h
    have : ks.any (is a b) = true := List.any_eq_true.2 ⟨_, List.getElem_mem hi, hp.1⟩
    rw [this]; simp [ixI]
theorem has_eq {k : Nat} (K : Bool × Nat × Int × List CV → Option X) (ks : List Ex) (a b now : Int) (hk : ks.length < k) (hl : ks.length < 4611686018427387904) : f13 k K a b ks.length now (row ks) = K (ks.any (is a b), ks.length, now, row ks) := by
  unfold f13 f13_T
  rw [index_eq _ _ _ _ _ hk hl]
  simp only [ix_any, tk]
theorem len_eq {k : Nat} (K : Int × Nat × Int × List CV → Option X) (ks : List Ex) (now : Int) : f18 k K ks.length now (row ks) = K ((ks.length : Nat), ks.length, now, row ks) := by
  unfold f18 f18_T
  simp only [tk]
def stopP (ks : List Ex) (a b : Int) : List Ex := match ks.findIdx? (is a b) with
  | some i => ks.eraseIdx i
  | none => ks
theorem stop_eq {k : Nat} (K : Bool × Nat × Int × List CV → Option X) (ks : List Ex) (a b now : Int) (hk : ks.length < k) (hl : ks.length < 4611686018427387904) : f14 k K a b ks.length now (row ks) = K (ks.any (is a b), (stopP ks a b).length, now, row (stopP ks a b)) := by
  unfold f14 f14_T
  rw [index_eq _ _ _ _ _ hk hl, ← ix_any]
  unfold stopP
  cases hf : ks.findIdx? (is a b) with
  | none =>
    have : (decide (ixI none < 0)) = true := rfl
    simp only [this, cond_true, tk]
    rfl
  | some i =>
    obtain ⟨hi, hp⟩ := List.findIdx?_eq_some_iff_getElem.1 hf
    have : (decide (ixI (some i) < 0)) = false := decide_eq_false (by show ¬ (((i : Nat) : Int) < 0); omega)
    simp only [this, cond_false]
    have hd := del_eq (k := k) (fun u => K (true, u.1, now, List.take (0 + u.1) u.2)) (row ks) i (by simpa [row_length] using hi)
    rw [row_length] at hd
    show f31 k _ ks.length (i : Int) (IntKind.wrap .i64 ((i : Int) + 1)) (row ks) = _
    rw [wrap64_succ (by omega), hd, eraseIdx_row]
    have e6 : (ks.eraseIdx i).length = ks.length - 1 := by rw [List.length_eraseIdx, if_pos hi]
    rw [← e6]
    simp only [tk]
    simp [ixI]
/-- The first whose time is up, of the first ones. -/
def fU (es : List Ex) : Nat → Option Nat
  | 0 => none
  | i + 1 => match fU es i with
    | none => some i
    | some j => if (es.getD i default).a < (es.getD j default).a then some i else some j
theorem fU_spec (es : List Ex) : ∀ i, i ≤ es.length → (i = 0 ∧ fU es i = none) ∨ ∃ j, fU es i = some j ∧ j < i ∧ ∀ m, m < i → (es.getD j default).a ≤ (es.getD m default).a
  | 0, _ => .inl ⟨rfl, rfl⟩
  | i + 1, h => by
    right
    rcases fU_spec es i (by omega) with ⟨rfl, h1⟩ | ⟨j, h1, h2, h3⟩
    · refine ⟨0, by simp [fU], by omega, fun m hm => ?_⟩
      have : m = 0 := by omega
      subst this; exact Int.le_refl _
    · by_cases hc : (es.getD i default).a < (es.getD j default).a
      · refine ⟨i, by unfold fU; rw [h1]; simp only; rw [if_pos hc], by omega, fun m hm => ?_⟩
        rcases Nat.lt_or_ge m i with hl | hl
        · have := h3 m hl; omega
        · have : m = i := by omega
          subst this; exact Int.le_refl _
      · refine ⟨j, by unfold fU; rw [h1]; simp only; rw [if_neg hc], by omega, fun m hm => ?_⟩
        rcases Nat.lt_or_ge m i with hl | hl
        · exact h3 m hl
        · have : m = i := by omega
          subst this; omega
theorem first_eq {k : Nat} (K : Int × Nat × Int × List CV → Option X) (ks : List Ex) (now : Int) (hk : ks.length < k) (hl : ks.length < 4611686018427387904) : f28 k K ks.length now (row ks) = K (ixI (fU ks ks.length), ks.length, now, row ks) := by
  unfold f28 f28_T
  refine iterV_spec (T := f28_L1 k K) (fun i => (ixI (fU ks i), ks.length, ((ks.length : Nat) : Int), (i : Int), ks.length, now, row ks)) (fun i => K (ixI (fU ks ks.length), ks.length, now, row ks)) ks.length (fun i rec hi hr => ?_) (fun rec => ?_) k 0 (Nat.zero_le _) (by omega)
  · rw [← hr]
    unfold f28_L1 f28_T1
    simp only [f28_J1, row_get, Int.toNat_natCast, Nat.zero_add, List.getElem?_eq_getElem hi, Option.map_some, Option.bind_some, grd_true, dec0, decLt, hi, decide_true, cond_true, wrap64_succ (show i < 4611686018427387904 by omega), en_isA, en_0, en_1, en_2, en_3, en_4, en_5, isI_int, isL_slc, toI_int]
    rcases fU_spec ks i (by omega) with ⟨rfl, h1⟩ | ⟨j, h1, h2, h3⟩
    · have : fU ks 1 = some 0 := by simp [fU]
      rw [this, h1]
      rfl
    · have hj : j < ks.length := by omega
      have hd : decide (ixI (some j) < 0) = false := decide_eq_false (by show ¬ (((j : Nat) : Int) < 0); omega)
      have e : fU ks (i + 1) = if ks[i].a < ks[j].a then some i else some j := by
        show (match fU ks i with
          | none => some i
          | some j => if (ks.getD i default).a < (ks.getD j default).a then some i else some j) = _
        rw [h1]
        simp [List.getD_eq_getElem?_getD, List.getElem?_eq_getElem hi, List.getElem?_eq_getElem hj]
      rw [h1, e, hd]
      simp only [ixI, cond_false, dec0, decLt, hj, decide_true, grd_true, Int.toNat_natCast, row_get, List.getElem?_eq_getElem hj, Option.map_some, Option.bind_some, en_c3, isI_int, toI_int]
      by_cases hc : ks[i].a < ks[j].a
      · simp [hc, hj, grd_true]
      · simp [hc, hj, grd_true]
  · unfold f28_L1 f28_T1
    simp [List.take_of_length_le, row_length]
theorem next_eq {k : Nat} (K : Int × Bool × Nat × Int × List CV → Option X) (ks : List Ex) (now : Int) (hk : ks.length < k) (hl : ks.length < 4611686018427387904) : f19 k K ks.length now (row ks) = (match fU ks ks.length with
    | none => K (0, false, ks.length, now, row ks)
    | some i => K ((ks.getD i default).a, true, ks.length, now, row ks)) := by
  unfold f19 f19_T
  rw [first_eq _ _ _ hk hl]
  rcases fU_spec ks ks.length (Nat.le_refl _) with ⟨h0, h1⟩ | ⟨j, h1, h2, h3⟩
  · rw [h1]
    have : (decide (ixI none < 0)) = true := rfl
    simp only [this, cond_true, tk]
  · rw [h1]
    have hd : decide (ixI (some j) < 0) = false := decide_eq_false (by show ¬ (((j : Nat) : Int) < 0); omega)
    simp only [hd, cond_false]
    simp only [ixI, dec0, decLt, h2, decide_true, grd_true, Int.toNat_natCast, Nat.zero_add, row_get, List.getElem?_eq_getElem h2, Option.map_some, Option.bind_some, en_c3, isI_int, toI_int]
    rw [List.take_of_length_le (by simp [row])]
    simp [List.getD_eq_getElem?_getD, List.getElem?_eq_getElem h2, grd_true, h2]
structure Snt where
  t : Int
  i : Int
  d : List Int
  lost : Bool
  deriving DecidableEq, Inhabited
def Snt.en (x : Snt) : CV := .agg [.int .i64 x.t, .int .i64 x.i, .slc none (by8 x.d), .bool x.lost]
def srow (ks : List Snt) : List CV := ks.map Snt.en
theorem srow_length (ks : List Snt) : (srow ks).length = ks.length := by simp [srow]
theorem srow_get (ks : List Snt) (i : Nat) : (srow ks)[i]? = ks[i]?.map Snt.en := by simp [srow]
theorem srow_append (a b : List Snt) : srow (a ++ b) = srow a ++ srow b := by simp [srow]
/-- What an exchange is, at all times. -/
structure Good (x : Ex) : Prop where
  a0 : 0 ≤ x.a
  a1 : x.a ≤ 1099511627776
  w0 : 0 < x.w
  w1 : x.w * 2 ^ x.l ≤ 480
  l1 : x.l ≤ 4
  d1 : x.d.length ≤ 100000
def Goods (es : List Ex) : Prop := ∀ x ∈ es, Good x
def mx (n : Int) : Int := if 1099511627776 < n then 1099511627776 else n
theorem mx_if (n : Int) (inst : Decidable (1099511627776 < n)) : @ite Int (1099511627776 < n) inst 1099511627776 n = mx n := by unfold mx; congr
def upX (x : Ex) : Ex := ⟨x.t, x.i, x.d, mx (x.a + x.w * 2), x.w * 2, x.l - 1⟩
def upS (x : Ex) : Snt := ⟨x.t, x.i, x.d, x.l == 0⟩
def upE (es : List Ex) (i : Nat) : List Ex := if (es.getD i default).l = 0 then es.eraseIdx i else es.set i (upX (es.getD i default))
theorem Good.w2 {x : Ex} (h : Good x) : x.w ≤ 480 := by
  have h1 := h.w1
  have h0 := h.w0
  have : x.w * 1 ≤ x.w * 2 ^ x.l := Int.mul_le_mul_of_nonneg_left (by exact_mod_cast Nat.one_le_two_pow) (by omega)
  omega
theorem Good.up {x : Ex} (h : Good x) (hl : x.l ≠ 0) : Good (upX x) := by
  have h2 := h.w2
  refine ⟨?_, ?_, ?_, ?_, ?_, h.d1⟩
  · show 0 ≤ mx _; unfold mx; have := h.a0; have := h.w0; split <;> omega
  · show mx _ ≤ _; unfold mx; split <;> omega
  · show 0 < x.w * 2; have := h.w0; omega
  · show x.w * 2 * 2 ^ (x.l - 1) ≤ 480
    obtain ⟨l, hl'⟩ : ∃ l, x.l = l + 1 := ⟨x.l - 1, by omega⟩
    have h1 := h.w1
    rw [hl', Int.pow_succ] at h1
    rw [hl', Nat.add_sub_cancel]
    have : x.w * 2 * 2 ^ l = x.w * (2 ^ l * 2) := by rw [Int.mul_assoc, Int.mul_comm 2]
    omega
  · show x.l - 1 ≤ 4; have := h.l1; omega
theorem upE_good {es : List Ex} (h : Goods es) {i : Nat} (hi : i < es.length) : Goods (upE es i) := fun x hx => by
  unfold upE at hx
  have hg : es.getD i default = es[i] := by simp [List.getD_eq_getElem?_getD, List.getElem?_eq_getElem hi]
  rw [hg] at hx
  by_cases hl : es[i].l = 0
  · rw [if_pos hl] at hx; exact h x (List.mem_of_mem_eraseIdx hx)
  · rw [if_neg hl] at hx
    rcases List.mem_or_eq_of_mem_set hx with hx | rfl
    · exact h x hx
    · exact (h _ (List.getElem_mem hi)).up hl
def meas : List Ex → Nat
  | [] => 0
  | x :: l => x.l + 1 + meas l
theorem meas_erase : ∀ (es : List Ex) (i : Nat) (h : i < es.length), meas (es.eraseIdx i) + (es[i].l + 1) = meas es
  | x :: l, 0, h => by simp [meas]; omega
  | x :: l, i + 1, h => by
    have := meas_erase l i (by simpa using h)
    simp only [List.eraseIdx_cons_succ, meas, List.getElem_cons_succ]; omega
theorem meas_set : ∀ (es : List Ex) (i : Nat) (y : Ex) (h : i < es.length), meas (es.set i y) + es[i].l = meas es + y.l
  | x :: l, 0, y, h => by simp [meas]; omega
  | x :: l, i + 1, y, h => by
    have := meas_set l i y (by simpa using h)
    simp only [List.set_cons_succ, meas, List.getElem_cons_succ]; omega
theorem meas_up {es : List Ex} {i : Nat} (hi : i < es.length) : meas (upE es i) + 1 = meas es := by
  unfold upE
  have hg : es.getD i default = es[i] := by simp [List.getD_eq_getElem?_getD, List.getElem?_eq_getElem hi]
  rw [hg]
  by_cases hl : es[i].l = 0
  · rw [if_pos hl]; have := meas_erase es i hi; omega
  · rw [if_neg hl]; have := meas_set es i (upX es[i]) hi
    have e : (upX es[i]).l = es[i].l - 1 := rfl
    omega
theorem meas_len (es : List Ex) : es.length ≤ meas es := by
  induction es with
  | nil => exact Nat.le_refl _
  | cons x l ih => simp only [List.length_cons, meas]; omega
theorem setC (cs : List CV) (j : Nat) (c : CV) (h : j < cs.length) (K : CV → Option X) : setCell (.agg cs) j c K = K (.agg (cs.set j c)) := by
  show grd (Nat.blt j cs.length) _ = _
  rw [show Nat.blt j cs.length = true from Nat.ble_eq_true_of_le h]; rfl
theorem up_eq {k : Nat} (K : Int × Int × Nat × Bool × Nat × Int × List CV × List CV → Option X) (ks : List Ex) (now : Int) (i : Nat) (hi : i < ks.length) (hg : Goods ks) (hl : ks.length < 4611686018427387904) :
    f29 k K (i : Int) ks.length now (row ks) = K ((ks.getD i default).t, (ks.getD i default).i, (ks.getD i default).d.length, (ks.getD i default).l == 0, (upE ks i).length, now, row (upE ks i), by8 (ks.getD i default).d) := by
  have hgd : ks.getD i default = ks[i] := by simp [List.getD_eq_getElem?_getD, List.getElem?_eq_getElem hi]
  have hx := hg ks[i] (List.getElem_mem hi)
  unfold upE
  rw [hgd]
  generalize hxe : ks[i] = x at *
  have hget : (row ks)[i]? = some x.en := by rw [row_get, List.getElem?_eq_getElem hi, hxe]; rfl
  unfold f29 f29_T
  simp only [dec0, decLt, hi, decide_true, grd_true, Int.toNat_natCast, Nat.zero_add, hget, Option.bind_some, en_c0, en_c1, en_c2, en_c3, en_c4, en_c5, isI_int, isL_slc, toI_int, toL_slc]
  rw [clone_eq _ _ (by rw [by8_length]; have := hx.d1; omega)]
  have eb : List.take (by8 x.d).length (by8 x.d) = by8 x.d := List.take_of_length_le (Nat.le_refl _)
  by_cases h0 : x.l = 0
  · have h0' : (((x.l : Nat) : Int) == 0) = true := by simp [h0]
    have h0'' : (x.l == 0) = true := by simp [h0]
    rw [if_pos h0]
    simp only [h0', h0'', cond_true, by8_length] at eb ⊢
    have hd := del_eq (k := k) (fun u => K (x.t, x.i, x.d.length, true, u.1, now, List.take (0 + u.1) u.2, by8 x.d)) (row ks) i (by simpa [row_length] using hi)
    rw [row_length] at hd
    rw [wrap64_succ (by omega), eb]
    simp only [Nat.zero_add] at hd
    rw [hd, eraseIdx_row]
    have e6 : (ks.eraseIdx i).length = ks.length - 1 := by rw [List.length_eraseIdx, if_pos hi]
    rw [← e6, List.take_of_length_le (by rw [row_length]; exact Nat.le_refl _)]
  · have h0' : (((x.l : Nat) : Int) == 0) = false := by simp; omega
    have h0'' : (x.l == 0) = false := by simpa using h0
    rw [if_neg h0]
    have hrl : i < (row ks).length := by simpa [row_length] using hi
    have hset : ∀ y : CV, ((row ks).set i y)[i]? = some y := fun y => by simp [List.getElem?_set, hrl]
    have hss : ∀ y z : CV, ((row ks).set i y).set i z = (row ks).set i z := fun y z => by simp
    have hw := hx.w2
    have hw0 := hx.w0
    have ha0 := hx.a0
    have ha1 := hx.a1
    have hl1 := hx.l1
    simp only [h0', h0'', cond_false, by8_length] at eb ⊢
    rw [show x.en = .agg [.int .i64 x.t, .int .i64 x.i, .slc none (by8 x.d), .int .i64 x.a, .int .i64 x.w, .int .i64 x.l] from rfl, setC _ _ _ (by simp)]
    simp only [hset, hss, Option.bind_some]
    simp only [List.set_cons_succ, List.set_cons_zero, cell_agg, List.getElem?_cons_succ, List.getElem?_cons_zero, Option.bind_some, isI_int, toI_int, grd_true]
    rw [setC _ _ _ (by simp)]
    simp only [List.set_cons_succ, List.set_cons_zero, cell_agg, List.getElem?_cons_succ, List.getElem?_cons_zero, Option.bind_some, isI_int, toI_int, grd_true]
    rw [setC _ _ _ (by simp)]
    simp only [List.set_cons_succ, List.set_cons_zero]
    have e1 : IntKind.wrap .i64 (x.w * 2) = x.w * 2 := wrap64 (by omega) (by omega)
    have e2 : IntKind.wrap .i64 (((x.l : Nat) : Int) - 1) = ((x.l - 1 : Nat) : Int) := by rw [wrap64 (by omega) (by omega)]; omega
    have e3 : IntKind.wrap .i64 (x.a + x.w * 2) = x.a + x.w * 2 := wrap64 (by omega) (by omega)
    simp only [e1, e2, e3, eb, mx_if]
    have e4 : CV.agg [.int .i64 x.t, .int .i64 x.i, .slc none (by8 x.d), .int .i64 (mx (x.a + x.w * 2)), .int .i64 (x.w * 2), .int .i64 ((x.l - 1 : Nat) : Int)] = (upX x).en := rfl
    rw [e4, row_set, List.length_set, List.take_of_length_le (by rw [row_length, List.length_set]; exact Nat.le_refl _)]
def clk (now tnow : Int) : Int := if 1099511627776 < (if tnow > now then tnow else now) then 1099511627776 else (if tnow > now then tnow else now)
theorem clk_eq {k : Nat} (K : Nat × Int × List CV → Option X) (ks : List Ex) (now tnow : Int) : f26 k K now ks.length tnow (row ks) = K (ks.length, clk now tnow, row ks) := by
  unfold f26 f26_T
  rw [tk]; rfl
def passP : Nat → Int → List Ex → List Snt × List Ex
  | 0, _, es => ([], es)
  | n + 1, now, es => match fU es es.length with
    | none => ([], es)
    | some i => if (es.getD i default).a > now then ([], es) else (upS (es.getD i default) :: (passP n now (upE es i)).1, (passP n now (upE es i)).2)
theorem pass_loop {k0 : Nat} (K : Nat × Nat × Int × List CV × List CV → Option X) (now : Int) : ∀ (n k : Nat) (es : List Ex) (acc : List Snt), meas es ≤ n → n < k → n < k0 → Goods es → acc.length + n < 1000000 → 
    iterV (f11_L1 k0 K) k (acc.length, srow acc, es.length, now, row es) = K ((acc ++ (passP n now es).1).length, (passP n now es).2.length, now, row (passP n now es).2, srow (acc ++ (passP n now es).1))
  | n, 0, es, acc, _, hk, _, _, _ => absurd hk (Nat.not_lt_zero _)
  | n, k + 1, es, acc, hm, hk, hk0, hg, hacc => by
    have hle := meas_len es
    show f11_L1 k0 K (iterV (f11_L1 k0 K) k) _ = _
    generalize hR : iterV (f11_L1 k0 K) k = R
    unfold f11_L1 f11_T1
    simp only
    rw [first_eq _ _ _ (by omega) (by omega)]
    have et : List.take acc.length (srow acc) = srow acc := List.take_of_length_le (by simp [srow])
    rcases fU_spec es es.length (Nat.le_refl _) with ⟨h0, h1⟩ | ⟨j, h1, h2, h3⟩
    · rw [h1]
      have : (decide (ixI none < 0)) = true := rfl
      simp only [this, cond_true, tk, Nat.zero_add, et]
      have hp : passP n now es = ([], es) := by
        cases n with
        | zero => rfl
        | succ n => unfold passP; rw [h1]
      rw [hp, List.append_nil, List.take_of_length_le (by simp [row])]
    · rw [h1, show ixI (some j) = (j : Int) from rfl]
      have hd : decide ((j : Int) < 0) = false := decide_eq_false (by omega)
      have hgd : es.getD j default = es[j] := by simp [List.getD_eq_getElem?_getD, List.getElem?_eq_getElem h2]
      obtain ⟨n, rfl⟩ : ∃ n', n = n' + 1 := ⟨n - 1, by omega⟩
      have hp : passP (n + 1) now es = if (es.getD j default).a > now then ([], es) else (upS (es.getD j default) :: (passP n now (upE es j)).1, (passP n now (upE es j)).2) := by
        show (match fU es es.length with
          | none => ([], es)
          | some i => if (es.getD i default).a > now then ([], es) else (upS (es.getD i default) :: (passP n now (upE es i)).1, (passP n now (upE es i)).2)) = _
        rw [h1]
      rw [hp, hgd]
      simp only [hd, cond_false, dec0, decLt, h2, decide_true, grd_true, Int.toNat_natCast, Nat.zero_add, row_get, List.getElem?_eq_getElem h2, Option.map_some, Option.bind_some, en_c3, isI_int, toI_int, et]
      by_cases hc : es[j].a > now
      · simp only [hc, decide_true, cond_true, if_true, List.append_nil]
        rw [List.take_of_length_le (by simp [row])]
      · simp only [hc, decide_false, cond_false, if_false]
        rw [up_eq _ _ _ _ h2 hg (by omega), hgd]
        have e0 : List.take es[j].d.length (List.drop 0 (by8 es[j].d)) = by8 es[j].d := by rw [List.drop_zero, List.take_of_length_le (by rw [by8_length]; exact Nat.le_refl _)]
        have e1 : List.take 1 (List.drop 0 [CV.agg [CV.int .i64 es[j].t, CV.int .i64 es[j].i, CV.slc none (by8 es[j].d), CV.bool (es[j].l == 0)]]) = srow [upS es[j]] := rfl
        have e2 : (srow [upS es[j]]).length = 1 := rfl
        simp only [e0, e1, e2, ← srow_append]
        have hm2 := meas_up h2
        rw [grd_dec (show (acc.length + 1) * 48 ≤ 140737488355328 by omega)]
        have ih := pass_loop (k0 := k0) K now n k (upE es j) (acc ++ [upS es[j]]) (by omega) (by omega) (by omega) (upE_good hg h2) (by rw [List.length_append, List.length_singleton]; omega)
        rw [List.append_assoc, hR] at ih
        simpa using ih
theorem pass_eq {k : Nat} (K : Nat × Nat × Int × List CV × List CV → Option X) (es : List Ex) (now tnow : Int) (n : Nat) (hn : meas es ≤ n) (hk : n < k) (hn2 : n < 100000) (hg : Goods es) :
    f11 k K now es.length tnow (row es) = K ((passP n (clk now tnow) es).1.length, (passP n (clk now tnow) es).2.length, clk now tnow, row (passP n (clk now tnow) es).2, srow (passP n (clk now tnow) es).1) := by
  unfold f11 f11_T
  rw [clk_eq]
  have := pass_loop (k0 := k) K (clk now tnow) n k es [] hn hk hk hg (by simp; omega)
  rw [show srow [] = [] from rfl] at this
  simpa using this
def wt (r : Int) : Int := IntKind.wrap .i64 (20 + Int.tmod (if 0 > r then 0 else r) 11)
theorem wt_bd (r : Int) : 20 ≤ wt r ∧ wt r ≤ 30 := by
  have h0 : 0 ≤ (if 0 > r then 0 else r) := by split <;> omega
  have h1 := Int.tmod_nonneg 11 h0
  have h2 := Int.tmod_lt_of_pos (if 0 > r then 0 else r) (show (0 : Int) < 11 by omega)
  unfold wt
  rw [wrap64 (by omega) (by omega)]
  omega
def startP (es : List Ex) (a b : Int) (d : List Int) (now r : Int) : Int × List Ex :=
  if es.any (is a b) then (5, es) else if es.length ≥ 4 then (6, es) else (0, es ++ [⟨a, b, d, mx (now + wt r), wt r, 4⟩])
theorem start_eq {k : Nat} (K : Int × Nat × Int × List CV → Option X) (es : List Ex) (a b : Int) (d : List Int) (now r tnow : Int) (hk : es.length < k) (hl : es.length < 1000000) (hd : d.length ≤ 100000) (h0 : 0 ≤ clk now tnow) :
    f10 k K a b (by8 d) now r es.length tnow (row es) = K ((startP es a b d (clk now tnow) r).1, (startP es a b d (clk now tnow) r).2.length, clk now tnow, row (startP es a b d (clk now tnow) r).2) := by
  unfold f10 f10_T startP
  rw [clk_eq]
  simp only
  rw [has_eq _ _ _ _ _ hk (by omega)]
  have hc1 : clk now tnow ≤ 1099511627776 := by unfold clk; split <;> omega
  generalize clk now tnow = c at *
  cases ha : es.any (is a b) with
  | true => simp only [cond_true, tk]; rfl
  | false =>
    simp only [cond_false, Bool.false_eq_true, if_false]
    by_cases h4 : es.length ≥ 4
    · rw [if_pos h4, show decide (((es.length : Nat) : Int) ≥ 4) = true by simp; omega]
      simp only [cond_true, tk]
    · rw [if_neg h4, show decide (((es.length : Nat) : Int) ≥ 4) = false by simp; omega]
      simp only [cond_false]
      rw [clone_eq _ _ (by rw [by8_length]; omega)]
      have hw := wt_bd r
      have e0 : List.take (by8 d).length (List.drop 0 (by8 d)) = by8 d := by rw [List.drop_zero, List.take_of_length_le (Nat.le_refl _)]
      have ew : IntKind.wrap .i64 (20 + Int.tmod (if 0 > r then 0 else r) 11) = wt r := rfl
      have e3 : IntKind.wrap .i64 (c + wt r) = c + wt r := wrap64 (by omega) (by omega)
      have e1 : List.take 1 (List.drop 0 [CV.agg [CV.int .i64 a, CV.int .i64 b, CV.slc none (by8 d), CV.int .i64 (if 1099511627776 < c + wt r then 1099511627776 else c + wt r), CV.int .i64 (wt r), CV.int .i64 4]]) = row [⟨a, b, d, mx (c + wt r), wt r, 4⟩] := rfl
      have e2 : (row [(⟨a, b, d, mx (c + wt r), wt r, 4⟩ : Ex)]).length = 1 := rfl
      have e4 : List.take es.length (row es) = row es := List.take_of_length_le (by simp [row])
      simp only [ew, e3, e0, e1, e2, e4, ← row_append]
      rw [grd_dec (by omega)]
      have e5 : es.length + 1 = (es ++ [(⟨a, b, d, mx (c + wt r), wt r, 4⟩ : Ex)]).length := by simp
      rw [e5, tk]
theorem new_eq {k : Nat} (K : List CV → Option X) : f8 k K = K (row []) := rfl
theorem start_good {es : List Ex} (h : Goods es) (a b : Int) (d : List Int) (now r : Int) (hd : d.length ≤ 100000) (h0 : 0 ≤ now) (h1 : now ≤ 1099511627776) : Goods (startP es a b d now r).2 := fun x hx => by
  unfold startP at hx
  split at hx
  · exact h x hx
  · split at hx
    · exact h x hx
    · rcases List.mem_append.1 hx with hx | hx
      · exact h x hx
      · rw [List.mem_singleton] at hx
        subst hx
        have hw := wt_bd r
        refine ⟨?_, ?_, by show 0 < wt r; omega, by show wt r * 2 ^ 4 ≤ 480; omega, Nat.le_refl _, hd⟩
        · show 0 ≤ mx _; unfold mx; split <;> omega
        · show mx _ ≤ _; unfold mx; split <;> omega
end
end Go.Proofs.YtlmefodpnhpghaaD
