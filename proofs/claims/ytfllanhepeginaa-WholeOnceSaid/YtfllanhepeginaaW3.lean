/- Plain texts joined (by cut.py). -/
import Derived.Test.YtfllanhepeginaaD
import Derived.Test.YtfllanhepeginaaPM
namespace Go.Proofs.YtfllanhepeginaaD
open Go Go.Proofs.YtfllanhepeginaaS Go.Proofs
set_option linter.unusedVariables false
set_option linter.unusedSimpArgs false
namespace Exc
section
variable {X : Type}
theorem same_eq {k : Nat} (K : Bool → Option X) (a b : List Int) (hk : a.length < k) (hl : a.length < 4611686018427387904) : f13 k K (by8 a) (by8 b) = K (decide (a = b)) := by
  unfold f13 f13_A f13_T
  try dsimp only
  by_cases h : a.length = b.length
  · have key := iterV_spec (T := f13_L1 k K) (fun i => (by8 a, by8 b, (i : Int))) (fun i => K (decide (a.drop i = b.drop i))) a.length (fun i rec hi hr => by
      have hb : i < b.length := by omega
      unfold f13_L1 f13_T1
      simp only [by8_length, by8_get, Int.toNat_natCast, List.getElem?_eq_getElem hi, List.getElem?_eq_getElem hb, Option.map_some, Option.bind_some, isI_int, toI_int, grd_true, dec0, decLt, hi, decide_true, cond_true, wrap64_succ (show i < 4611686018427387904 by omega), hr]
      conv => rhs; rw [List.drop_eq_getElem_cons hi, List.drop_eq_getElem_cons hb]
      by_cases e : a[i] = b[i]
      · rw [show (a[i] != b[i]) = false by simp [e]]
        simp only [cond_false, List.cons.injEq, e, true_and]
      · rw [show (a[i] != b[i]) = true by simp [e]]
        simp only [cond_true, List.cons.injEq, e, false_and, decide_false]) (fun rec => by
      unfold f13_L1 f13_T1
      simp only [by8_length, bif_dec]
      rw [if_neg (by omega)]
      simp [h]) k 0 (Nat.zero_le _) (by omega)
    simp only [by8_length, h] at key ⊢
    simpa using key
  · have : a ≠ b := fun e => h (by rw [e])
    have h' : ((a.length : Int) != (b.length : Int)) = true := by simp; omega
    simp only [by8_length, h', cond_true, this, decide_false]
theorem clone_eq {k : Nat} (K : List CV → Option X) (x : List CV) (h : x.length < 70368744177664) : f29 k K x = K x := by
  unfold f29
  rw [grd_dec (by omega)]
/-- A message that waits. -/
structure Ex where
  t : Int
  i : Int
  d : List Int
  a : Int
  w : Int
  l : Nat
  deriving DecidableEq, Inhabited
def Ex.en (x : Ex) : CV := .agg [.int .i64 x.t, .int .i64 x.i, .slc none (by8 x.d), .int .i64 x.a, .int .i64 x.w, .int .i64 x.l]
def row (ks : List Ex) : List CV := ks.map Ex.en
theorem row_length (ks : List Ex) : (row ks).length = ks.length := by simp [row]
theorem row_get (ks : List Ex) (i : Nat) : (row ks)[i]? = ks[i]?.map Ex.en := by simp [row]
theorem row_append (a b : List Ex) : row (a ++ b) = row a ++ row b := by simp [row]
theorem row_set (a : List Ex) (i : Nat) (x : Ex) : (row a).set i x.en = row (a.set i x) := by simp [row, List.map_set]
theorem eraseIdx_row : ∀ (ks : List Ex) (i : Nat), (row ks).eraseIdx i = row (ks.eraseIdx i)
  | [], _ => rfl
  | _ :: _, 0 => rfl
  | x :: l, i + 1 => congrArg (x.en :: ·) (eraseIdx_row l i)
theorem en_isA (x : Ex) : CV.isA 6 x.en = true := rfl
theorem en_0 (x : Ex) : CV.cellD 0 x.en = .int .i64 x.t := rfl
theorem en_1 (x : Ex) : CV.cellD 1 x.en = .int .i64 x.i := rfl
theorem en_2 (x : Ex) : CV.cellD 2 x.en = .slc none (by8 x.d) := rfl
theorem en_3 (x : Ex) : CV.cellD 3 x.en = .int .i64 x.a := rfl
theorem en_4 (x : Ex) : CV.cellD 4 x.en = .int .i64 x.w := rfl
theorem en_5 (x : Ex) : CV.cellD 5 x.en = .int .i64 x.l := rfl
theorem en_c0 (x : Ex) : CV.cell x.en 0 = some (.int .i64 x.t) := rfl
theorem en_c1 (x : Ex) : CV.cell x.en 1 = some (.int .i64 x.i) := rfl
theorem en_c2 (x : Ex) : CV.cell x.en 2 = some (.slc none (by8 x.d)) := rfl
theorem en_c3 (x : Ex) : CV.cell x.en 3 = some (.int .i64 x.a) := rfl
theorem en_c4 (x : Ex) : CV.cell x.en 4 = some (.int .i64 x.w) := rfl
theorem en_c5 (x : Ex) : CV.cell x.en 5 = some (.int .i64 x.l) := rfl
def is (a b : Int) (x : Ex) : Bool := x.t == a && x.i == b
theorem is_eq {k : Nat} (K : Bool → Option X) (x : Ex) (a b : Int) : f51 k K x.en a b = K (is a b x) := by
  unfold f51 f51_A f51_T is
  try dsimp only
  simp only [en_isA, en_0, en_1, en_2, en_3, en_4, en_5, isI_int, isL_slc, toI_int, grd_true]
  cases x.t == a <;> rfl
def ixI (o : Option Nat) : Int := match o with
  | some i => (i : Nat)
  | none => -1
theorem indexFunc_eq {k : Nat} (K : Int → Option X) (ks : List Ex) (a b : Int) (hk : ks.length < k) (hl : ks.length < 4611686018427387904) : f50 k K (row ks) a b = K (ixI (ks.findIdx? (is a b))) := by
  unfold f50 f50_A f50_T
  try dsimp only
  have key := iterV_spec (T := f50_L1 (fun X => @f51 X k) k K) (fun i => (row ks, a, b, ((ks.length : Nat) : Int), (i : Int))) (fun i => K (ixI (((ks.drop i).findIdx? (is a b)).map (i + ·)))) ks.length (fun i rec hi hr => by
    unfold f50_L1 f50_T1
    simp only [row_get, Int.toNat_natCast, List.getElem?_eq_getElem hi, Option.map_some, Option.bind_some, grd_true, dec0, decLt, hi, decide_true, cond_true, is_eq, wrap64_succ (show i < 4611686018427387904 by omega), hr]
    conv => rhs; rw [List.drop_eq_getElem_cons hi, List.findIdx?_cons]
    cases e : is a b ks[i] with
    | true => simp [ixI]
    | false =>
      simp only [cond_false, Bool.false_eq_true, if_false, Option.map_map]
      congr 2
      cases List.findIdx? (is a b) (List.drop (i + 1) ks) with
      | none => rfl
      | some j => simp; omega) (fun rec => by
    unfold f50_L1 f50_T1
    simp [ixI]) k 0 (Nat.zero_le _) (by omega)
  simp only [row_length]
  simpa using key
theorem tk (ks : List Ex) : List.take (0 + ks.length) (row ks) = row ks := by rw [Nat.zero_add, List.take_of_length_le (by simp [row])]
theorem index_eq {k : Nat} (K : Int × Nat × Int × List CV → Option X) (ks : List Ex) (a b now : Int) (hk : ks.length < k) (hl : ks.length < 4611686018427387904) : f41 k K a b ks.length now (row ks) = K (ixI (ks.findIdx? (is a b)), ks.length, now, row ks) := by
  unfold f41 f41_A f41_T
  try dsimp only
  have h1 : List.take ks.length (List.drop 0 (row ks)) = row ks := by rw [List.drop_zero, List.take_of_length_le (by simp [row])]
  rw [h1, indexFunc_eq _ _ _ _ hk hl, tk]
theorem del_eq {k : Nat} (K : Nat × List CV → Option X) (xs : List CV) (i : Nat) (hi : i < xs.length) : f42 k K xs.length (i : Int) ((i + 1 : Nat) : Int) xs = K (xs.length - 1, xs.eraseIdx i) := by
  unfold f42 f42_A f42_T
  try dsimp only
  have e0 : ((i : Int) == ((i + 1 : Nat) : Int)) = false := by simp; omega
  simp only [Int.toNat_natCast, Nat.zero_add, Nat.sub_zero, e0, cond_false]
  repeat (refine (grd_of ?_).trans ?_; · simp; try omega)
  refine (bifT (decide_eq_true (by omega))).trans ?_
  repeat (refine (grd_of ?_).trans ?_; · simp; try omega)
  congr 1
  refine Prod.ext ?_ ?_
  · simp; omega
  · simp only [List.length_take, List.length_drop, List.length_append]
    rw [List.eraseIdx_eq_take_drop_succ]
    rw [Nat.min_self, List.take_of_length_le (l := List.drop (i + 1) xs) (by simp)]
    exact take_del (by simp; omega)
theorem ix_any (ks : List Ex) (a b : Int) : decide (ixI (ks.findIdx? (is a b)) ≥ 0) = ks.any (is a b) := by
  cases h : ks.findIdx? (is a b) with
  | none =>
    have : ks.any (is a b) = false := by
      rw [List.any_eq_false]
      simpa using List.findIdx?_eq_none_iff.1 h
    rw [this]; rfl
  | some i =>
    obtain ⟨hi, hp⟩ := List.findIdx?_eq_some_iff_getElem.1 h
    have : ks.any (is a b) = true := List.any_eq_true.2 ⟨_, List.getElem_mem hi, hp.1⟩
    rw [this]; simp [ixI]
theorem has_eq {k : Nat} (K : Bool × Nat × Int × List CV → Option X) (ks : List Ex) (a b now : Int) (hk : ks.length < k) (hl : ks.length < 4611686018427387904) : f28 k K a b ks.length now (row ks) = K (ks.any (is a b), ks.length, now, row ks) := by
  unfold f28 f28_A f28_T
  try dsimp only
  rw [index_eq _ _ _ _ _ hk hl]
  simp only [ix_any, tk]
theorem len_eq {k : Nat} (K : Int × Nat × Int × List CV → Option X) (ks : List Ex) (now : Int) : f19 k K ks.length now (row ks) = K ((ks.length : Nat), ks.length, now, row ks) := by
  unfold f19 f19_A f19_T
  try dsimp only
  simp only [tk]
def stopP (ks : List Ex) (a b : Int) : List Ex := match ks.findIdx? (is a b) with
  | some i => ks.eraseIdx i
  | none => ks
theorem stop_eq {k : Nat} (K : Bool × Nat × Int × List CV → Option X) (ks : List Ex) (a b now : Int) (hk : ks.length < k) (hl : ks.length < 4611686018427387904) : f18 k K a b ks.length now (row ks) = K (ks.any (is a b), (stopP ks a b).length, now, row (stopP ks a b)) := by
  unfold f18 f18_A f18_T
  try dsimp only
  rw [index_eq _ _ _ _ _ hk hl, ← ix_any]
  unfold stopP
  cases hf : ks.findIdx? (is a b) with
  | none =>
    have : (decide (ixI none < 0)) = true := rfl
    simp only [this, cond_true, tk]
    rfl
  | some i =>
    obtain ⟨hi, hp⟩ := List.findIdx?_eq_some_iff_getElem.1 hf
    have : (decide (ixI (some i) < 0)) = false := decide_eq_false (by show ¬ (((i : Nat) : Int) < 0); omega)
    simp only [this, cond_false]
    have hd := del_eq (k := k) (fun u => K (true, u.1, now, List.take (0 + u.1) u.2)) (row ks) i (by simpa [row_length] using hi)
    rw [row_length] at hd
    show f42 k _ ks.length (i : Int) (IntKind.wrap .i64 ((i : Int) + 1)) (row ks) = _
    rw [wrap64_succ (by omega), hd, eraseIdx_row]
    have e6 : (ks.eraseIdx i).length = ks.length - 1 := by rw [List.length_eraseIdx, if_pos hi]
    rw [← e6]
    simp only [tk]
    simp [ixI]
/-- The first whose time is up, of the first ones. -/
def fU (es : List Ex) : Nat → Option Nat
  | 0 => none
  | i + 1 => match fU es i with
    | none => some i
    | some j => if (es.getD i default).a < (es.getD j default).a then some i else some j
theorem fU_spec (es : List Ex) : ∀ i, i ≤ es.length → (i = 0 ∧ fU es i = none) ∨ ∃ j, fU es i = some j ∧ j < i ∧ ∀ m, m < i → (es.getD j default).a ≤ (es.getD m default).a
  | 0, _ => .inl ⟨rfl, rfl⟩
  | i + 1, h => by
    right
    rcases fU_spec es i (by omega) with ⟨rfl, h1⟩ | ⟨j, h1, h2, h3⟩
    · refine ⟨0, by simp [fU], by omega, fun m hm => ?_⟩
      have : m = 0 := by omega
      subst this; exact Int.le_refl _
    · by_cases hc : (es.getD i default).a < (es.getD j default).a
      · refine ⟨i, by unfold fU; rw [h1]; simp only; rw [if_pos hc], by omega, fun m hm => ?_⟩
        rcases Nat.lt_or_ge m i with hl | hl
        · have := h3 m hl; omega
        · have : m = i := by omega
          subst this; exact Int.le_refl _
      · refine ⟨j, by unfold fU; rw [h1]; simp only; rw [if_neg hc], by omega, fun m hm => ?_⟩
        rcases Nat.lt_or_ge m i with hl | hl
        · exact h3 m hl
        · have : m = i := by omega
          subst this; omega
theorem first_eq {k : Nat} (K : Int × Nat × Int × List CV → Option X) (ks : List Ex) (now : Int) (hk : ks.length < k) (hl : ks.length < 4611686018427387904) : f30 k K ks.length now (row ks) = K (ixI (fU ks ks.length), ks.length, now, row ks) := by
  unfold f30 f30_A f30_T
  try dsimp only
  refine iterV_spec (T := f30_L1 k K) (fun i => (ixI (fU ks i), ks.length, ((ks.length : Nat) : Int), (i : Int), ks.length, now, row ks)) (fun i => K (ixI (fU ks ks.length), ks.length, now, row ks)) ks.length (fun i rec hi hr => ?_) (fun rec => ?_) k 0 (Nat.zero_le _) (by omega)
  · rw [← hr]
    unfold f30_L1 f30_T1
    simp only [f30_J1, row_get, Int.toNat_natCast, Nat.zero_add, List.getElem?_eq_getElem hi, Option.map_some, Option.bind_some, grd_true, dec0, decLt, hi, decide_true, cond_true, wrap64_succ (show i < 4611686018427387904 by omega), en_isA, en_0, en_1, en_2, en_3, en_4, en_5, isI_int, isL_slc, toI_int]
    rcases fU_spec ks i (by omega) with ⟨rfl, h1⟩ | ⟨j, h1, h2, h3⟩
    · have : fU ks 1 = some 0 := by simp [fU]
      rw [this, h1]
      rfl
    · have hj : j < ks.length := by omega
      have hd : decide (ixI (some j) < 0) = false := decide_eq_false (by show ¬ (((j : Nat) : Int) < 0); omega)
      have e : fU ks (i + 1) = if ks[i].a < ks[j].a then some i else some j := by
        show (match fU ks i with
          | none => some i
          | some j => if (ks.getD i default).a < (ks.getD j default).a then some i else some j) = _
        rw [h1]
        simp [List.getD_eq_getElem?_getD, List.getElem?_eq_getElem hi, List.getElem?_eq_getElem hj]
      rw [h1, e, hd]
      simp only [ixI, cond_false, dec0, decLt, hj, decide_true, grd_true, Int.toNat_natCast, row_get, List.getElem?_eq_getElem hj, Option.map_some, Option.bind_some, en_c3, isI_int, toI_int]
      by_cases hc : ks[i].a < ks[j].a
      · simp [hc, hj, grd_true]
      · simp [hc, hj, grd_true]
  · unfold f30_L1 f30_T1
    simp [List.take_of_length_le, row_length]
theorem next_eq {k : Nat} (K : Int × Bool × Nat × Int × List CV → Option X) (ks : List Ex) (now : Int) (hk : ks.length < k) (hl : ks.length < 4611686018427387904) : f11 k K ks.length now (row ks) = (match fU ks ks.length with
    | none => K (0, false, ks.length, now, row ks)
    | some i => K ((ks.getD i default).a, true, ks.length, now, row ks)) := by
  unfold f11 f11_A f11_T
  try dsimp only
  rw [first_eq _ _ _ hk hl]
  rcases fU_spec ks ks.length (Nat.le_refl _) with ⟨h0, h1⟩ | ⟨j, h1, h2, h3⟩
  · rw [h1]
    have : (decide (ixI none < 0)) = true := rfl
    simp only [this, cond_true, tk]
  · rw [h1]
    have hd : decide (ixI (some j) < 0) = false := decide_eq_false (by show ¬ (((j : Nat) : Int) < 0); omega)
    simp only [hd, cond_false]
    simp only [ixI, dec0, decLt, h2, decide_true, grd_true, Int.toNat_natCast, Nat.zero_add, row_get, List.getElem?_eq_getElem h2, Option.map_some, Option.bind_some, en_c3, isI_int, toI_int]
    rw [List.take_of_length_le (by simp [row])]
    simp [List.getD_eq_getElem?_getD, List.getElem?_eq_getElem h2, grd_true, h2]
structure Snt where
  t : Int
  i : Int
  d : List Int
  lost : Bool
  deriving DecidableEq, Inhabited
def Snt.en (x : Snt) : CV := .agg [.int .i64 x.t, .int .i64 x.i, .slc none (by8 x.d), .bool x.lost]
def srow (ks : List Snt) : List CV := ks.map Snt.en
theorem srow_length (ks : List Snt) : (srow ks).length = ks.length := by simp [srow]
theorem srow_get (ks : List Snt) (i : Nat) : (srow ks)[i]? = ks[i]?.map Snt.en := by simp [srow]
theorem srow_append (a b : List Snt) : srow (a ++ b) = srow a ++ srow b := by simp [srow]
/-- What an exchange is, at all times. -/
structure Good (x : Ex) : Prop where
  a0 : 0 ≤ x.a
  a1 : x.a ≤ 1099511627776
  w0 : 0 < x.w
  w1 : x.w * 2 ^ x.l ≤ 480
  l1 : x.l ≤ 4
  d1 : x.d.length ≤ 100000
def Goods (es : List Ex) : Prop := ∀ x ∈ es, Good x
def mx (n : Int) : Int := if 1099511627776 < n then 1099511627776 else n
theorem mx_if (n : Int) (inst : Decidable (1099511627776 < n)) : @ite Int (1099511627776 < n) inst 1099511627776 n = mx n := by unfold mx; congr
def upX (x : Ex) : Ex := ⟨x.t, x.i, x.d, mx (x.a + x.w * 2), x.w * 2, x.l - 1⟩
def upS (x : Ex) : Snt := ⟨x.t, x.i, x.d, x.l == 0⟩
def upE (es : List Ex) (i : Nat) : List Ex := if (es.getD i default).l = 0 then es.eraseIdx i else es.set i (upX (es.getD i default))
theorem Good.w2 {x : Ex} (h : Good x) : x.w ≤ 480 := by
  have h1 := h.w1
  have h0 := h.w0
  have : x.w * 1 ≤ x.w * 2 ^ x.l := Int.mul_le_mul_of_nonneg_left (by exact_mod_cast Nat.one_le_two_pow) (by omega)
  omega
theorem Good.up {x : Ex} (h : Good x) (hl : x.l ≠ 0) : Good (upX x) := by
  have h2 := h.w2
  refine ⟨?_, ?_, ?_, ?_, ?_, h.d1⟩
  · show 0 ≤ mx _; unfold mx; have := h.a0; have := h.w0; split <;> omega
  · show mx _ ≤ _; unfold mx; split <;> omega
  · show 0 < x.w * 2; have := h.w0; omega
  · show x.w * 2 * 2 ^ (x.l - 1) ≤ 480
    obtain ⟨l, hl'⟩ : ∃ l, x.l = l + 1 := ⟨x.l - 1, by omega⟩
    have h1 := h.w1
    rw [hl', Int.pow_succ] at h1
    rw [hl', Nat.add_sub_cancel]
    have : x.w * 2 * 2 ^ l = x.w * (2 ^ l * 2) := by rw [Int.mul_assoc, Int.mul_comm 2]
    omega
  · show x.l - 1 ≤ 4; have := h.l1; omega
theorem upE_good {es : List Ex} (h : Goods es) {i : Nat} (hi : i < es.length) : Goods (upE es i) := fun x hx => by
  unfold upE at hx
  have hg : es.getD i default = es[i] := by simp [List.getD_eq_getElem?_getD, List.getElem?_eq_getElem hi]
  rw [hg] at hx
  by_cases hl : es[i].l = 0
  · rw [if_pos hl] at hx; exact h x (List.mem_of_mem_eraseIdx hx)
  · rw [if_neg hl] at hx
    rcases List.mem_or_eq_of_mem_set hx with hx | rfl
    · exact h x hx
    · exact (h _ (List.getElem_mem hi)).up hl
def meas : List Ex → Nat
  | [] => 0
  | x :: l => x.l + 1 + meas l
theorem meas_erase : ∀ (es : List Ex) (i : Nat) (h : i < es.length), meas (es.eraseIdx i) + (es[i].l + 1) = meas es
  | x :: l, 0, h => by simp [meas]; omega
  | x :: l, i + 1, h => by
    have := meas_erase l i (by simpa using h)
    simp only [List.eraseIdx_cons_succ, meas, List.getElem_cons_succ]; omega
theorem meas_set : ∀ (es : List Ex) (i : Nat) (y : Ex) (h : i < es.length), meas (es.set i y) + es[i].l = meas es + y.l
  | x :: l, 0, y, h => by simp [meas]; omega
  | x :: l, i + 1, y, h => by
    have := meas_set l i y (by simpa using h)
    simp only [List.set_cons_succ, meas, List.getElem_cons_succ]; omega
theorem meas_up {es : List Ex} {i : Nat} (hi : i < es.length) : meas (upE es i) + 1 = meas es := by
  unfold upE
  have hg : es.getD i default = es[i] := by simp [List.getD_eq_getElem?_getD, List.getElem?_eq_getElem hi]
  rw [hg]
  by_cases hl : es[i].l = 0
  · rw [if_pos hl]; have := meas_erase es i hi; omega
  · rw [if_neg hl]; have := meas_set es i (upX es[i]) hi
    have e : (upX es[i]).l = es[i].l - 1 := rfl
    omega
theorem meas_len (es : List Ex) : es.length ≤ meas es := by
  induction es with
  | nil => exact Nat.le_refl _
  | cons x l ih => simp only [List.length_cons, meas]; omega
theorem setC (cs : List CV) (j : Nat) (c : CV) (h : j < cs.length) (K : CV → Option X) : setCell (.agg cs) j c K = K (.agg (cs.set j c)) := by
  show grd (Nat.blt j cs.length) _ = _
  rw [show Nat.blt j cs.length = true from Nat.ble_eq_true_of_le h]; rfl
theorem up_eq {k : Nat} (K : Int × Int × Nat × Bool × Nat × Int × List CV × List CV → Option X) (ks : List Ex) (now : Int) (i : Nat) (hi : i < ks.length) (hg : Goods ks) (hl : ks.length < 4611686018427387904) :
    f31 k K (i : Int) ks.length now (row ks) = K ((ks.getD i default).t, (ks.getD i default).i, (ks.getD i default).d.length, (ks.getD i default).l == 0, (upE ks i).length, now, row (upE ks i), by8 (ks.getD i default).d) := by
  have hgd : ks.getD i default = ks[i] := by simp [List.getD_eq_getElem?_getD, List.getElem?_eq_getElem hi]
  have hx := hg ks[i] (List.getElem_mem hi)
  unfold upE
  rw [hgd]
  generalize hxe : ks[i] = x at *
  have hget : (row ks)[i]? = some x.en := by rw [row_get, List.getElem?_eq_getElem hi, hxe]; rfl
  unfold f31 f31_A f31_T
  try dsimp only
  simp only [dec0, decLt, hi, decide_true, grd_true, Int.toNat_natCast, Nat.zero_add, hget, Option.bind_some, en_c0, en_c1, en_c2, en_c3, en_c4, en_c5, isI_int, isL_slc, toI_int, toL_slc]
  rw [clone_eq _ _ (by rw [by8_length]; have := hx.d1; omega)]
  have eb : List.take (by8 x.d).length (by8 x.d) = by8 x.d := List.take_of_length_le (Nat.le_refl _)
  by_cases h0 : x.l = 0
  · have h0' : (((x.l : Nat) : Int) == 0) = true := by simp [h0]
    have h0'' : (x.l == 0) = true := by simp [h0]
    rw [if_pos h0]
    simp only [h0', h0'', cond_true, by8_length] at eb ⊢
    have hd := del_eq (k := k) (fun u => K (x.t, x.i, x.d.length, true, u.1, now, List.take (0 + u.1) u.2, by8 x.d)) (row ks) i (by simpa [row_length] using hi)
    rw [row_length] at hd
    rw [wrap64_succ (by omega), eb]
    simp only [Nat.zero_add] at hd
    rw [hd, eraseIdx_row]
    have e6 : (ks.eraseIdx i).length = ks.length - 1 := by rw [List.length_eraseIdx, if_pos hi]
    rw [← e6, List.take_of_length_le (by rw [row_length]; exact Nat.le_refl _)]
  · have h0' : (((x.l : Nat) : Int) == 0) = false := by simp; omega
    have h0'' : (x.l == 0) = false := by simpa using h0
    rw [if_neg h0]
    have hrl : i < (row ks).length := by simpa [row_length] using hi
    have hset : ∀ y : CV, ((row ks).set i y)[i]? = some y := fun y => by simp [List.getElem?_set, hrl]
    have hss : ∀ y z : CV, ((row ks).set i y).set i z = (row ks).set i z := fun y z => by simp
    have hw := hx.w2
    have hw0 := hx.w0
    have ha0 := hx.a0
    have ha1 := hx.a1
    have hl1 := hx.l1
    simp only [h0', h0'', cond_false, by8_length] at eb ⊢
    rw [show x.en = .agg [.int .i64 x.t, .int .i64 x.i, .slc none (by8 x.d), .int .i64 x.a, .int .i64 x.w, .int .i64 x.l] from rfl, setC _ _ _ (by simp)]
    simp only [hset, hss, Option.bind_some]
    simp only [List.set_cons_succ, List.set_cons_zero, cell_agg, List.getElem?_cons_succ, List.getElem?_cons_zero, Option.bind_some, isI_int, toI_int, grd_true]
    rw [setC _ _ _ (by simp)]
    simp only [List.set_cons_succ, List.set_cons_zero, cell_agg, List.getElem?_cons_succ, List.getElem?_cons_zero, Option.bind_some, isI_int, toI_int, grd_true]
    rw [setC _ _ _ (by simp)]
    simp only [List.set_cons_succ, List.set_cons_zero]
    have e1 : IntKind.wrap .i64 (x.w * 2) = x.w * 2 := wrap64 (by omega) (by omega)
    have e2 : IntKind.wrap .i64 (((x.l : Nat) : Int) - 1) = ((x.l - 1 : Nat) : Int) := by rw [wrap64 (by omega) (by omega)]; omega
    have e3 : IntKind.wrap .i64 (x.a + x.w * 2) = x.a + x.w * 2 := wrap64 (by omega) (by omega)
    simp only [e1, e2, e3, eb, mx_if]
    have e4 : CV.agg [.int .i64 x.t, .int .i64 x.i, .slc none (by8 x.d), .int .i64 (mx (x.a + x.w * 2)), .int .i64 (x.w * 2), .int .i64 ((x.l - 1 : Nat) : Int)] = (upX x).en := rfl
    rw [e4, row_set, List.length_set, List.take_of_length_le (by rw [row_length, List.length_set]; exact Nat.le_refl _)]
def clk (now tnow : Int) : Int := if 1099511627776 < (if tnow > now then tnow else now) then 1099511627776 else (if tnow > now then tnow else now)
theorem clk_eq {k : Nat} (K : Nat × Int × List CV → Option X) (ks : List Ex) (now tnow : Int) : f27 k K now ks.length tnow (row ks) = K (ks.length, clk now tnow, row ks) := by
  unfold f27 f27_A f27_T
  try dsimp only
  rw [tk]; rfl
def passP : Nat → Int → List Ex → List Snt × List Ex
  | 0, _, es => ([], es)
  | n + 1, now, es => match fU es es.length with
    | none => ([], es)
    | some i => if (es.getD i default).a > now then ([], es) else (upS (es.getD i default) :: (passP n now (upE es i)).1, (passP n now (upE es i)).2)
theorem pass_loop {k0 : Nat} (K : Nat × Nat × Int × List CV × List CV → Option X) (now : Int) : ∀ (n k : Nat) (es : List Ex) (acc : List Snt), meas es ≤ n → n < k → n < k0 → Goods es → acc.length + n < 1000000 → 
    iterV (f12_L1 (fun X => @f27 X k0) (fun X => @f30 X k0) (fun X => @f31 X k0) k0 K) k (acc.length, srow acc, es.length, now, row es) = K ((acc ++ (passP n now es).1).length, (passP n now es).2.length, now, row (passP n now es).2, srow (acc ++ (passP n now es).1))
  | n, 0, es, acc, _, hk, _, _, _ => absurd hk (Nat.not_lt_zero _)
  | n, k + 1, es, acc, hm, hk, hk0, hg, hacc => by
    have hle := meas_len es
    show f12_L1 (fun X => @f27 X k0) (fun X => @f30 X k0) (fun X => @f31 X k0) k0 K (iterV (f12_L1 (fun X => @f27 X k0) (fun X => @f30 X k0) (fun X => @f31 X k0) k0 K) k) _ = _
    generalize hR : iterV (f12_L1 (fun X => @f27 X k0) (fun X => @f30 X k0) (fun X => @f31 X k0) k0 K) k = R
    unfold f12_L1 f12_T1
    simp only
    rw [first_eq _ _ _ (by omega) (by omega)]
    have et : List.take acc.length (srow acc) = srow acc := List.take_of_length_le (by simp [srow])
    rcases fU_spec es es.length (Nat.le_refl _) with ⟨h0, h1⟩ | ⟨j, h1, h2, h3⟩
    · rw [h1]
      have : (decide (ixI none < 0)) = true := rfl
      simp only [this, cond_true, tk, Nat.zero_add, et]
      have hp : passP n now es = ([], es) := by
        cases n with
        | zero => rfl
        | succ n => unfold passP; rw [h1]
      rw [hp, List.append_nil, List.take_of_length_le (by simp [row])]
    · rw [h1, show ixI (some j) = (j : Int) from rfl]
      have hd : decide ((j : Int) < 0) = false := decide_eq_false (by omega)
      have hgd : es.getD j default = es[j] := by simp [List.getD_eq_getElem?_getD, List.getElem?_eq_getElem h2]
      obtain ⟨n, rfl⟩ : ∃ n', n = n' + 1 := ⟨n - 1, by omega⟩
      have hp : passP (n + 1) now es = if (es.getD j default).a > now then ([], es) else (upS (es.getD j default) :: (passP n now (upE es j)).1, (passP n now (upE es j)).2) := by
        show (match fU es es.length with
          | none => ([], es)
          | some i => if (es.getD i default).a > now then ([], es) else (upS (es.getD i default) :: (passP n now (upE es i)).1, (passP n now (upE es i)).2)) = _
        rw [h1]
      rw [hp, hgd]
      simp only [hd, cond_false, dec0, decLt, h2, decide_true, grd_true, Int.toNat_natCast, Nat.zero_add, row_get, List.getElem?_eq_getElem h2, Option.map_some, Option.bind_some, en_c3, isI_int, toI_int, et]
      by_cases hc : es[j].a > now
      · simp only [hc, decide_true, cond_true, if_true, List.append_nil]
        rw [List.take_of_length_le (by simp [row])]
      · simp only [hc, decide_false, cond_false, if_false]
        rw [up_eq _ _ _ _ h2 hg (by omega), hgd]
        have e0 : List.take es[j].d.length (List.drop 0 (by8 es[j].d)) = by8 es[j].d := by rw [List.drop_zero, List.take_of_length_le (by rw [by8_length]; exact Nat.le_refl _)]
        have e1 : List.take 1 (List.drop 0 [CV.agg [CV.int .i64 es[j].t, CV.int .i64 es[j].i, CV.slc none (by8 es[j].d), CV.bool (es[j].l == 0)]]) = srow [upS es[j]] := rfl
        have e2 : (srow [upS es[j]]).length = 1 := rfl
        simp only [e0, e1, e2, ← srow_append]
        have hm2 := meas_up h2
        rw [grd_dec (show (acc.length + 1) * 48 ≤ 140737488355328 by omega)]
        have ih := pass_loop (k0 := k0) K now n k (upE es j) (acc ++ [upS es[j]]) (by omega) (by omega) (by omega) (upE_good hg h2) (by rw [List.length_append, List.length_singleton]; omega)
        rw [List.append_assoc, hR] at ih
        simpa using ih
theorem pass_eq {k : Nat} (K : Nat × Nat × Int × List CV × List CV → Option X) (es : List Ex) (now tnow : Int) (n : Nat) (hn : meas es ≤ n) (hk : n < k) (hn2 : n < 100000) (hg : Goods es) :
    f12 k K now es.length tnow (row es) = K ((passP n (clk now tnow) es).1.length, (passP n (clk now tnow) es).2.length, clk now tnow, row (passP n (clk now tnow) es).2, srow (passP n (clk now tnow) es).1) := by
  unfold f12 f12_A f12_T
  try dsimp only
  rw [clk_eq]
  have := pass_loop (k0 := k) K (clk now tnow) n k es [] hn hk hk hg (by simp; omega)
  rw [show srow [] = [] from rfl] at this
  simpa using this
def wt (r : Int) : Int := IntKind.wrap .i64 (20 + Int.tmod (if 0 > r then 0 else r) 11)
theorem wt_bd (r : Int) : 20 ≤ wt r ∧ wt r ≤ 30 := by
  have h0 : 0 ≤ (if 0 > r then 0 else r) := by split <;> omega
  have h1 := Int.tmod_nonneg 11 h0
  have h2 := Int.tmod_lt_of_pos (if 0 > r then 0 else r) (show (0 : Int) < 11 by omega)
  unfold wt
  rw [wrap64 (by omega) (by omega)]
  omega
def startP (es : List Ex) (a b : Int) (d : List Int) (now r : Int) : Int × List Ex :=
  if es.any (is a b) then (5, es) else if es.length ≥ 4 then (6, es) else (0, es ++ [⟨a, b, d, mx (now + wt r), wt r, 4⟩])
theorem start_eq {k : Nat} (K : Int × Nat × Int × List CV → Option X) (es : List Ex) (a b : Int) (d : List Int) (now r tnow : Int) (hk : es.length < k) (hl : es.length < 1000000) (hd : d.length ≤ 100000) (h0 : 0 ≤ clk now tnow) :
    f10 k K a b (by8 d) now r es.length tnow (row es) = K ((startP es a b d (clk now tnow) r).1, (startP es a b d (clk now tnow) r).2.length, clk now tnow, row (startP es a b d (clk now tnow) r).2) := by
  unfold f10 f10_A f10_T startP
  try dsimp only
  rw [clk_eq]
  simp only
  rw [has_eq _ _ _ _ _ hk (by omega)]
  have hc1 : clk now tnow ≤ 1099511627776 := by unfold clk; split <;> omega
  generalize clk now tnow = c at *
  cases ha : es.any (is a b) with
  | true => simp only [cond_true, tk]; rfl
  | false =>
    simp only [cond_false, Bool.false_eq_true, if_false]
    by_cases h4 : es.length ≥ 4
    · rw [if_pos h4, show decide (((es.length : Nat) : Int) ≥ 4) = true by simp; omega]
      simp only [cond_true, tk]
    · rw [if_neg h4, show decide (((es.length : Nat) : Int) ≥ 4) = false by simp; omega]
      simp only [cond_false]
      rw [clone_eq _ _ (by rw [by8_length]; omega)]
      have hw := wt_bd r
      have e0 : List.take (by8 d).length (List.drop 0 (by8 d)) = by8 d := by rw [List.drop_zero, List.take_of_length_le (Nat.le_refl _)]
      have ew : IntKind.wrap .i64 (20 + Int.tmod (if 0 > r then 0 else r) 11) = wt r := rfl
      have e3 : IntKind.wrap .i64 (c + wt r) = c + wt r := wrap64 (by omega) (by omega)
      have e1 : List.take 1 (List.drop 0 [CV.agg [CV.int .i64 a, CV.int .i64 b, CV.slc none (by8 d), CV.int .i64 (if 1099511627776 < c + wt r then 1099511627776 else c + wt r), CV.int .i64 (wt r), CV.int .i64 4]]) = row [⟨a, b, d, mx (c + wt r), wt r, 4⟩] := rfl
      have e2 : (row [(⟨a, b, d, mx (c + wt r), wt r, 4⟩ : Ex)]).length = 1 := rfl
      have e4 : List.take es.length (row es) = row es := List.take_of_length_le (by simp [row])
      simp only [ew, e3, e0, e1, e2, e4, ← row_append]
      rw [grd_dec (by omega)]
      have e5 : es.length + 1 = (es ++ [(⟨a, b, d, mx (c + wt r), wt r, 4⟩ : Ex)]).length := by simp
      rw [e5, tk]
theorem new_eq {k : Nat} (K : List CV → Option X) : f6 k K = K (row []) := rfl
theorem start_good {es : List Ex} (h : Goods es) (a b : Int) (d : List Int) (now r : Int) (hd : d.length ≤ 100000) (h0 : 0 ≤ now) (h1 : now ≤ 1099511627776) : Goods (startP es a b d now r).2 := fun x hx => by
  unfold startP at hx
  split at hx
  · exact h x hx
  · split at hx
    · exact h x hx
    · rcases List.mem_append.1 hx with hx | hx
      · exact h x hx
      · rw [List.mem_singleton] at hx
        subst hx
        have hw := wt_bd r
        refine ⟨?_, ?_, by show 0 < wt r; omega, by show wt r * 2 ^ 4 ≤ 480; omega, Nat.le_refl _, hd⟩
        · show 0 ≤ mx _; unfold mx; split <;> omega
        · show mx _ ≤ _; unfold mx; split <;> omega
end
section
variable {X : Type}
theorem bop_and (a : Int) (m : Nat) (hm : m < 9223372036854775808) : 0 ≤ bop .and .i64 a (m : Int) ∧ bop .and .i64 a (m : Int) ≤ m := by
  have h : (BitVec.ofInt 64 a &&& BitVec.ofInt 64 (m : Int)).toNat ≤ m := by
    rw [BitVec.toNat_and]
    refine Nat.le_trans Nat.and_le_right ?_
    rw [BitVec.toNat_ofInt]
    omega
  have e : bop .and .i64 a (m : Int) = IntKind.wrap .i64 (((BitVec.ofInt 64 a &&& BitVec.ofInt 64 (m : Int)).toNat : Nat) : Int) := rfl
  rw [e, wrap64 (by omega) (by omega)]
  omega
theorem and1023 (a : Int) : 0 ≤ bop .and .i64 a 1023 ∧ bop .and .i64 a 1023 ≤ 1023 := bop_and a 1023 (by decide)
abbrev OpT := Int × Int × Int × List Int × Int × Int × Unit
def opv (o : OpT) : CV := .agg (.int .i64 o.1 :: .int .i64 o.2.1 :: .int .i64 o.2.2.1 :: .slc none (o.2.2.2.1.map (CV.int .u8)) :: .int .i64 o.2.2.2.2.1 :: .int .i64 o.2.2.2.2.2.1 :: [])
theorem opv_isA (o : OpT) : CV.isA 6 (opv o) = true := rfl
theorem opv_0 (o : OpT) : CV.cellD 0 (opv o) = .int .i64 o.1 := rfl
theorem opv_1 (o : OpT) : CV.cellD 1 (opv o) = .int .i64 o.2.1 := rfl
theorem opv_2 (o : OpT) : CV.cellD 2 (opv o) = .int .i64 o.2.2.1 := rfl
theorem opv_3 (o : OpT) : CV.cellD 3 (opv o) = .slc none (by8 o.2.2.2.1) := rfl
theorem opv_4 (o : OpT) : CV.cellD 4 (opv o) = .int .i64 o.2.2.2.2.1 := rfl
theorem opv_5 (o : OpT) : CV.cellD 5 (opv o) = .int .i64 o.2.2.2.2.2.1 := rfl
def fewB (ops : List OpT) : Bool := ops.all fun o => decide (o.2.2.2.1.length ≤ 200)
/-- Nothing is due. -/
def Rest (now : Int) (es : List Ex) : Prop := ∀ i, fU es es.length = some i → (es.getD i default).a > now
theorem passP_spec : ∀ (n : Nat) (now : Int) (es : List Ex), meas es ≤ n → Goods es → Goods (passP n now es).2 ∧ meas (passP n now es).2 + (passP n now es).1.length = meas es ∧ Rest now (passP n now es).2
  | 0, now, es, hm, hg => by
    have := meas_len es
    have he : es = [] := List.eq_nil_of_length_eq_zero (by omega)
    subst he
    exact ⟨hg, rfl, fun i hi => by cases hi⟩
  | n + 1, now, es, hm, hg => by
    unfold passP
    rcases fU_spec es es.length (Nat.le_refl _) with ⟨h0, h1⟩ | ⟨j, h1, h2, h3⟩
    · rw [h1]
      exact ⟨hg, rfl, fun i hi => by rw [h1] at hi; cases hi⟩
    · rw [h1]
      simp only
      by_cases hc : (es.getD j default).a > now
      · rw [if_pos hc]
        exact ⟨hg, rfl, fun i hi => by rw [h1] at hi; cases hi; exact hc⟩
      · rw [if_neg hc]
        have hm2 := meas_up h2
        obtain ⟨k1, k2, k3⟩ := passP_spec n now (upE es j) (by omega) (upE_good hg h2)
        exact ⟨k1, by simp only [List.length_cons]; omega, k3⟩
theorem meas_le : ∀ {es : List Ex}, Goods es → meas es ≤ 5 * es.length
  | [], _ => Nat.le_refl _
  | x :: l, h => by
    have := meas_le (es := l) fun y hy => h y (List.mem_cons_of_mem _ hy)
    have := (h x List.mem_cons_self).l1
    simp only [meas, List.length_cons]; omega
/-- A table behind starts. -/
structure Begun (s : List Ex × Int) : Prop where
  good : Goods s.1
  len : s.1.length ≤ 4
  n0 : 0 ≤ s.2
  n1 : s.2 ≤ 1023
def st (s : List Ex × Int) (o : OpT) : List Ex × Int := ((startP s.1 o.2.1 o.2.2.1 o.2.2.2.1 (clk (bop .and .i64 o.2.2.2.2.1 1023) s.2) o.2.2.2.2.2.1).2, clk (bop .and .i64 o.2.2.2.2.1 1023) s.2)
theorem clk_bd {a b m : Int} (h1 : 0 ≤ b) (h2 : b ≤ m) (h3 : a ≤ m) (h4 : m ≤ 1099511627776) : 0 ≤ clk a b ∧ clk a b ≤ m := by
  unfold clk
  split <;> split at * <;> omega
theorem Begun.st {s : List Ex × Int} (h : Begun s) {o : OpT} (ho : o.2.2.2.1.length ≤ 200) : Begun (st s o) := by
  have hb := and1023 o.2.2.2.2.1
  have hc := clk_bd h.n0 h.n1 hb.2 (by decide)
  refine ⟨start_good h.good _ _ _ _ _ (by omega) hc.1 (by omega), ?_, hc.1, hc.2⟩
  unfold Go.Proofs.YtfllanhepeginaaD.Exc.st startP
  have := h.len
  simp only
  split
  · exact this
  · split
    · exact this
    · simp; omega
theorem begun_take {ops : List OpT} (h : fewB ops = true) : ∀ i, Begun ((ops.take i).foldl st ([], 0)) := fun i => by
  have h' : ∀ o ∈ ops.take i, o.2.2.2.1.length ≤ 200 := fun o ho => by
    unfold fewB at h
    rw [List.all_eq_true] at h
    simpa using h o (List.mem_of_mem_take ho)
  have h0 : Begun (([], 0) : List Ex × Int) := ⟨fun x hx => (by cases hx), Nat.zero_le _, Int.le_refl _, by decide⟩
  generalize ops.take i = l at *
  generalize (([], 0) : List Ex × Int) = s at *
  clear h
  induction l generalizing s with
  | nil => exact h0
  | cons o l ih => exact ih (fun o ho => h' o (List.mem_cons_of_mem _ ho)) _ (h0.st (h' o List.mem_cons_self))
theorem start_eq' {k : Nat} (K : Int × Nat × Int × List CV → Option X) {s : List Ex × Int} (h : Begun s) {o : OpT} (ho : o.2.2.2.1.length ≤ 200) (hk : 100 ≤ k) :
    ∃ e, f10 k K o.2.1 o.2.2.1 (by8 o.2.2.2.1) (bop .and .i64 o.2.2.2.2.1 1023) o.2.2.2.2.2.1 s.1.length s.2 (row s.1) = K (e, (st s o).1.length, (st s o).2, row (st s o).1) := by
  have hb := and1023 o.2.2.2.2.1
  have hc := clk_bd h.n0 h.n1 hb.2 (by decide)
  have hl := h.len
  exact ⟨_, start_eq K s.1 _ _ _ _ _ _ (by omega) (by omega) (by omega) hc.1⟩
end
section
variable {X : Type}
theorem and511 (a : Int) : 0 ≤ bop .and .i64 a 511 ∧ bop .and .i64 a 511 ≤ 511 := bop_and a 511 (by decide)
theorem passP_fuel : ∀ (n : Nat) (now : Int) (es : List Ex), meas es ≤ n → passP (n + 1) now es = passP n now es
  | 0, now, es, hm => by
    have := meas_len es
    have he : es = [] := List.eq_nil_of_length_eq_zero (by omega)
    subst he
    rfl
  | n + 1, now, es, hm => by
    rcases fU_spec es es.length (Nat.le_refl _) with ⟨h0, h1⟩ | ⟨j, h1, h2, h3⟩
    · unfold passP; rw [h1]
    · have hm2 := meas_up h2
      have ih := passP_fuel n now (upE es j) (by omega)
      have e : ∀ m, passP (m + 1) now es = if (es.getD j default).a > now then ([], es) else (upS (es.getD j default) :: (passP m now (upE es j)).1, (passP m now (upE es j)).2) := fun m => by
        show (match fU es es.length with
          | none => ([], es)
          | some i => if (es.getD i default).a > now then ([], es) else (upS (es.getD i default) :: (passP m now (upE es i)).1, (passP m now (upE es i)).2)) = _
        rw [h1]
      rw [e (n + 1), e n, ih]
theorem passP_two : ∀ (n : Nat) (now1 now2 : Int) (es : List Ex), now1 ≤ now2 → meas es ≤ n → Goods es →
    passP n now2 es = ((passP n now1 es).1 ++ (passP n now2 (passP n now1 es).2).1, (passP n now2 (passP n now1 es).2).2)
  | 0, now1, now2, es, h, hm, hg => rfl
  | n + 1, now1, now2, es, h, hm, hg => by
    rcases fU_spec es es.length (Nat.le_refl _) with ⟨h0, h1⟩ | ⟨j, h1, h2, h3⟩
    · have e : ∀ now, passP (n + 1) now es = ([], es) := fun now => by unfold passP; rw [h1]
      simp only [e, List.append_nil]
    · have hm2 := meas_up h2
      have e : ∀ now, passP (n + 1) now es = if (es.getD j default).a > now then ([], es) else (upS (es.getD j default) :: (passP n now (upE es j)).1, (passP n now (upE es j)).2) := fun now => by
        show (match fU es es.length with
          | none => ([], es)
          | some i => if (es.getD i default).a > now then ([], es) else (upS (es.getD i default) :: (passP n now (upE es i)).1, (passP n now (upE es i)).2)) = _
        rw [h1]
      by_cases hc : (es.getD j default).a > now1
      · rw [e now1, if_pos hc]
        rfl
      · have hg2 := upE_good hg h2
        have ih := passP_two n now1 now2 (upE es j) h (by omega) hg2
        have sp := passP_spec n now1 (upE es j) (by omega) hg2
        rw [e now1, if_neg hc]
        simp only
        rw [passP_fuel n now2 (passP n now1 (upE es j)).2 (by omega), e now2, if_neg (by omega), ih]
        rfl
theorem passP_d : ∀ (n : Nat) (now : Int) (es : List Ex), Goods es → ∀ x ∈ (passP n now es).1, x.d.length ≤ 100000
  | 0, now, es, hg, x, hx => by cases hx
  | n + 1, now, es, hg, x, hx => by
    rcases fU_spec es es.length (Nat.le_refl _) with ⟨h0, h1⟩ | ⟨j, h1, h2, h3⟩
    · have e : passP (n + 1) now es = ([], es) := by unfold passP; rw [h1]
      rw [e] at hx; cases hx
    · have e : passP (n + 1) now es = if (es.getD j default).a > now then ([], es) else (upS (es.getD j default) :: (passP n now (upE es j)).1, (passP n now (upE es j)).2) := by
        show (match fU es es.length with
          | none => ([], es)
          | some i => if (es.getD i default).a > now then ([], es) else (upS (es.getD i default) :: (passP n now (upE es i)).1, (passP n now (upE es i)).2)) = _
        rw [h1]
      rw [e] at hx
      by_cases hc : (es.getD j default).a > now
      · rw [if_pos hc] at hx; cases hx
      · rw [if_neg hc] at hx
        rcases List.mem_cons.1 hx with rfl | hx
        · have hgd : es.getD j default = es[j] := by simp [List.getD_eq_getElem?_getD, List.getElem?_eq_getElem h2]
          rw [hgd]
          exact (hg _ (List.getElem_mem h2)).d1
        · exact passP_d n now (upE es j) (upE_good hg h2) x hx
theorem sen_isA (x : Snt) : CV.isA 4 x.en = true := rfl
theorem sen_0 (x : Snt) : CV.cellD 0 x.en = .int .i64 x.t := rfl
theorem sen_1 (x : Snt) : CV.cellD 1 x.en = .int .i64 x.i := rfl
theorem sen_2 (x : Snt) : CV.cellD 2 x.en = .slc none (by8 x.d) := rfl
theorem sen_3 (x : Snt) : CV.cellD 3 x.en = .bool x.lost := rfl
theorem sen_c0 (x : Snt) : CV.cell x.en 0 = some (.int .i64 x.t) := rfl
theorem sen_c1 (x : Snt) : CV.cell x.en 1 = some (.int .i64 x.i) := rfl
theorem sen_c2 (x : Snt) : CV.cell x.en 2 = some (.slc none (by8 x.d)) := rfl
theorem sen_c3 (x : Snt) : CV.cell x.en 3 = some (.bool x.lost) := rfl
/-- The time behind some steps. -/
def nowS (ts : List Int) : Int := ts.foldl (fun n t => n + bop .and .i64 t 511) 0
theorem nowS_snoc (ts : List Int) (t : Int) : nowS (ts ++ [t]) = nowS ts + bop .and .i64 t 511 := by simp [nowS, List.foldl_append]
theorem nowS_bd : ∀ (ts : List Int), 0 ≤ nowS ts ∧ nowS ts ≤ 511 * ts.length := by
  intro ts
  rw [← List.reverse_reverse ts]
  induction ts.reverse with
  | nil => exact ⟨Int.le_refl _, by simp [nowS]⟩
  | cons t l ih =>
    rw [List.reverse_cons, nowS_snoc]
    have := and511 t
    rw [List.length_append, List.length_singleton]
    omega
theorem clk_mono {a b t : Int} (h : a ≤ b) : clk a t ≤ clk b t := by
  unfold clk; repeat' split
  all_goals omega
theorem clk_clk {a b t : Int} (h : a ≤ b) : clk b (clk a t) = clk b t := by
  unfold clk; repeat' split
  all_goals first | rfl | omega
/-- One table, behind some steps. -/
def Tm (s : List Ex × Int) (ts : List Int) : List Snt × List Ex × Int := match ts with
  | [] => ([], s.1, s.2)
  | ts => ((passP 20 (clk (nowS ts) s.2) s.1).1, (passP 20 (clk (nowS ts) s.2) s.1).2, clk (nowS ts) s.2)
theorem Tm_ne (s : List Ex × Int) (ts : List Int) (h : ts ≠ []) : Tm s ts = ((passP 20 (clk (nowS ts) s.2) s.1).1, (passP 20 (clk (nowS ts) s.2) s.1).2, clk (nowS ts) s.2) := by
  cases ts with
  | nil => exact absurd rfl h
  | cons t l => rfl
theorem Tm_step {s : List Ex × Int} (hs : Begun s) (ts : List Int) (t : Int) :
    Goods (Tm s ts).2.1 ∧ meas (Tm s ts).2.1 ≤ 20 ∧ (Tm s ts).1.length + (passP 20 (clk (nowS (ts ++ [t])) (Tm s ts).2.2) (Tm s ts).2.1).1.length ≤ 20 ∧
    Tm s (ts ++ [t]) = ((Tm s ts).1 ++ (passP 20 (clk (nowS (ts ++ [t])) (Tm s ts).2.2) (Tm s ts).2.1).1, (passP 20 (clk (nowS (ts ++ [t])) (Tm s ts).2.2) (Tm s ts).2.1).2, clk (nowS (ts ++ [t])) (Tm s ts).2.2) := by
  have hm := meas_le hs.good
  have hl := hs.len
  rw [Tm_ne s (ts ++ [t]) (by simp)]
  have hle : nowS ts ≤ nowS (ts ++ [t]) := by
    rw [nowS_snoc]
    have := and511 t
    omega
  by_cases h : ts = []
  · subst h
    have sp := passP_spec 20 (clk (nowS ([] ++ [t])) s.2) s.1 (by omega) hs.good
    exact ⟨hs.good, by show meas s.1 ≤ 20; omega, by show 0 + _ ≤ 20; rw [Nat.zero_add]; show (passP 20 (clk (nowS ([] ++ [t])) s.2) s.1).1.length ≤ 20; omega, rfl⟩
  · rw [Tm_ne s ts h]
    have sp := passP_spec 20 (clk (nowS ts) s.2) s.1 (by omega) hs.good
    simp only
    rw [clk_clk hle]
    have tw := passP_two 20 (clk (nowS ts) s.2) (clk (nowS (ts ++ [t])) s.2) s.1 (clk_mono hle) (by omega) hs.good
    have sp2 := passP_spec 20 (clk (nowS (ts ++ [t])) s.2) _ (show meas (passP 20 (clk (nowS ts) s.2) s.1).2 ≤ 20 by omega) sp.1
    exact ⟨sp.1, by omega, by omega, by rw [tw]⟩
end
section
variable {X : Type}
theorem and63 (a : Int) : 0 ≤ bop .and .i64 a 63 ∧ bop .and .i64 a 63 ≤ 63 := bop_and a 63 (by decide)
theorem and255 (a : Int) : 0 ≤ bop .and .i64 a 255 ∧ bop .and .i64 a 255 ≤ 255 := bop_and a 255 (by decide)
/-- The time at which it is sent for the m-th time. -/
def aT (F W : Int) (m : Nat) : Int := F + W * (2 ^ (m + 1) - 1)
def Xm (F W : Int) (d : List Int) (m : Nat) : Ex := ⟨3, 9, d, aT F W m, W * 2 ^ m, 4 - m⟩
def tbl (F W : Int) (d : List Int) (m : Nat) : List Ex := if m < 5 then [Xm F W d m] else []
def ev (d : List Int) (m : Nat) : Snt := ⟨3, 9, d, m == 4⟩
def run (F W now : Int) (d : List Int) : Nat → Nat → List Snt × Nat
  | 0, m => ([], m)
  | j + 1, m => if aT F W m ≤ now then (ev d m :: (run F W now d j (m + 1)).1, (run F W now d j (m + 1)).2) else ([], m)
structure Pm (F W : Int) (d : List Int) : Prop where
  f0 : 0 ≤ F
  f1 : F ≤ 549755813888
  w0 : 20 ≤ W
  w1 : W ≤ 30
  dl : d.length ≤ 200
theorem m5 {m : Nat} (h : m < 5) : m = 0 ∨ m = 1 ∨ m = 2 ∨ m = 3 ∨ m = 4 := by omega
section
variable {F W now : Int} {d : List Int}
theorem aT_step (hp : Pm F W d) {m : Nat} (h : m < 5) : aT F W m + W * 2 ^ (m + 1) = aT F W (m + 1) ∧ 0 ≤ aT F W m ∧ aT F W m ≤ F + 930 ∧ F < aT F W m ∧ 0 ≤ W * 2 ^ (m + 1) ∧ W * 2 ^ (m + 1) ≤ 960 := by
  have := hp.f0; have := hp.w0; have := hp.w1
  rcases m5 h with rfl | rfl | rfl | rfl | rfl <;> simp only [aT] <;> omega
theorem good_X (hp : Pm F W d) {m : Nat} (h : m < 5) : Good (Xm F W d m) := by
  have h1 := hp.f0; have h2 := hp.f1; have h3 := hp.w0; have h4 := hp.w1; have h5 := hp.dl
  have hs := aT_step hp h
  refine ⟨hs.2.1, ?_, ?_, ?_, by show 4 - m ≤ 4; omega, by show d.length ≤ 100000; omega⟩
  · show aT F W m ≤ _; omega
  · show 0 < W * 2 ^ m
    rcases m5 h with rfl | rfl | rfl | rfl | rfl <;> omega
  · show W * 2 ^ m * 2 ^ (4 - m) ≤ 480
    rcases m5 h with rfl | rfl | rfl | rfl | rfl <;> simp <;> omega
theorem tbl_good (hp : Pm F W d) (m : Nat) : Goods (tbl F W d m) := fun x hx => by
  unfold tbl at hx
  split at hx
  · next h => rw [List.mem_singleton] at hx; subst hx; exact good_X hp h
  · cases hx
theorem tbl_len (m : Nat) : (tbl F W d m).length ≤ 1 := by unfold tbl; split <;> simp
theorem tbl_up (hp : Pm F W d) {m : Nat} (h : m < 5) : upE [Xm F W d m] 0 = tbl F W d (m + 1) := by
  have h1 := hp.f0; have h2 := hp.f1; have h3 := hp.w0; have h4 := hp.w1
  have hs := aT_step hp h
  unfold upE
  show (if 4 - m = 0 then [] else [upX (Xm F W d m)]) = tbl F W d (m + 1)
  unfold tbl
  by_cases h4' : m = 4
  · subst h4'; rfl
  · rw [if_neg (by omega), if_pos (by omega)]
    have e : W * 2 ^ m * 2 = W * 2 ^ (m + 1) := by rw [Int.pow_succ, Int.mul_assoc]
    have e2 : mx (aT F W m + W * 2 ^ m * 2) = aT F W (m + 1) := by
      rw [e, hs.1]
      have hs2 := aT_step hp (show m + 1 < 5 by omega)
      unfold mx
      rw [if_neg (by omega)]
    show [(⟨3, 9, d, mx (aT F W m + W * 2 ^ m * 2), W * 2 ^ m * 2, 4 - m - 1⟩ : Ex)] = [⟨3, 9, d, aT F W (m + 1), W * 2 ^ (m + 1), 4 - (m + 1)⟩]
    rw [e2, e, show 4 - m - 1 = 4 - (m + 1) by omega]
theorem pass_tbl (hp : Pm F W d) : ∀ (j m n : Nat), j + m = 5 → j ≤ n → passP n now (tbl F W d m) = ((run F W now d j m).1, tbl F W d (run F W now d j m).2)
  | 0, m, n, h, hn => by
    have : m = 5 := by omega
    subst this
    cases n <;> rfl
  | j + 1, m, 0, h, hn => absurd hn (by omega)
  | j + 1, m, n + 1, h, hn => by
    have hm : m < 5 := by omega
    have ht : tbl F W d m = [Xm F W d m] := by unfold tbl; rw [if_pos hm]
    have ih := pass_tbl hp j (m + 1) n (by omega) (by omega)
    have e : passP (n + 1) now [Xm F W d m] = if aT F W m > now then ([], [Xm F W d m]) else (upS (Xm F W d m) :: (passP n now (upE [Xm F W d m] 0)).1, (passP n now (upE [Xm F W d m] 0)).2) := rfl
    rw [ht, e, tbl_up hp hm, ih]
    have es : upS (Xm F W d m) = ev d m := by
      show (⟨3, 9, d, 4 - m == 0⟩ : Snt) = ⟨3, 9, d, m == 4⟩
      rcases m5 hm with rfl | rfl | rfl | rfl | rfl <;> rfl
    have er : run F W now d (j + 1) m = if aT F W m ≤ now then (ev d m :: (run F W now d j (m + 1)).1, (run F W now d j (m + 1)).2) else ([], m) := rfl
    rw [er, es]
    by_cases hc : aT F W m ≤ now
    · rw [if_neg (by omega), if_pos hc]
    · rw [if_pos (by omega), if_neg hc]
      simp only [ht]
theorem run_spec : ∀ (j m : Nat), m ≤ (run F W now d j m).2 ∧ (run F W now d j m).2 ≤ m + j ∧ (run F W now d j m).1.length = (run F W now d j m).2 - m ∧ (∀ i, i < (run F W now d j m).1.length → (run F W now d j m).1[i]? = some (ev d (m + i))) ∧ (∀ i, m ≤ i → i < (run F W now d j m).2 → aT F W i ≤ now) ∧ ((run F W now d j m).2 < m + j → now < aT F W (run F W now d j m).2)
  | 0, m => ⟨Nat.le_refl _, Nat.le_refl _, by simp [run], fun i hi => by simp [run] at hi, fun i h1 h2 => by simp [run] at h2; omega, fun h => by simp [run] at h⟩
  | j + 1, m => by
    have er : run F W now d (j + 1) m = if aT F W m ≤ now then (ev d m :: (run F W now d j (m + 1)).1, (run F W now d j (m + 1)).2) else ([], m) := rfl
    rw [er]
    by_cases hc : aT F W m ≤ now
    · rw [if_pos hc]
      obtain ⟨h1, h2, h3, h4, h5, h6⟩ := run_spec j (m + 1)
      refine ⟨by show m ≤ (run F W now d j (m + 1)).2; omega, by show (run F W now d j (m + 1)).2 ≤ _; omega, by show (_ :: _).length = (run F W now d j (m + 1)).2 - m; rw [List.length_cons]; omega, fun i hi => ?_, fun i g1 g2 => ?_, fun g => ?_⟩
      · cases i with
        | zero => rfl
        | succ i =>
          have := h4 i (by simpa using hi)
          show (run F W now d j (m + 1)).1[i]? = _
          rw [this, show m + 1 + i = m + (i + 1) by omega]
      · rcases Nat.eq_or_lt_of_le g1 with rfl | g1
        · exact hc
        · exact h5 i (by omega) g2
      · exact h6 (by show (run F W now d j (m + 1)).2 < _; have : (run F W now d j (m + 1)).2 < m + (j + 1) := g; omega)
    · rw [if_neg hc]
      exact ⟨Nat.le_refl _, by simp, by simp, fun i hi => by simp at hi, fun i g1 g2 => by simp at g2; omega, fun g => by show now < aT F W m; omega⟩
/-- How often it is sent up to a time. -/
def C (F W now : Int) (d : List Int) : Nat := (run F W now d 5 0).2
theorem run_mono (F W now : Int) (d : List Int) : ∀ (j m a : Nat), (∀ i, a ≤ i → i < m → aT F W i ≤ now) → a ≤ m → (run F W now d (m - a + j) a).2 = (run F W now d j m).2
  | j, 0, a, h, ha => by
    have : a = 0 := by omega
    subst this; simp
  | j, m + 1, a, h, ha => by
    rcases Nat.eq_or_lt_of_le ha with rfl | ha
    · simp
    · have hh := run_mono F W now d j (m + 1) (a + 1) (fun i h1 h2 => h i (by omega) h2) (by omega)
      rw [show m + 1 - a + j = (m + 1 - (a + 1) + j) + 1 by omega]
      have er : run F W now d ((m + 1 - (a + 1) + j) + 1) a = if aT F W a ≤ now then (ev d a :: (run F W now d (m + 1 - (a + 1) + j) (a + 1)).1, (run F W now d (m + 1 - (a + 1) + j) (a + 1)).2) else ([], a) := rfl
      rw [er, if_pos (h a (Nat.le_refl _) (by omega))]
      exact hh
  termination_by j m a => m - a
theorem C_run {now' : Int} (h : now ≤ now') : (run F W now' d (5 - C F W now d) (C F W now d)).2 = C F W now' d := by
  obtain ⟨h1, h2, h3, h4, h5, h6⟩ := run_spec (F := F) (W := W) (now := now) (d := d) 5 0
  have h2' : C F W now d ≤ 5 := by unfold C; omega
  have := run_mono F W now' d (5 - C F W now d) (C F W now d) 0 (fun i g1 g2 => by
    have := h5 i g1 g2
    omega) (Nat.zero_le _)
  rw [← this, Nat.sub_zero, show C F W now d + (5 - C F W now d) = 5 by omega]
  rfl
abbrev V2 := List CV × Int × Int × Int × Int × Int × Bool × List CV × Int × Int × Nat × Int × List CV
theorem tbl_any (m : Nat) : (tbl F W d m).any (is 3 9) = decide (m < 5) := by
  unfold tbl
  by_cases h : m < 5
  · rw [if_pos h]; simp [h, is, Xm]
  · rw [if_neg h]; simp [h]
theorem tbl_stop {m : Nat} (h : m < 5) : stopP (tbl F W d m) 3 9 = [] := by
  unfold tbl
  rw [if_pos h]
  rfl
/-- What a state of the law's loop is. -/
structure In (F W : Int) (d : List Int) (stop now : Int) (i m : Nat) (b : Bool) (es : List Ex) : Prop where
  live : b = false → es = tbl F W d m ∧ m = C F W now d
  over : b = true → es = [] ∧ bop .and .i64 stop 63 < i
  m5 : m ≤ 5
theorem C_le : C F W now d ≤ 5 := by
  have := (run_spec (F := F) (W := W) (now := now) (d := d) 5 0).2.1
  unfold C; omega
theorem In.after {stop : Int} {i m : Nat} {b : Bool} {es : List Ex} (h : In F W d stop now i m b es) :
    (if ((i : Nat) : Int) = bop .and .i64 stop 63 ∧ ((m : Nat) : Int) < 5 then In F W d stop now (i + 1) m true (stopP es 3 9) else In F W d stop now (i + 1) m b es) ∧ (((i : Nat) : Int) = bop .and .i64 stop 63 → ((m : Nat) : Int) < 5 → es.any (is 3 9) = true) := by
  constructor
  · split
    · next hc =>
      cases b with
      | true => have := (h.over rfl).2; omega
      | false =>
        refine ⟨fun e => (by cases e), fun _ => ⟨?_, by omega⟩, h.m5⟩
        rw [(h.live rfl).1, tbl_stop (by omega)]
    · exact ⟨h.live, fun e => ⟨(h.over e).1, by have := (h.over e).2; omega⟩, h.m5⟩
  · intro h1 h2
    cases b with
    | true => have := (h.over rfl).2; omega
    | false => rw [(h.live rfl).1, tbl_any]; exact decide_eq_true (by omega)
theorem ev_isA (x : Snt) : CV.isA 4 x.en = true := rfl
theorem C_start (hp : Pm F W d) : C F W F d = 0 := by
  have h := aT_step hp (show 0 < 5 by omega)
  unfold C
  show (if aT F W 0 ≤ F then _ else (([], 0) : List Snt × Nat)).2 = 0
  rw [if_neg (by omega)]
end
end
section
variable {X : Type}
/-- An exchange as the document has it: it counts upwards. -/
def en2 (x : Ex) : CV := .agg [.int .i64 x.t, .int .i64 x.i, .slc none (by8 x.d), .int .i64 x.a, .int .i64 x.w, .int .i64 ((4 : Int) - x.l)]
def row2 (ks : List Ex) : List CV := ks.map en2
theorem row2_length (ks : List Ex) : (row2 ks).length = ks.length := by simp [row2]
theorem row2_get (ks : List Ex) (i : Nat) : (row2 ks)[i]? = ks[i]?.map en2 := by simp [row2]
theorem row2_append (a b : List Ex) : row2 (a ++ b) = row2 a ++ row2 b := by simp [row2]
theorem e2_isA (x : Ex) : CV.isA 6 (en2 x) = true := rfl
theorem e2_fit (x : Ex) : fitSh (some 6) (en2 x) = true := rfl
theorem e2_0 (x : Ex) : CV.cellD 0 (en2 x) = .int .i64 x.t := rfl
theorem e2_1 (x : Ex) : CV.cellD 1 (en2 x) = .int .i64 x.i := rfl
theorem e2_2 (x : Ex) : CV.cellD 2 (en2 x) = .slc none (by8 x.d) := rfl
theorem e2_3 (x : Ex) : CV.cellD 3 (en2 x) = .int .i64 x.a := rfl
theorem e2_4 (x : Ex) : CV.cellD 4 (en2 x) = .int .i64 x.w := rfl
theorem e2_5 (x : Ex) : CV.cellD 5 (en2 x) = .int .i64 ((4 : Int) - x.l) := rfl
theorem e2_c0 (x : Ex) : CV.cell (en2 x) 0 = some (.int .i64 x.t) := rfl
theorem e2_c1 (x : Ex) : CV.cell (en2 x) 1 = some (.int .i64 x.i) := rfl
theorem e2_c3 (x : Ex) : CV.cell (en2 x) 3 = some (.int .i64 x.a) := rfl
def tab (ks : List Ex) (now : Int) : CV := .agg [.slc (some 6) (row2 ks), .int .i64 now]
theorem tab_isA (ks : List Ex) (now : Int) : CV.isA 2 (tab ks now) = true := rfl
theorem tab_0 (ks : List Ex) (now : Int) : CV.cellD 0 (tab ks now) = .slc (some 6) (row2 ks) := rfl
theorem tab_1 (ks : List Ex) (now : Int) : CV.cellD 1 (tab ks now) = .int .i64 now := rfl
def cl (n : Int) : Int := if n < 0 then 0 else if n > 1099511627776 then 1099511627776 else n
theorem cl_mx {n : Int} (h : 0 ≤ n) : cl n = mx n := by
  unfold cl mx
  rw [if_neg (by omega)]
/-- No message waits twice. -/
def Uniq (ks : List Ex) : Prop := ks.Pairwise (fun x y => ¬ (x.t = y.t ∧ x.i = y.i))
theorem is_iff {a b : Int} {x : Ex} : is a b x = true ↔ x.t = a ∧ x.i = b := by simp [is]
theorem filter_uniq {a b : Int} : ∀ {ks : List Ex}, Uniq ks → stopP ks a b = ks.filter (fun x => !is a b x)
  | [], _ => rfl
  | x :: l, h => by
    unfold stopP
    rw [List.findIdx?_cons]
    have h' := List.pairwise_cons.1 h
    cases hx : is a b x with
    | true =>
      simp only [if_true, List.eraseIdx_cons_zero, List.filter_cons, hx, Bool.not_true, Bool.false_eq_true, if_false]
      refine (List.filter_eq_self.2 fun y hy => ?_).symm
      have := h'.1 y hy
      cases hy2 : is a b y with
      | false => rfl
      | true =>
        rw [is_iff] at hx hy2
        exact absurd ⟨hx.1.trans hy2.1.symm, hx.2.trans hy2.2.symm⟩ this
    | false =>
      have ih := filter_uniq (a := a) (b := b) h'.2
      unfold stopP at ih
      simp only [Bool.false_eq_true, if_false, List.filter_cons, hx, Bool.not_false, if_true, ← ih]
      cases l.findIdx? (is a b) with
      | none => rfl
      | some j => rfl
theorem filter_any {a b : Int} (ks : List Ex) : decide ((ks.filter (fun x => !is a b x)).length < ks.length) = ks.any (is a b) := by
  induction ks with
  | nil => rfl
  | cons x l ih =>
    have hle := List.length_filter_le (fun x => !is a b x) l
    rw [List.any_cons, List.filter_cons]
    cases hx : is a b x with
    | true => simp; omega
    | false =>
      simp only [Bool.not_false, if_true, List.length_cons, Bool.false_or, ← ih]
      exact decide_eq_decide.2 (by omega)
end
section
variable {X : Type}
theorem fU_first (es : List Ex) : ∀ i j, fU es i = some j → ∀ m, m < j → (es.getD j default).a < (es.getD m default).a
  | 0, j, h, m, hm => by cases h
  | i + 1, j, h, m, hm => by
    unfold fU at h
    cases e : fU es i with
    | none => rw [e] at h; simp only [Option.some.injEq] at h; subst h
              have : i = 0 := by
                cases i with
                | zero => rfl
                | succ i => unfold fU at e; split at e <;> (try split at e) <;> cases e
              omega
    | some q =>
      rw [e] at h
      simp only at h
      split at h
      · next hc =>
        simp only [Option.some.injEq] at h
        subst h
        have hq := fU_first es i q e
        rcases Nat.lt_or_ge m q with h1 | h1
        · have := hq m h1; omega
        · rcases Nat.eq_or_lt_of_le h1 with rfl | h1
          · exact hc
          · exact Int.lt_of_lt_of_le hc (fU_le es i q e m hm)
      · simp only [Option.some.injEq] at h
        subst h
        exact fU_first es i q e m hm
where fU_le (es : List Ex) : ∀ i j, fU es i = some j → ∀ m, m < i → (es.getD j default).a ≤ (es.getD m default).a
  | 0, j, h, m, hm => by cases h
  | i + 1, j, h, m, hm => by
    unfold fU at h
    cases e : fU es i with
    | none =>
      rw [e] at h; simp only [Option.some.injEq] at h; subst h
      have : i = 0 := by
        cases i with
        | zero => rfl
        | succ i => unfold fU at e; split at e <;> (try split at e) <;> cases e
      have : m = i := by omega
      subst this; exact Int.le_refl _
    | some q =>
      rw [e] at h
      simp only at h
      have hq := fU_le es i q e
      split at h
      · next hc =>
        simp only [Option.some.injEq] at h
        subst h
        rcases Nat.lt_or_ge m i with h1 | h1
        · have := hq m h1; omega
        · have : m = i := by omega
          subst this; exact Int.le_refl _
      · next hc =>
        simp only [Option.some.injEq] at h
        subst h
        rcases Nat.lt_or_ge m i with h1 | h1
        · exact hq m h1
        · have : m = i := by omega
          subst this; omega
def allI (es : List Ex) (j i : Nat) : List Ex := if i ≤ j then es.take i else if (es.getD j default).l = 0 then (es.eraseIdx j).take (i - 1) else (es.set j (upX (es.getD j default))).take i
theorem allI_lt {es : List Ex} {j i : Nat} (h : i < j) (hi : i < es.length) : allI es j (i + 1) = allI es j i ++ [es[i]] := by
  unfold allI
  rw [if_pos (by omega), if_pos (by omega), List.take_succ_eq_append_getElem hi]
theorem allI_eq {es : List Ex} {j : Nat} (hj : j < es.length) : allI es j (j + 1) = allI es j j ++ (if (es.getD j default).l = 0 then [] else [upX (es.getD j default)]) := by
  unfold allI
  rw [if_neg (by omega), if_pos (Nat.le_refl _)]
  split
  · rw [List.append_nil, Nat.add_sub_cancel, List.eraseIdx_eq_take_drop_succ, List.take_append_of_le_length (by simp; omega), List.take_take, Nat.min_self]
  · rw [List.take_succ_eq_append_getElem (by simpa using hj)]
    congr 1
    · rw [List.take_set_of_le (Nat.le_refl _)]
    · simp
theorem allI_gt {es : List Ex} {j i : Nat} (h : j < i) (hi : i < es.length) : allI es j (i + 1) = allI es j i ++ [es[i]] := by
  unfold allI
  rw [if_neg (show ¬ i + 1 ≤ j by omega), if_neg (show ¬ i ≤ j by omega)]
  by_cases hl : (es.getD j default).l = 0
  · rw [if_pos hl, if_pos hl]
    obtain ⟨i, rfl⟩ : ∃ q, i = q + 1 := ⟨i - 1, by omega⟩
    rw [Nat.add_sub_cancel, Nat.add_sub_cancel]
    have hlen : i < (es.eraseIdx j).length := by rw [List.length_eraseIdx, if_pos (by omega)]; omega
    rw [List.take_succ_eq_append_getElem hlen, List.getElem_eraseIdx_of_ge hlen (by omega)]
  · rw [if_neg hl, if_neg hl, List.take_succ_eq_append_getElem (by simpa using hi), List.getElem_set_ne (by omega)]
theorem allI_len (es : List Ex) (j i : Nat) : (allI es j i).length ≤ i := by
  unfold allI
  split
  · simp; omega
  · split <;> simp <;> omega
theorem allI_all {es : List Ex} {j : Nat} (hj : j < es.length) : allI es j es.length = upE es j := by
  unfold allI upE
  rw [if_neg (by omega)]
  split
  · rw [List.take_of_length_le (by rw [List.length_eraseIdx, if_pos hj]; exact Nat.le_refl _)]
  · rw [List.take_of_length_le (by simp)]
/-- What holds of the table at all times. -/
structure Ok (es : List Ex) (now : Int) : Prop where
  good : Goods es
  len : es.length ≤ 4
  uniq : Uniq es
  n0 : 0 ≤ now
  n1 : now ≤ 1099511627776
theorem clk_ok {n now : Int} (h0 : 0 ≤ now) (h1 : now ≤ 1099511627776) : 0 ≤ clk n now ∧ clk n now ≤ 1099511627776 := by
  unfold clk
  repeat' split
  all_goals omega
theorem Ok.start {es : List Ex} {now : Int} (h : Ok es now) (a b n r : Int) (d : List Int) (hd : d.length ≤ 200) : Ok (startP es a b d (clk n now) r).2 (clk n now) := by
  have hc := clk_ok (n := n) h.n0 h.n1
  refine ⟨start_good h.good _ _ _ _ _ (by omega) hc.1 hc.2, ?_, ?_, hc.1, hc.2⟩
  · have := h.len
    unfold startP
    split
    · exact this
    · split
      · exact this
      · simp; omega
  · unfold startP
    cases ha : es.any (is a b) with
    | true => exact h.uniq
    | false =>
      simp only [Bool.false_eq_true, if_false]
      split
      · exact h.uniq
      · refine List.pairwise_append.2 ⟨h.uniq, List.pairwise_singleton _ _, fun x hx y hy => ?_⟩
        rw [List.mem_singleton] at hy
        subst hy
        rw [List.any_eq_false] at ha
        have := ha x hx
        rw [is_iff] at this
        exact this
theorem Ok.stop {es : List Ex} {now : Int} (h : Ok es now) (a b : Int) : Ok (stopP es a b) now := by
  rw [filter_uniq h.uniq]
  exact ⟨fun x hx => h.good x (List.mem_filter.1 hx).1, Nat.le_trans (List.length_filter_le _ _) h.len, List.Pairwise.sublist List.filter_sublist h.uniq, h.n0, h.n1⟩
theorem upE_uniq {es : List Ex} (h : Uniq es) {i : Nat} (hi : i < es.length) : Uniq (upE es i) := by
  have hg : es.getD i default = es[i] := by simp [List.getD_eq_getElem?_getD, List.getElem?_eq_getElem hi]
  unfold upE
  rw [hg]
  split
  · exact List.Pairwise.sublist (List.eraseIdx_sublist _ _) h
  · have h' : (es.map fun x => (x.t, x.i)).Pairwise (fun p q => ¬ (p.1 = q.1 ∧ p.2 = q.2)) := List.pairwise_map.2 h
    have e : (es.set i (upX es[i])).map (fun x => (x.t, x.i)) = es.map fun x => (x.t, x.i) := by
      rw [List.map_set]
      refine List.ext_getElem (by simp) (fun j h1 h2 => ?_)
      rw [List.getElem_set]
      split
      · next e => subst e; simp [upX]
      · rfl
    exact List.pairwise_map.1 (e ▸ h')
theorem upE_len (es : List Ex) (i : Nat) : (upE es i).length ≤ es.length := by
  unfold upE
  split
  · exact List.length_eraseIdx_le _ _
  · simp
theorem passP_ok : ∀ (n : Nat) (now : Int) (es : List Ex), Uniq es → Uniq (passP n now es).2 ∧ (passP n now es).2.length ≤ es.length
  | 0, now, es, h => ⟨h, Nat.le_refl _⟩
  | n + 1, now, es, h => by
    rcases fU_spec es es.length (Nat.le_refl _) with ⟨h0, h1⟩ | ⟨j, h1, h2, h3⟩
    · have e : passP (n + 1) now es = ([], es) := by unfold passP; rw [h1]
      rw [e]; exact ⟨h, Nat.le_refl _⟩
    · have e : passP (n + 1) now es = if (es.getD j default).a > now then ([], es) else (upS (es.getD j default) :: (passP n now (upE es j)).1, (passP n now (upE es j)).2) := by
        show (match fU es es.length with
          | none => ([], es)
          | some i => if (es.getD i default).a > now then ([], es) else (upS (es.getD i default) :: (passP n now (upE es i)).1, (passP n now (upE es i)).2)) = _
        rw [h1]
      rw [e]
      split
      · exact ⟨h, Nat.le_refl _⟩
      · have := passP_ok n now (upE es j) (upE_uniq h h2)
        exact ⟨this.1, Nat.le_trans this.2 (upE_len es j)⟩
theorem Ok.pass {es : List Ex} {now : Int} (h : Ok es now) (n : Int) : Ok (passP 20 (clk n now) es).2 (clk n now) := by
  have hc := clk_ok (n := n) h.n0 h.n1
  have hm := meas_le h.good
  have hl := h.len
  have sp := passP_spec 20 (clk n now) es (by omega) h.good
  have su := passP_ok 20 (clk n now) es h.uniq
  exact ⟨sp.1, by omega, su.1, hc.1, hc.2⟩
theorem Ok.nil {es : List Ex} {now : Int} (h : Ok es now) : Ok [] now := ⟨fun x hx => (by cases hx), Nat.zero_le _, List.Pairwise.nil, h.n0, h.n1⟩
abbrev V6 := List CV × Int × Int × List CV × Int × Nat × Int × List CV
end
end Exc
end Go.Proofs.YtfllanhepeginaaD
