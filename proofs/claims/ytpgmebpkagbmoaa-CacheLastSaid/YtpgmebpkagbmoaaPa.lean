/- What the functions of the cache compute, in plain words. -/
import Derived.Test.YtpgmebpkagbmoaaD
import Derived.Test.YtpgmebpkagbmoaaPL
namespace Go.Proofs.YtpgmebpkagbmoaaD
open Go Go.Proofs.YtpgmebpkagbmoaaS Go.Proofs
set_option linter.unusedVariables false
set_option linter.unusedSimpArgs false
section
variable {X : Type}
theorem alive_eq (n : Nat) (K : Bool → Option X) : f6 (n + 20) K = K true := by kernel_rfl
theorem same_eq {k : Nat} (K : Bool → Option X) (a b : List Int) (hk : a.length < k) (hl : a.length < 4611686018427387904) : f14 k K (by8 a) (by8 b) = K (decide (a = b)) := by
  unfold f14 f14_T
  by_cases h : a.length = b.length
  · have key := iterV_spec (T := f14_L1 k K) (fun i => (by8 a, by8 b, (i : Int))) (fun i => K (decide (a.drop i = b.drop i))) a.length (fun i rec hi hr => by
      have hb : i < b.length := by omega
      unfold f14_L1 f14_T1
      simp only [by8_length, by8_get, Int.toNat_natCast, List.getElem?_eq_getElem hi, List.getElem?_eq_getElem hb, Option.map_some, Option.bind_some, isI_int, toI_int, grd_true, dec0, decLt, hi, decide_true, cond_true, wrap64_succ (show i < 4611686018427387904 by omega), hr]
      conv => rhs; rw [List.drop_eq_getElem_cons hi, List.drop_eq_getElem_cons hb]
      by_cases e : a[i] = b[i]
      · rw [show (a[i] != b[i]) = false by simp [e]]
        simp only [cond_false, List.cons.injEq, e, true_and]
      · rw [show (a[i] != b[i]) = true by simp [e]]
        simp only [cond_true, List.cons.injEq, e, false_and, decide_false]) (fun rec => by
      unfold f14_L1 f14_T1
      simp only [by8_length, bif_dec]
      rw [if_neg (by omega)]
      simp [h]) k 0 (Nat.zero_le _) (by omega)
    simp only [by8_length, h] at key ⊢
    simpa using key
  · have : a ≠ b := fun e => h (by rw [e])
    have h' : ((a.length : Int) != (b.length : Int)) = true := by simp; omega
    simp only [by8_length, h', cond_true, this, decide_false]
theorem clone_eq {k : Nat} (K : List CV → Option X) (x : List CV) (h : x.length < 70368744177664) : f21 k K x = K x := by
  unfold f21
  rw [grd_dec (by omega)]
/-- What is kept. -/
structure Kp where
  f : Int
  i : Int
  a : Int
  r : List Int
  deriving DecidableEq, Inhabited
def Kp.en (x : Kp) : CV := .agg [.int .i64 x.f, .int .i64 x.i, .int .i64 x.a, .slc none (by8 x.r)]
def row (ks : List Kp) : List CV := ks.map Kp.en
theorem row_length (ks : List Kp) : (row ks).length = ks.length := by simp [row]
theorem row_get (ks : List Kp) (i : Nat) : (row ks)[i]? = ks[i]?.map Kp.en := by simp [row]
theorem en_isA (x : Kp) : CV.isA 4 x.en = true := rfl
theorem en_0 (x : Kp) : CV.cellD 0 x.en = .int .i64 x.f := rfl
theorem en_1 (x : Kp) : CV.cellD 1 x.en = .int .i64 x.i := rfl
theorem en_2 (x : Kp) : CV.cellD 2 x.en = .int .i64 x.a := rfl
theorem en_3 (x : Kp) : CV.cellD 3 x.en = .slc none (by8 x.r) := rfl
theorem en_c0 (x : Kp) : CV.cell x.en 0 = some (.int .i64 x.f) := rfl
theorem en_c1 (x : Kp) : CV.cell x.en 1 = some (.int .i64 x.i) := rfl
theorem en_c2 (x : Kp) : CV.cell x.en 2 = some (.int .i64 x.a) := rfl
theorem en_c3 (x : Kp) : CV.cell x.en 3 = some (.slc none (by8 x.r)) := rfl
theorem en_fit (x : Kp) : fitSh (some 4) x.en = true := rfl
def is (a b : Int) (x : Kp) : Bool := x.f == a && x.i == b
theorem is_eq {k : Nat} (K : Bool → Option X) (x : Kp) (a b : Int) : f26 k K x.en a b = K (is a b x) := by
  unfold f26 f26_T is
  simp only [en_isA, en_0, en_1, en_2, en_3, isI_int, isL_slc, toI_int, grd_true]
  cases x.f == a <;> rfl
def ixI (o : Option Nat) : Int := match o with
  | some i => (i : Nat)
  | none => -1
theorem indexFunc_eq {k : Nat} (K : Int → Option X) (ks : List Kp) (a b : Int) (hk : ks.length < k) (hl : ks.length < 4611686018427387904) : f25 k K (row ks) a b = K (ixI (ks.findIdx? (is a b))) := by
  unfold f25 f25_T
  have key := iterV_spec (T := f25_L1 k K) (fun i => (row ks, a, b, ((ks.length : Nat) : Int), (i : Int))) (fun i => K (ixI (((ks.drop i).findIdx? (is a b)).map (i + ·)))) ks.length (fun i rec hi hr => by
    unfold f25_L1 f25_T1
    simp only [row_get, Int.toNat_natCast, List.getElem?_eq_getElem hi, Option.map_some, Option.bind_some, grd_true, dec0, decLt, hi, decide_true, cond_true, is_eq, wrap64_succ (show i < 4611686018427387904 by omega), hr]
    conv => rhs; rw [List.drop_eq_getElem_cons hi, List.findIdx?_cons]
    cases e : is a b ks[i] with
    | true => simp [ixI]
    | false =>
      simp only [cond_false, Bool.false_eq_true, if_false, Option.map_map]
      congr 2
      cases List.findIdx? (is a b) (List.drop (i + 1) ks) with
      | none => rfl
      | some j => simp; omega) (fun rec => by
    unfold f25_L1 f25_T1
    simp [ixI]) k 0 (Nat.zero_le _) (by omega)
  simp only [row_length]
  simpa using key
theorem index_eq {k : Nat} (K : Int × Nat × List CV → Option X) (ks : List Kp) (a b : Int) (hk : ks.length < k) (hl : ks.length < 4611686018427387904) : f18 k K a b ks.length (row ks) = K (ixI (ks.findIdx? (is a b)), ks.length, row ks) := by
  unfold f18 f18_T
  have h1 : List.take ks.length (List.drop 0 (row ks)) = row ks := by rw [List.drop_zero, List.take_of_length_le (by simp [row])]
  have h2 : List.take (0 + ks.length) (row ks) = row ks := by rw [Nat.zero_add, List.take_of_length_le (by simp [row])]
  rw [h1, indexFunc_eq _ _ _ _ hk hl, h2]
theorem del_eq {k : Nat} (K : Nat × List CV → Option X) (xs : List CV) (i : Nat) (hi : i < xs.length) : f19 k K xs.length (i : Int) ((i + 1 : Nat) : Int) xs = K (xs.length - 1, xs.eraseIdx i) := by
  unfold f19 f19_T
  have e0 : ((i : Int) == ((i + 1 : Nat) : Int)) = false := by simp; omega
  simp only [Int.toNat_natCast, Nat.zero_add, Nat.sub_zero, e0, cond_false]
  repeat (refine (grd_of ?_).trans ?_; · simp; try omega)
  congr 1
  refine Prod.ext ?_ ?_
  · simp; omega
  · simp only [List.length_take, List.length_drop, List.length_append]
    rw [List.eraseIdx_eq_take_drop_succ]
    rw [Nat.min_self, List.take_of_length_le (l := List.drop (i + 1) xs) (by simp)]
    exact take_del (by simp; omega)
def cl (n : Int) : Int := if 1099511627776 < (if 0 > n then 0 else n) then 1099511627776 else (if 0 > n then 0 else n)
theorem clock_eq {k : Nat} (K : Int → Option X) (n : Int) : f20 k K n = K (cl n) := rfl
def elUp (ks : List Kp) : Nat → Nat
  | 0 => 0
  | i + 1 => if (ks.getD i default).a < (ks.getD (elUp ks i) default).a then i else elUp ks i
theorem elUp_lt (ks : List Kp) (h : 0 < ks.length) : ∀ i, i ≤ ks.length → elUp ks i < ks.length
  | 0, _ => h
  | i + 1, hi => by
    unfold elUp
    split
    · omega
    · exact elUp_lt ks h i (by omega)
theorem eldest_eq {k : Nat} (K : Int × Nat × List CV → Option X) (ks : List Kp) (hk : ks.length < k) (hl : ks.length < 4611686018427387904) : f22 k K ks.length (row ks) = K (((elUp ks ks.length : Nat) : Int), ks.length, row ks) := by
  unfold f22 f22_T
  refine iterV_spec (T := f22_L1 k K) (fun i => (((elUp ks i : Nat) : Int), ks.length, ((ks.length : Nat) : Int), (i : Int), ks.length, row ks)) (fun i => K (((elUp ks ks.length : Nat) : Int), ks.length, row ks)) ks.length (fun i rec hi hr => ?_) (fun rec => ?_) k 0 (Nat.zero_le _) (by omega)
  · have he := elUp_lt ks (by omega) i (by omega)
    rw [← hr]
    unfold f22_L1 f22_T1
    simp only [f22_J1, row_get, Int.toNat_natCast, Nat.zero_add, List.getElem?_eq_getElem hi, List.getElem?_eq_getElem he, Option.map_some, Option.bind_some, grd_true, dec0, decLt, hi, he, decide_true, cond_true, wrap64_succ (show i < 4611686018427387904 by omega), en_isA, en_0, en_1, en_2, en_3, en_c2, isI_int, isL_slc, toI_int]
    have e : elUp ks (i + 1) = if ks[i].a < ks[elUp ks i].a then i else elUp ks i := by
      show (if (ks.getD i default).a < (ks.getD (elUp ks i) default).a then i else elUp ks i) = _
      simp [List.getD_eq_getElem?_getD, List.getElem?_eq_getElem hi, List.getElem?_eq_getElem he]
    rw [e]
    by_cases hc : ks[i].a < ks[elUp ks i].a
    · simp [hc]
    · simp [hc]
  · unfold f22_L1 f22_T1
    simp [List.take_of_length_le, row_length]
def keepAt (ks : List Kp) (a b now : Int) (r : List Int) : List Kp := (match ks.findIdx? (is a b) with
  | some i => ks.eraseIdx i
  | none => ks) ++ [⟨a, b, cl now, r⟩]
def keepP (ks : List Kp) (a b now : Int) (r : List Int) : List Kp :=
  if (keepAt ks a b now r).length > 8 then (keepAt ks a b now r).eraseIdx (elUp (keepAt ks a b now r) (keepAt ks a b now r).length) else keepAt ks a b now r
theorem eraseIdx_row : ∀ (ks : List Kp) (i : Nat), (row ks).eraseIdx i = row (ks.eraseIdx i)
  | [], _ => rfl
  | _ :: _, 0 => rfl
  | x :: l, i + 1 => congrArg (x.en :: ·) (eraseIdx_row l i)
theorem keepAt_length (ks : List Kp) (a b now : Int) (r : List Int) : (keepAt ks a b now r).length ≤ ks.length + 1 := by
  unfold keepAt
  split
  · simp [List.length_eraseIdx]; split <;> omega
  · simp
theorem row_append (a b : List Kp) : row (a ++ b) = row a ++ row b := by simp [row]
theorem keepJ_eq {k : Nat} (K : Nat × List CV → Option X) (ks' : List Kp) (a b now : Int) (r : List Int) (hk : ks'.length + 1 < k) (hl : ks'.length < 1000000) (hr : r.length < 70368744177664) :
    f9_J1 k K a b now (by8 r) (ks'.length, row ks') = (fun l : List Kp => if l.length > 8 then K ((l.eraseIdx (elUp l l.length)).length, row (l.eraseIdx (elUp l l.length))) else K (l.length, row l)) (ks' ++ [⟨a, b, cl now, r⟩]) := by
  unfold f9_J1
  rw [clock_eq, clone_eq _ _ (by simpa [by8_length] using hr)]
  have e1 : List.take (by8 r).length (List.drop 0 (by8 r)) = by8 r := by simp
  have e2 : List.take ks'.length (row ks') = row ks' := List.take_of_length_le (by simp [row])
  have e3 : List.take 1 (List.drop 0 [CV.agg [CV.int .i64 a, CV.int .i64 b, CV.int .i64 (cl now), CV.slc none (by8 r)]]) = row [⟨a, b, cl now, r⟩] := rfl
  have e4 : (row [⟨a, b, cl now, r⟩]).length = 1 := rfl
  simp only [e1, e2, e3, e4, ← row_append]
  rw [grd_dec (by omega)]
  have e5 : (ks' ++ [⟨a, b, cl now, r⟩] : List Kp).length = ks'.length + 1 := by simp
  generalize hL : (ks' ++ [⟨a, b, cl now, r⟩] : List Kp) = L at *
  rw [← e5, bif_dec]
  by_cases h8 : L.length > 8
  · rw [if_pos (by omega)]
    have hel := elUp_lt L (by omega) L.length (Nat.le_refl _)
    rw [eldest_eq _ _ (by omega) (by omega)]
    simp only [wrap64_succ (show elUp L L.length < 4611686018427387904 by omega)]
    have := del_eq (k := k) (fun u => K (u.1, List.take (0 + u.1) u.2)) (row L) (elUp L L.length) (by simpa [row_length] using hel)
    rw [row_length] at this
    rw [this, eraseIdx_row]
    simp only [if_pos h8]
    have e6 : (L.eraseIdx (elUp L L.length)).length = L.length - 1 := by rw [List.length_eraseIdx, if_pos hel]
    rw [e6, Nat.zero_add, List.take_of_length_le (by rw [row_length, e6]; exact Nat.le_refl _)]
  · rw [if_neg (by omega)]
    simp only [if_neg h8]
    rw [Nat.zero_add, List.take_of_length_le (by simp [row])]
theorem keep_eq {k : Nat} (K : Nat × List CV → Option X) (ks : List Kp) (a b now : Int) (r : List Int) (hk : ks.length + 1 < k) (hl : ks.length < 1000000) (hr : r.length < 70368744177664) :
    f9 k K a b now (by8 r) ks.length (row ks) = K ((keepP ks a b now r).length, row (keepP ks a b now r)) := by
  unfold f9 f9_T
  rw [index_eq _ _ _ _ (by omega) (by omega)]
  have fin : ∀ ks' : List Kp, ks'.length ≤ ks.length → keepAt ks a b now r = ks' ++ [⟨a, b, cl now, r⟩] → f9_J1 k K a b now (by8 r) (ks'.length, row ks') = K ((keepP ks a b now r).length, row (keepP ks a b now r)) := fun ks' h1 h2 => by
    rw [keepJ_eq _ _ _ _ _ _ (by omega) (by omega) hr]
    unfold keepP
    rw [h2]
    simp only
    split <;> rfl
  cases hf : ks.findIdx? (is a b) with
  | none =>
    have : (decide (ixI none ≥ 0)) = false := rfl
    simp only [this, cond_false]
    exact fin ks (Nat.le_refl _) (by unfold keepAt; rw [hf])
  | some i =>
    have hi : i < ks.length := by
      have := List.findIdx?_eq_some_iff_findIdx_eq.1 hf
      exact this.1
    have : (decide (ixI (some i) ≥ 0)) = true := by simp [ixI]
    simp only [this, cond_true]
    have hd := del_eq (k := k) (fun u => f9_J1 k K a b now (by8 r) (u.1, u.2)) (row ks) i (by simpa [row_length] using hi)
    rw [row_length] at hd
    show f19 k _ ks.length (i : Int) (IntKind.wrap .i64 ((i : Int) + 1)) (row ks) = _
    rw [wrap64_succ (by omega), hd, eraseIdx_row]
    have e6 : (ks.eraseIdx i).length = ks.length - 1 := by rw [List.length_eraseIdx, if_pos hi]
    rw [← e6]
    exact fin _ (by omega) (by unfold keepAt; rw [hf])
def fr (now : Int) (x : Kp) : Bool := decide (IntKind.wrap .i64 (cl now - x.a) < 247)
theorem fresh_eq {k : Nat} (K : Bool → Option X) (x : Kp) (now : Int) : f24 k K x.en now = K (fr now x) := by
  unfold f24 f24_T
  simp only [en_isA, en_0, en_1, en_2, en_3, isI_int, isL_slc, grd_true, toI_int, clock_eq]
  rfl
def findP (ks : List Kp) (a b now : Int) : Option (List Int) := match ks.find? (is a b) with
  | some x => if fr now x then some x.r else none
  | none => none
/-- What an answer of Find is. -/
def fnd (o : Option (List Int)) (ks : List Kp) : Nat × Bool × Nat × List CV × List CV := match o with
  | some r => (r.length, true, ks.length, row ks, by8 r)
  | none => (0, false, ks.length, row ks, [])
theorem find_eq {k : Nat} (K : Nat × Bool × Nat × List CV × List CV → Option X) (ks : List Kp) (a b now : Int) (hk : ks.length < k) (hl : ks.length < 4611686018427387904) (hr : ∀ x ∈ ks, x.r.length < 70368744177664) :
    f12 k K a b now ks.length (row ks) = K (fnd (findP ks a b now) ks) := by
  unfold f12 f12_T
  rw [index_eq _ _ _ _ (by omega) (by omega)]
  have e2 : List.take (0 + ks.length) (row ks) = row ks := by rw [Nat.zero_add]; exact List.take_of_length_le (by simp [row])
  simp only [e2]
  cases hf : ks.findIdx? (is a b) with
  | none =>
    have h2 : ks.find? (is a b) = none := by
      rw [List.find?_eq_none]
      simpa using List.findIdx?_eq_none_iff.1 hf
    have : (decide (ixI none < 0)) = true := rfl
    simp only [this, cond_true, findP, h2, fnd]
    rfl
  | some i =>
    obtain ⟨hi, hp⟩ := List.findIdx?_eq_some_iff_findIdx_eq.1 hf
    have h2 : ks.find? (is a b) = some ks[i] := by
      rw [List.find?_eq_getElem?_findIdx, hp, List.getElem?_eq_getElem hi]
    have : (decide (ixI (some i) < 0)) = false := decide_eq_false (by show ¬ (((i : Nat) : Int) < 0); omega)
    simp only [this, cond_false, findP, h2]
    simp only [ixI, Int.toNat_natCast, Nat.zero_add, row_get, List.getElem?_eq_getElem hi, Option.map_some, Option.bind_some, dec0, decLt, hi, decide_true, grd_true, fresh_eq, en_c3, isL_slc, toL_slc]
    cases hfr : fr now ks[i] with
    | false => simp [fnd, grd_true, hi]
    | true =>
      rw [clone_eq _ _ (by simpa [by8_length] using hr ks[i] (List.getElem_mem hi))]
      simp [fnd, by8_length, grd_true, hi, List.take_of_length_le]
theorem len_eq {k : Nat} (K : Int × Nat × List CV → Option X) (ks : List Kp) (now : Int) (hk : ks.length < k) (hl : ks.length < 1000000) : f15 k K now ks.length (row ks) = K (((ks.countP (fr now) : Nat) : Int), ks.length, row ks) := by
  unfold f15 f15_T
  refine iterV_spec (T := f15_L1 k K) (fun i => (now, (((ks.take i).countP (fr now) : Nat) : Int), ks.length, ((ks.length : Nat) : Int), (i : Int), ks.length, row ks)) (fun i => K (((ks.countP (fr now) : Nat) : Int), ks.length, row ks)) ks.length (fun i rec hi hr => ?_) (fun rec => ?_) k 0 (Nat.zero_le _) (by omega)
  · rw [← hr]
    unfold f15_L1 f15_T1
    have hc : (ks.take i).countP (fr now) ≤ i := Nat.le_trans (List.countP_le_length) (by simp; omega)
    have hen : ∀ x : Kp, CV.agg [CV.int .i64 x.f, CV.int .i64 x.i, CV.int .i64 x.a, CV.slc none (by8 x.r)] = x.en := fun _ => rfl
    simp only [f15_J1, row_get, Int.toNat_natCast, Nat.zero_add, List.getElem?_eq_getElem hi, Option.map_some, Option.bind_some, grd_true, dec0, decLt, hi, decide_true, cond_true, en_isA, en_0, en_1, en_2, en_3, isI_int, isL_slc, toI_int, toL_slc, hen, fresh_eq, wrap64_succ (show i < 4611686018427387904 by omega), wrap64_succ (show (ks.take i).countP (fr now) < 4611686018427387904 by omega)]
    rw [List.take_succ_eq_append_getElem hi, List.countP_append, List.countP_singleton]
    cases fr now ks[i] <;> simp
  · unfold f15_L1 f15_T1
    simp [List.take_of_length_le, row_length]
theorem new_eq {k : Nat} (K : List CV → Option X) : f8 k K = K (row []) := rfl
theorem clear_eq {k : Nat} (K : List CV → Option X) (n : Nat) (xs : List CV) : f11 k K n xs = K (row []) := rfl
/-- The cache, and what is kept for one endpoint's message. -/
theorem apart_eq {k : Nat} (K : Bool → Option X) (a b now : Int) (r : List Int) (c d : Int) (hk : 1100 ≤ k) : f5 k K a b now (by8 r) c d = K true := by
  unfold f5 f5_T
  obtain ⟨n, rfl⟩ : ∃ n, k = n + 20 := ⟨k - 20, by omega⟩
  rw [alive_eq]
  simp only [Bool.not_true, cond_false, by8_length]
  by_cases hr : r.length > 1000
  · have : decide ((r.length : Int) > 1000) = true := by simp; omega
    rw [this]; rfl
  · have : decide ((r.length : Int) > 1000) = false := by simp; omega
    rw [this]
    simp only [cond_false]
    have hx : keepP [] a b now r = [⟨a, b, cl now, r⟩] := rfl
    have hfr : fr now ⟨a, b, cl now, r⟩ = true := by simp [fr, wrap64]
    have hf : ∀ c d : Int, findP [⟨a, b, cl now, r⟩] c d now = if c = a ∧ d = b then some r else none := fun c d => by
      unfold findP
      by_cases h : c = a ∧ d = b
      · obtain ⟨rfl, rfl⟩ := h
        simp [List.find?, is, hfr]
      · have : is c d ⟨a, b, cl now, r⟩ = false := by
          simp only [is, Bool.and_eq_false_iff, beq_eq_false_iff_ne]
          rcases Decidable.not_and_iff_or_not.1 h with h | h
          · exact .inl fun e => h e.symm
          · exact .inr fun e => h e.symm
        simp [List.find?, this, h]
    rw [new_eq]
    refine (keep_eq _ [] a b now r (by simp) (by simp) (by omega)).trans ?_
    rw [hx]
    have hrr : ∀ x ∈ [(⟨a, b, cl now, r⟩ : Kp)], x.r.length < 70368744177664 := fun x hx => by simp at hx; subst hx; simp; omega
    refine (find_eq _ _ a b now (by simp) (by simp) hrr).trans ?_
    rw [hf]
    simp only [and_self, if_true, fnd]
    refine (find_eq _ _ c d now (by simp) (by simp) hrr).trans ?_
    rw [hf]
    have hs : ∀ K : Bool → Option X, f14 (n + 20) K (List.take r.length (List.drop 0 (by8 r))) (by8 r) = K true := fun K => by
      rw [show List.take r.length (List.drop 0 (by8 r)) = by8 r by simp [List.take_of_length_le, by8_length], same_eq _ _ _ (by omega) (by omega)]
      simp
    have hl : ∀ K : Int × Nat × List CV → Option X, f15 (n + 20) K now 1 (row [⟨a, b, cl now, r⟩]) = K (1, 1, row [⟨a, b, cl now, r⟩]) := fun K => by
      refine (len_eq K [⟨a, b, cl now, r⟩] now (by simp) (by simp)).trans ?_
      simp [hfr]
    simp only [cond_true, hs]
    by_cases h1 : c = a
    · by_cases h2 : d = b
      · simp only [h1, h2, and_self, if_true, fnd, beq_self_eq_true, cond_true, List.length_singleton, hl]
      · have e2 : (d == b) = false := by simpa using h2
        simp only [h1, h2, and_false, if_false, fnd, beq_self_eq_true, e2, cond_true, List.length_singleton, hl]
    · have e1 : (c == a) = false := by simpa using h1
      simp only [h1, false_and, if_false, fnd, beq_self_eq_true, e1, cond_true, cond_false, List.length_singleton, hl]
theorem law_apart (a : Int) (_ : (Lit.int .i64 a).wf = true) (b : Int) (_ : (Lit.int .i64 b).wf = true) (now : Int) (_ : (Lit.int .i64 now).wf = true) (r : List Int) (_ : r.length ≤ maxLen ∧ ∀ x ∈ r, (Lit.int .u8 x).wf = true) (c : Int) (_ : (Lit.int .i64 c).wf = true) (d : Int) (_ : (Lit.int .i64 d).wf = true) :
    ∃ k, ∀ K : Bool → Option Out, f5 k K a b now (by8 r) c d = K true := ⟨1100, fun K => apart_eq K a b now r c d (Nat.le_refl _)⟩
end
end Go.Proofs.YtpgmebpkagbmoaaD
