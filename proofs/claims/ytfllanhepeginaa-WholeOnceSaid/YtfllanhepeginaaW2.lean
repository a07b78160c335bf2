/- Plain texts joined (by cut.py). -/
import Derived.Test.YtfllanhepeginaaD
import Derived.Test.YtfllanhepeginaaPM
namespace Go.Proofs.YtfllanhepeginaaD
open Go Go.Proofs.YtfllanhepeginaaS Go.Proofs
set_option linter.unusedVariables false
set_option linter.unusedSimpArgs false
namespace Cch
section
variable {X : Type}
theorem same_eq {k : Nat} (K : Bool → Option X) (a b : List Int) (hk : a.length < k) (hl : a.length < 4611686018427387904) : f13 k K (by8 a) (by8 b) = K (decide (a = b)) := by
  unfold f13 f13_A f13_T
  try dsimp only
  by_cases h : a.length = b.length
  · have key := iterV_spec (T := f13_L1 k K) (fun i => (by8 a, by8 b, (i : Int))) (fun i => K (decide (a.drop i = b.drop i))) a.length (fun i rec hi hr => by
      have hb : i < b.length := by omega
      unfold f13_L1 f13_T1
      simp only [by8_length, by8_get, Int.toNat_natCast, List.getElem?_eq_getElem hi, List.getElem?_eq_getElem hb, Option.map_some, Option.bind_some, isI_int, toI_int, grd_true, dec0, decLt, hi, decide_true, cond_true, wrap64_succ (show i < 4611686018427387904 by omega), hr]
      conv => rhs; rw [List.drop_eq_getElem_cons hi, List.drop_eq_getElem_cons hb]
      by_cases e : a[i] = b[i]
      · rw [show (a[i] != b[i]) = false by simp [e]]
        simp only [cond_false, List.cons.injEq, e, true_and]
      · rw [show (a[i] != b[i]) = true by simp [e]]
        simp only [cond_true, List.cons.injEq, e, false_and, decide_false]) (fun rec => by
      unfold f13_L1 f13_T1
      simp only [by8_length, bif_dec]
      rw [if_neg (by omega)]
      simp [h]) k 0 (Nat.zero_le _) (by omega)
    simp only [by8_length, h] at key ⊢
    simpa using key
  · have : a ≠ b := fun e => h (by rw [e])
    have h' : ((a.length : Int) != (b.length : Int)) = true := by simp; omega
    simp only [by8_length, h', cond_true, this, decide_false]
theorem clone_eq {k : Nat} (K : List CV → Option X) (x : List CV) (h : x.length < 70368744177664) : f29 k K x = K x := by
  unfold f29
  rw [grd_dec (by omega)]
/-- What is kept. -/
structure Kp where
  f : Int
  i : Int
  a : Int
  r : List Int
  deriving DecidableEq, Inhabited
def Kp.en (x : Kp) : CV := .agg [.int .i64 x.f, .int .i64 x.i, .int .i64 x.a, .slc none (by8 x.r)]
def row (ks : List Kp) : List CV := ks.map Kp.en
theorem row_length (ks : List Kp) : (row ks).length = ks.length := by simp [row]
theorem row_get (ks : List Kp) (i : Nat) : (row ks)[i]? = ks[i]?.map Kp.en := by simp [row]
theorem en_isA (x : Kp) : CV.isA 4 x.en = true := rfl
theorem en_0 (x : Kp) : CV.cellD 0 x.en = .int .i64 x.f := rfl
theorem en_1 (x : Kp) : CV.cellD 1 x.en = .int .i64 x.i := rfl
theorem en_2 (x : Kp) : CV.cellD 2 x.en = .int .i64 x.a := rfl
theorem en_3 (x : Kp) : CV.cellD 3 x.en = .slc none (by8 x.r) := rfl
theorem en_c0 (x : Kp) : CV.cell x.en 0 = some (.int .i64 x.f) := rfl
theorem en_c1 (x : Kp) : CV.cell x.en 1 = some (.int .i64 x.i) := rfl
theorem en_c2 (x : Kp) : CV.cell x.en 2 = some (.int .i64 x.a) := rfl
theorem en_c3 (x : Kp) : CV.cell x.en 3 = some (.slc none (by8 x.r)) := rfl
theorem en_fit (x : Kp) : fitSh (some 4) x.en = true := rfl
def is (a b : Int) (x : Kp) : Bool := x.f == a && x.i == b
theorem is_eq {k : Nat} (K : Bool → Option X) (x : Kp) (a b : Int) : f49 k K x.en a b = K (is a b x) := by
  unfold f49 f49_A f49_T is
  try dsimp only
  simp only [en_isA, en_0, en_1, en_2, en_3, isI_int, isL_slc, toI_int, grd_true]
  cases x.f == a <;> rfl
def ixI (o : Option Nat) : Int := match o with
  | some i => (i : Nat)
  | none => -1
theorem indexFunc_eq {k : Nat} (K : Int → Option X) (ks : List Kp) (a b : Int) (hk : ks.length < k) (hl : ks.length < 4611686018427387904) : f48 k K (row ks) a b = K (ixI (ks.findIdx? (is a b))) := by
  unfold f48 f48_A f48_T
  try dsimp only
  have key := iterV_spec (T := f48_L1 (fun X => @f49 X k) k K) (fun i => (row ks, a, b, ((ks.length : Nat) : Int), (i : Int))) (fun i => K (ixI (((ks.drop i).findIdx? (is a b)).map (i + ·)))) ks.length (fun i rec hi hr => by
    unfold f48_L1 f48_T1
    simp only [row_get, Int.toNat_natCast, List.getElem?_eq_getElem hi, Option.map_some, Option.bind_some, grd_true, dec0, decLt, hi, decide_true, cond_true, is_eq, wrap64_succ (show i < 4611686018427387904 by omega), hr]
    conv => rhs; rw [List.drop_eq_getElem_cons hi, List.findIdx?_cons]
    cases e : is a b ks[i] with
    | true => simp [ixI]
    | false =>
      simp only [cond_false, Bool.false_eq_true, if_false, Option.map_map]
      congr 2
      cases List.findIdx? (is a b) (List.drop (i + 1) ks) with
      | none => rfl
      | some j => simp; omega) (fun rec => by
    unfold f48_L1 f48_T1
    simp [ixI]) k 0 (Nat.zero_le _) (by omega)
  simp only [row_length]
  simpa using key
theorem index_eq {k : Nat} (K : Int × Nat × List CV → Option X) (ks : List Kp) (a b : Int) (hk : ks.length < k) (hl : ks.length < 4611686018427387904) : f35 k K a b ks.length (row ks) = K (ixI (ks.findIdx? (is a b)), ks.length, row ks) := by
  unfold f35 f35_A f35_T
  try dsimp only
  have h1 : List.take ks.length (List.drop 0 (row ks)) = row ks := by rw [List.drop_zero, List.take_of_length_le (by simp [row])]
  have h2 : List.take (0 + ks.length) (row ks) = row ks := by rw [Nat.zero_add, List.take_of_length_le (by simp [row])]
  rw [h1, indexFunc_eq _ _ _ _ hk hl, h2]
theorem del_eq {k : Nat} (K : Nat × List CV → Option X) (xs : List CV) (i : Nat) (hi : i < xs.length) : f38 k K xs.length (i : Int) ((i + 1 : Nat) : Int) xs = K (xs.length - 1, xs.eraseIdx i) := by
  unfold f38 f38_A f38_T
  try dsimp only
  have e0 : ((i : Int) == ((i + 1 : Nat) : Int)) = false := by simp; omega
  simp only [Int.toNat_natCast, Nat.zero_add, Nat.sub_zero, e0, cond_false]
  repeat (refine (grd_of ?_).trans ?_; · simp; try omega)
  refine (bifT (decide_eq_true (by omega))).trans ?_
  repeat (refine (grd_of ?_).trans ?_; · simp; try omega)
  congr 1
  refine Prod.ext ?_ ?_
  · simp; omega
  · simp only [List.length_take, List.length_drop, List.length_append]
    rw [List.eraseIdx_eq_take_drop_succ]
    rw [Nat.min_self, List.take_of_length_le (l := List.drop (i + 1) xs) (by simp)]
    exact take_del (by simp; omega)
def cl (n : Int) : Int := if 1099511627776 < (if 0 > n then 0 else n) then 1099511627776 else (if 0 > n then 0 else n)
theorem clock_eq {k : Nat} (K : Int → Option X) (n : Int) : f39 k K n = K (cl n) := rfl
def elUp (ks : List Kp) : Nat → Nat
  | 0 => 0
  | i + 1 => if (ks.getD i default).a < (ks.getD (elUp ks i) default).a then i else elUp ks i
theorem elUp_lt (ks : List Kp) (h : 0 < ks.length) : ∀ i, i ≤ ks.length → elUp ks i < ks.length
  | 0, _ => h
  | i + 1, hi => by
    unfold elUp
    split
    · omega
    · exact elUp_lt ks h i (by omega)
theorem eldest_eq {k : Nat} (K : Int × Nat × List CV → Option X) (ks : List Kp) (hk : ks.length < k) (hl : ks.length < 4611686018427387904) : f40 k K ks.length (row ks) = K (((elUp ks ks.length : Nat) : Int), ks.length, row ks) := by
  unfold f40 f40_A f40_T
  try dsimp only
  refine iterV_spec (T := f40_L1 k K) (fun i => (((elUp ks i : Nat) : Int), ks.length, ((ks.length : Nat) : Int), (i : Int), ks.length, row ks)) (fun i => K (((elUp ks ks.length : Nat) : Int), ks.length, row ks)) ks.length (fun i rec hi hr => ?_) (fun rec => ?_) k 0 (Nat.zero_le _) (by omega)
  · have he := elUp_lt ks (by omega) i (by omega)
    rw [← hr]
    unfold f40_L1 f40_T1
    simp only [f40_J1, row_get, Int.toNat_natCast, Nat.zero_add, List.getElem?_eq_getElem hi, List.getElem?_eq_getElem he, Option.map_some, Option.bind_some, grd_true, dec0, decLt, hi, he, decide_true, cond_true, wrap64_succ (show i < 4611686018427387904 by omega), en_isA, en_0, en_1, en_2, en_3, en_c2, isI_int, isL_slc, toI_int]
    have e : elUp ks (i + 1) = if ks[i].a < ks[elUp ks i].a then i else elUp ks i := by
      show (if (ks.getD i default).a < (ks.getD (elUp ks i) default).a then i else elUp ks i) = _
      simp [List.getD_eq_getElem?_getD, List.getElem?_eq_getElem hi, List.getElem?_eq_getElem he]
    rw [e]
    by_cases hc : ks[i].a < ks[elUp ks i].a
    · simp [hc]
    · simp [hc]
  · unfold f40_L1 f40_T1
    simp [List.take_of_length_le, row_length]
def keepAt (ks : List Kp) (a b now : Int) (r : List Int) : List Kp := (match ks.findIdx? (is a b) with
  | some i => ks.eraseIdx i
  | none => ks) ++ [⟨a, b, cl now, r⟩]
def keepP (ks : List Kp) (a b now : Int) (r : List Int) : List Kp :=
  if (keepAt ks a b now r).length > 8 then (keepAt ks a b now r).eraseIdx (elUp (keepAt ks a b now r) (keepAt ks a b now r).length) else keepAt ks a b now r
theorem eraseIdx_row : ∀ (ks : List Kp) (i : Nat), (row ks).eraseIdx i = row (ks.eraseIdx i)
  | [], _ => rfl
  | _ :: _, 0 => rfl
  | x :: l, i + 1 => congrArg (x.en :: ·) (eraseIdx_row l i)
theorem keepAt_length (ks : List Kp) (a b now : Int) (r : List Int) : (keepAt ks a b now r).length ≤ ks.length + 1 := by
  unfold keepAt
  split
  · simp [List.length_eraseIdx]; split <;> omega
  · simp
theorem row_append (a b : List Kp) : row (a ++ b) = row a ++ row b := by simp [row]
theorem keepJ_eq {k : Nat} (K : Nat × List CV → Option X) (ks' : List Kp) (a b now : Int) (r : List Int) (hk : ks'.length + 1 < k) (hl : ks'.length < 1000000) (hr : r.length < 70368744177664) :
    f17_J1 (fun X => @f35 X k) (fun X => @f38 X k) (fun X => @f39 X k) (fun X => @f29 X k) (fun X => @f40 X k) k K a (b, now, by8 r, ks'.length, row ks') = (fun l : List Kp => if l.length > 8 then K ((l.eraseIdx (elUp l l.length)).length, row (l.eraseIdx (elUp l l.length))) else K (l.length, row l)) (ks' ++ [⟨a, b, cl now, r⟩]) := by
  unfold f17_J1
  dsimp only
  rw [clock_eq, clone_eq _ _ (by simpa [by8_length] using hr)]
  have e1 : List.take (by8 r).length (List.drop 0 (by8 r)) = by8 r := by simp
  have e2 : List.take ks'.length (row ks') = row ks' := List.take_of_length_le (by simp [row])
  have e3 : List.take 1 (List.drop 0 [CV.agg [CV.int .i64 a, CV.int .i64 b, CV.int .i64 (cl now), CV.slc none (by8 r)]]) = row [⟨a, b, cl now, r⟩] := rfl
  have e4 : (row [⟨a, b, cl now, r⟩]).length = 1 := rfl
  simp only [e1, e2, e3, e4, ← row_append]
  rw [grd_dec (by omega)]
  have e5 : (ks' ++ [⟨a, b, cl now, r⟩] : List Kp).length = ks'.length + 1 := by simp
  generalize hL : (ks' ++ [⟨a, b, cl now, r⟩] : List Kp) = L at *
  rw [← e5, bif_dec]
  by_cases h8 : L.length > 8
  · rw [if_pos (by omega)]
    have hel := elUp_lt L (by omega) L.length (Nat.le_refl _)
    rw [eldest_eq _ _ (by omega) (by omega)]
    simp only [wrap64_succ (show elUp L L.length < 4611686018427387904 by omega)]
    have := del_eq (k := k) (fun u => K (u.1, List.take (0 + u.1) u.2)) (row L) (elUp L L.length) (by simpa [row_length] using hel)
    rw [row_length] at this
    rw [this, eraseIdx_row]
    simp only [if_pos h8]
    have e6 : (L.eraseIdx (elUp L L.length)).length = L.length - 1 := by rw [List.length_eraseIdx, if_pos hel]
    rw [e6, Nat.zero_add, List.take_of_length_le (by rw [row_length, e6]; exact Nat.le_refl _)]
  · rw [if_neg (by omega)]
    simp only [if_neg h8]
    rw [Nat.zero_add, List.take_of_length_le (by simp [row])]
theorem keep_eq {k : Nat} (K : Nat × List CV → Option X) (ks : List Kp) (a b now : Int) (r : List Int) (hk : ks.length + 1 < k) (hl : ks.length < 1000000) (hr : r.length < 70368744177664) :
    f17 k K a b now (by8 r) ks.length (row ks) = K ((keepP ks a b now r).length, row (keepP ks a b now r)) := by
  unfold f17 f17_A f17_T
  try dsimp only
  rw [index_eq _ _ _ _ (by omega) (by omega)]
  try dsimp only
  have fin : ∀ ks' : List Kp, ks'.length ≤ ks.length → keepAt ks a b now r = ks' ++ [⟨a, b, cl now, r⟩] → f17_J1 (fun X => @f35 X k) (fun X => @f38 X k) (fun X => @f39 X k) (fun X => @f29 X k) (fun X => @f40 X k) k K a (b, now, by8 r, ks'.length, row ks') = K ((keepP ks a b now r).length, row (keepP ks a b now r)) := fun ks' h1 h2 => by
    rw [keepJ_eq _ _ _ _ _ _ (by omega) (by omega) hr]
    unfold keepP
    rw [h2]
    simp only
    split <;> rfl
  cases hf : ks.findIdx? (is a b) with
  | none =>
    have : (decide (ixI none ≥ 0)) = false := rfl
    simp only [this, cond_false]
    exact fin ks (Nat.le_refl _) (by unfold keepAt; rw [hf])
  | some i =>
    have hi : i < ks.length := by
      have := List.findIdx?_eq_some_iff_findIdx_eq.1 hf
      exact this.1
    have : (decide (ixI (some i) ≥ 0)) = true := by simp [ixI]
    simp only [this, cond_true]
    have hd := del_eq (k := k) (fun u => f17_J1 (fun X => @f35 X k) (fun X => @f38 X k) (fun X => @f39 X k) (fun X => @f29 X k) (fun X => @f40 X k) k K a (b, now, by8 r, u.1, u.2)) (row ks) i (by simpa [row_length] using hi)
    rw [row_length] at hd
    show f38 k _ ks.length (i : Int) (IntKind.wrap .i64 ((i : Int) + 1)) (row ks) = _
    rw [wrap64_succ (by omega), hd, eraseIdx_row]
    have e6 : (ks.eraseIdx i).length = ks.length - 1 := by rw [List.length_eraseIdx, if_pos hi]
    rw [← e6]
    exact fin _ (by omega) (by unfold keepAt; rw [hf])
def fr (now : Int) (x : Kp) : Bool := decide (IntKind.wrap .i64 (cl now - x.a) < 247)
theorem fresh_eq {k : Nat} (K : Bool → Option X) (x : Kp) (now : Int) : f36 k K x.en now = K (fr now x) := by
  unfold f36 f36_A f36_T
  try dsimp only
  simp only [en_isA, en_0, en_1, en_2, en_3, isI_int, isL_slc, grd_true, toI_int, clock_eq]
  rfl
def findP (ks : List Kp) (a b now : Int) : Option (List Int) := match ks.find? (is a b) with
  | some x => if fr now x then some x.r else none
  | none => none
/-- What an answer of Find is. -/
def fnd (o : Option (List Int)) (ks : List Kp) : Nat × Bool × Nat × List CV × List CV := match o with
  | some r => (r.length, true, ks.length, row ks, by8 r)
  | none => (0, false, ks.length, row ks, [])
theorem find_eq {k : Nat} (K : Nat × Bool × Nat × List CV × List CV → Option X) (ks : List Kp) (a b now : Int) (hk : ks.length < k) (hl : ks.length < 4611686018427387904) (hr : ∀ x ∈ ks, x.r.length < 70368744177664) :
    f15 k K a b now ks.length (row ks) = K (fnd (findP ks a b now) ks) := by
  unfold f15 f15_A f15_T
  try dsimp only
  rw [index_eq _ _ _ _ (by omega) (by omega)]
  try dsimp only
  have e2 : List.take (0 + ks.length) (row ks) = row ks := by rw [Nat.zero_add]; exact List.take_of_length_le (by simp [row])
  simp only [e2]
  cases hf : ks.findIdx? (is a b) with
  | none =>
    have h2 : ks.find? (is a b) = none := by
      rw [List.find?_eq_none]
      simpa using List.findIdx?_eq_none_iff.1 hf
    have : (decide (ixI none < 0)) = true := rfl
    simp only [this, cond_true, findP, h2, fnd]
    rfl
  | some i =>
    obtain ⟨hi, hp⟩ := List.findIdx?_eq_some_iff_findIdx_eq.1 hf
    have h2 : ks.find? (is a b) = some ks[i] := by
      rw [List.find?_eq_getElem?_findIdx, hp, List.getElem?_eq_getElem hi]
    have : (decide (ixI (some i) < 0)) = false := decide_eq_false (by show ¬ (((i : Nat) : Int) < 0); omega)
    simp only [this, cond_false, findP, h2]
    simp only [ixI, Int.toNat_natCast, Nat.zero_add, row_get, List.getElem?_eq_getElem hi, Option.map_some, Option.bind_some, dec0, decLt, hi, decide_true, grd_true, fresh_eq, en_c3, isL_slc, toL_slc]
    cases hfr : fr now ks[i] with
    | false => simp [fnd, grd_true, hi]
    | true =>
      rw [clone_eq _ _ (by simpa [by8_length] using hr ks[i] (List.getElem_mem hi))]
      simp [fnd, by8_length, grd_true, hi, List.take_of_length_le]
theorem len_eq {k : Nat} (K : Int × Nat × List CV → Option X) (ks : List Kp) (now : Int) (hk : ks.length < k) (hl : ks.length < 1000000) : f20 k K now ks.length (row ks) = K (((ks.countP (fr now) : Nat) : Int), ks.length, row ks) := by
  unfold f20 f20_A f20_T
  try dsimp only
  refine iterV_spec (T := f20_L1 (fun X => @f36 X k) k K) (fun i => (now, (((ks.take i).countP (fr now) : Nat) : Int), ks.length, ((ks.length : Nat) : Int), (i : Int), ks.length, row ks)) (fun i => K (((ks.countP (fr now) : Nat) : Int), ks.length, row ks)) ks.length (fun i rec hi hr => ?_) (fun rec => ?_) k 0 (Nat.zero_le _) (by omega)
  · rw [← hr]
    unfold f20_L1 f20_T1
    have hc : (ks.take i).countP (fr now) ≤ i := Nat.le_trans (List.countP_le_length) (by simp; omega)
    have hen : ∀ x : Kp, CV.agg [CV.int .i64 x.f, CV.int .i64 x.i, CV.int .i64 x.a, CV.slc none (by8 x.r)] = x.en := fun _ => rfl
    simp only [f20_J1, row_get, Int.toNat_natCast, Nat.zero_add, List.getElem?_eq_getElem hi, Option.map_some, Option.bind_some, grd_true, dec0, decLt, hi, decide_true, cond_true, en_isA, en_0, en_1, en_2, en_3, isI_int, isL_slc, toI_int, toL_slc, hen, fresh_eq, wrap64_succ (show i < 4611686018427387904 by omega), wrap64_succ (show (ks.take i).countP (fr now) < 4611686018427387904 by omega)]
    rw [List.take_succ_eq_append_getElem hi, List.countP_append, List.countP_singleton]
    cases fr now ks[i] <;> simp
  · unfold f20_L1 f20_T1
    simp [List.take_of_length_le, row_length]
theorem new_eq {k : Nat} (K : List CV → Option X) : f5 k K = K (row []) := rfl
end
section
variable {X : Type}
def refAt (ks : List Kp) (a b now : Int) (r : List Int) : List Kp := ks.filter (fun x => !is a b x) ++ [Kp.mk a b (cl now) r]
def refKeep (ks : List Kp) (a b now : Int) (r : List Int) : List Kp :=
  if (refAt ks a b now r).length ≤ 8 then refAt ks a b now r else (refAt ks a b now r).eraseIdx (elUp (refAt ks a b now r) (refAt ks a b now r).length)
/-- What the document finds. -/
def refFind (ks : List Kp) (a b now : Int) : Option Kp := ks.find? (fun x => is a b x && fr now x)
/-- No endpoint's message is kept twice. -/
def Uniq (ks : List Kp) : Prop := ks.Pairwise (fun x y => ¬ (x.f = y.f ∧ x.i = y.i))
theorem is_iff {a b : Int} {x : Kp} : is a b x = true ↔ x.f = a ∧ x.i = b := by simp [is]
theorem filter_uniq {a b : Int} : ∀ {ks : List Kp}, Uniq ks → (match ks.findIdx? (is a b) with
  | some i => ks.eraseIdx i
  | none => ks) = ks.filter (fun x => !is a b x)
  | [], _ => rfl
  | x :: l, h => by
    rw [List.findIdx?_cons]
    have h' := List.pairwise_cons.1 h
    cases hx : is a b x with
    | true =>
      simp only [if_true, List.eraseIdx_cons_zero, List.filter_cons, hx, Bool.not_true, Bool.false_eq_true, if_false]
      refine (List.filter_eq_self.2 fun y hy => ?_).symm
      have := h'.1 y hy
      cases hy2 : is a b y with
      | false => rfl
      | true =>
        rw [is_iff] at hx hy2
        exact absurd ⟨hx.1.trans hy2.1.symm, hx.2.trans hy2.2.symm⟩ this
    | false =>
      have ih := filter_uniq (a := a) (b := b) h'.2
      simp only [Bool.false_eq_true, if_false, List.filter_cons, hx, Bool.not_false, if_true, ← ih]
      cases l.findIdx? (is a b) with
      | none => rfl
      | some j => rfl
theorem keepAt_eq {ks : List Kp} (h : Uniq ks) (a b now : Int) (r : List Int) : keepAt ks a b now r = refAt ks a b now r := by
  unfold keepAt refAt
  rw [← filter_uniq h]
  all_goals (cases ks.findIdx? (is a b) <;> rfl)
theorem keep_ref {ks : List Kp} (h : Uniq ks) (a b now : Int) (r : List Int) : keepP ks a b now r = refKeep ks a b now r := by
  unfold keepP refKeep
  rw [keepAt_eq h]
  by_cases h8 : (refAt ks a b now r).length ≤ 8
  · rw [if_pos h8, if_neg (by omega)]
  · rw [if_neg h8, if_pos (by omega)]
theorem refAt_uniq {ks : List Kp} (h : Uniq ks) (a b now : Int) (r : List Int) : Uniq (refAt ks a b now r) := by
  unfold refAt Uniq
  refine List.pairwise_append.2 ⟨List.Pairwise.sublist List.filter_sublist h, List.pairwise_singleton _ _, fun x hx y hy => ?_⟩
  simp only [List.mem_singleton] at hy
  subst hy
  have := (List.mem_filter.1 hx).2
  intro ⟨h1, h2⟩
  have h3 : is a b x = true := is_iff.2 ⟨h1, h2⟩
  rw [h3] at this
  cases this
theorem refKeep_uniq {ks : List Kp} (h : Uniq ks) (a b now : Int) (r : List Int) : Uniq (refKeep ks a b now r) := by
  unfold refKeep
  split
  · exact refAt_uniq h a b now r
  · exact List.Pairwise.sublist (List.eraseIdx_sublist _ _) (refAt_uniq h a b now r)
theorem refAt_length (ks : List Kp) (a b now : Int) (r : List Int) : (refAt ks a b now r).length ≤ ks.length + 1 := by
  unfold refAt
  have := List.length_filter_le (fun x => !is a b x) ks
  simp
  omega
theorem refKeep_length {ks : List Kp} (hl : ks.length ≤ 8) (a b now : Int) (r : List Int) : (refKeep ks a b now r).length ≤ 8 := by
  unfold refKeep
  have := refAt_length ks a b now r
  split
  · assumption
  · rename_i h8
    have h0 : 0 < (refAt ks a b now r).length := by omega
    rw [List.length_eraseIdx, if_pos (elUp_lt _ h0 _ (Nat.le_refl _))]
    omega
theorem refKeep_mem {ks : List Kp} {a b now : Int} {r : List Int} {x : Kp} (h : x ∈ refKeep ks a b now r) : x ∈ ks ∨ x = Kp.mk a b (cl now) r := by
  have h1 : x ∈ refAt ks a b now r := by
    unfold refKeep at h
    split at h
    · exact h
    · exact List.mem_of_mem_eraseIdx h
  rcases List.mem_append.1 h1 with h1 | h1
  · exact .inl (List.mem_filter.1 h1).1
  · simp at h1; exact .inr h1
theorem find_ref {ks : List Kp} (h : Uniq ks) (a b now : Int) : findP ks a b now = (refFind ks a b now).map (·.r) := by
  induction ks with
  | nil => rfl
  | cons x l ih =>
    have h' := List.pairwise_cons.1 h
    have ih := ih h'.2
    unfold findP refFind at *
    rw [List.find?_cons, List.find?_cons]
    cases hx : is a b x with
    | false => simp only [Bool.false_and]; exact ih
    | true =>
      cases hf : fr now x with
      | true => simp [hf]
      | false =>
        simp only [Bool.true_and, hf, Bool.false_eq_true, if_false]
        have : l.find? (fun x => is a b x && fr now x) = none := by
          rw [List.find?_eq_none]
          intro y hy hc
          rw [Bool.and_eq_true] at hc
          have h1 := is_iff.1 hx
          have h2 := is_iff.1 hc.1
          exact h'.1 y hy ⟨h1.1.trans h2.1.symm, h1.2.trans h2.2.symm⟩
        rw [this]; rfl
/-- A step, as it came in. -/
abbrev Stp4 := Int × Int × Int × Int × List Int × Unit
def opv (o : Stp4) : CV := .agg (.int .i64 o.1 :: .int .i64 o.2.1 :: .int .i64 o.2.2.1 :: .int .i64 o.2.2.2.1 :: .slc none (o.2.2.2.2.1.map (CV.int .u8)) :: [])
theorem opv_isA (o : Stp4) : CV.isA 5 (opv o) = true := rfl
theorem opv_0 (o : Stp4) : CV.cellD 0 (opv o) = .int .i64 o.1 := rfl
theorem opv_1 (o : Stp4) : CV.cellD 1 (opv o) = .int .i64 o.2.1 := rfl
theorem opv_2 (o : Stp4) : CV.cellD 2 (opv o) = .int .i64 o.2.2.1 := rfl
theorem opv_3 (o : Stp4) : CV.cellD 3 (opv o) = .int .i64 o.2.2.2.1 := rfl
theorem opv_4 (o : Stp4) : CV.cellD 4 (opv o) = .slc none (by8 o.2.2.2.2.1) := rfl
def fewB (ops : List Stp4) : Bool := ops.all fun o => decide (o.2.2.2.2.1.length ≤ 200)
/-- What is kept behind a step. -/
def stepK (ks : List Kp) (o : Stp4) : List Kp :=
  if o.1 = 0 ∨ o.1 = 1 then refKeep ks o.2.1 o.2.2.1 o.2.2.2.1 o.2.2.2.2.1 else if o.1 = 2 then [] else ks
structure Good (ks : List Kp) : Prop where
  uniq : Uniq ks
  len : ks.length ≤ 8
  rep : ∀ x ∈ ks, x.r.length ≤ 200
theorem Good.step {ks : List Kp} (h : Good ks) {o : Stp4} (ho : o.2.2.2.2.1.length ≤ 200) : Good (stepK ks o) := by
  unfold stepK
  split
  · exact ⟨refKeep_uniq h.uniq _ _ _ _, refKeep_length h.len _ _ _ _, fun x hx => (refKeep_mem hx).elim (h.rep x) (fun e => by subst e; exact ho)⟩
  · split
    · exact ⟨List.Pairwise.nil, Nat.zero_le _, fun x hx => by simp at hx⟩
    · exact h
end
end Cch
end Go.Proofs.YtfllanhepeginaaD
