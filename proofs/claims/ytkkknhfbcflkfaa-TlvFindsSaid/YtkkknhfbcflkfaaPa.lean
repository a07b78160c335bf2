/- Lists of TLVs, in plain data; which are right, how many there are. -/
import Derived.Test.YtkkknhfbcflkfaaW1
namespace Go.Proofs.YtkkknhfbcflkfaaD
open Go Go.Proofs.YtkkknhfbcflkfaaS Go.Proofs
set_option linter.unusedVariables false
set_option linter.unusedSimpArgs false
/-- A list of TLVs: its first one (kind, ID, value, kids) and the rest. -/
inductive TS where
  | nil
  | cons (kind id : Int) (val : List Int) (kids rest : TS)
  deriving DecidableEq
namespace TS
def row : TS → List CV
  | nil => []
  | cons k i v ks r => .agg [.int .i64 k, .int .i64 i, .slc none (by8 v), .slc (some 4) (row ks)] :: row r
def len : TS → Nat
  | nil => 0
  | cons _ _ _ _ r => r.len + 1
/-- How much there is to go through. -/
def sz : TS → Nat
  | nil => 1
  | cons _ _ v ks r => ks.sz + r.sz + v.length + 1
def cnt : TS → Nat
  | nil => 0
  | cons _ _ _ ks r => ks.cnt + r.cnt + 1
/-- Lists are no longer than can be. -/
def ok : TS → Prop
  | nil => True
  | cons _ _ v ks r => v.length ≤ 9223372036854775807 ∧ ks.len ≤ 9223372036854775807 ∧ ks.ok ∧ r.ok
end TS
theorem wrap64_n {i : Nat} (h : i + 1 ≤ 9223372036854775807) : IntKind.wrap .i64 ((i : Int) + 1) = ((i + 1 : Nat) : Int) := by rw [wrap64 (by omega) (by omega)]; rfl
theorem row_len : ∀ ts : TS, ts.row.length = ts.len
  | .nil => rfl
  | .cons k i v ks r => by simp [TS.row, TS.len, row_len r]
theorem len_sz : ∀ ts : TS, ts.len < ts.sz
  | .nil => by simp [TS.len, TS.sz]
  | .cons k i v ks r => by have := len_sz r; simp [TS.len, TS.sz]; omega
def inK (k p : Int) : Bool := if p = -1 then decide (k = 0 ∨ k = 2 ∨ k = 3) else if p = 0 then decide (k = 2 ∨ k = 3) else if p = 2 then decide (k = 1) else false
def hold (k : Int) : Bool := decide (k = 0 ∨ k = 2)
section
variable {X : Type}
theorem bifE {c : Bool} {x y z : Option X} (h1 : c = true → x = z) (h2 : c = false → y = z) : (bif c then x else y) = z := by cases c with
  | true => exact h1 rfl
  | false => exact h2 rfl
theorem inside_eq {k : Nat} (K : Bool → Option X) (a p : Int) : f38 k K a p = K (inK a p) := by
  unfold f38 f38_A f38_T inK
  by_cases h1 : p = -1
  · rw [if_pos h1]
    refine (bifT (by simpa using h1)).trans ?_
    by_cases h2 : a = 0
    · refine (bifT (by simpa using h2)).trans ?_; simp [h2]
    · refine (bifF (by simpa using h2)).trans ?_
      by_cases h3 : a = 2
      · refine (bifT (by simpa using h3)).trans ?_; simp [h3]
      · refine (bifF (by simpa using h3)).trans ?_
        congr 1
        by_cases h4 : a = 3 <;> simp [h2, h3, h4]
  · rw [if_neg h1]
    refine (bifF (by simpa using h1)).trans ?_
    by_cases h2 : p = 0
    · rw [if_pos h2]
      refine (bifT (by simpa using h2)).trans ?_
      by_cases h3 : a = 2
      · refine (bifT (by simpa using h3)).trans ?_; simp [h3]
      · refine (bifF (by simpa using h3)).trans ?_
        congr 1
        by_cases h4 : a = 3 <;> simp [h3, h4]
    · rw [if_neg h2]
      refine (bifF (by simpa using h2)).trans ?_
      by_cases h3 : p = 2
      · rw [if_pos h3]
        refine (bifT (by simpa using h3)).trans ?_
        congr 1
      · rw [if_neg h3]
        exact bifF (by simpa using h3)
theorem may_eq {k : Nat} (K : Bool → Option X) (a p : Int) : f39 k K a p = K (inK a p) :=
  Eq.trans (b := f38 k K a p) rfl (inside_eq K a p)
theorem holds_eq {k : Nat} (K : Bool → Option X) (a : Int) : f34 k K a = K (hold a) := by
  unfold f34 f34_A f34_T hold
  by_cases h2 : a = 0
  · refine (bifT (by simpa using h2)).trans ?_; simp [h2]
  · refine (bifF (by simpa using h2)).trans ?_
    congr 1
    by_cases h4 : a = 2 <;> simp [h2, h4]
/-- Is a list right in a kind; how many there may be yet. -/
def rgt : TS → Int → Int → Bool × Int
  | .nil, _, n => (true, n)
  | .cons k i v ks r, p, n =>
    if IntKind.wrap .i64 (n - 1) < 0 ∨ inK k p = false ∨ i < 0 ∨ i > 65535 ∨ (hold k = true ∧ v ≠ []) ∨ (hold k = false ∧ ks ≠ .nil) then (false, IntKind.wrap .i64 (n - 1))
    else match rgt ks k (IntKind.wrap .i64 (n - 1)) with
      | (false, m) => (false, m)
      | (true, m) => rgt r p m
theorem drop_next {α : Type} {l r : List α} {i : Nat} {x : α} (h : l.drop i = x :: r) : l[i]? = some x ∧ l.drop (i + 1) = r ∧ i < l.length := by
  have hi : i < l.length := by
    rcases Nat.lt_or_ge i l.length with h1 | h1
    · exact h1
    · rw [List.drop_of_length_le h1] at h; cases h
  rw [List.drop_eq_getElem_cons hi] at h
  injection h with h1 h2
  exact ⟨by rw [List.getElem?_eq_getElem hi, h1], h2, hi⟩
theorem drop_none {α : Type} {l : List α} {i : Nat} (h : l.drop i = []) : l.length ≤ i := by
  rcases Nat.lt_or_ge i l.length with h1 | h1
  · rw [List.drop_eq_getElem_cons h1] at h; cases h
  · exact h1
theorem right_loop : ∀ (ts : TS) (k kk i : Nat) (R : List CV) (p n : Int) (K : Bool × Int → Option X), ts.sz < k → ts.len < kk → R.drop i = ts.row → R.length ≤ 9223372036854775807 → ts.ok →
    iterV (f26_L1 (fun X => @f38 X k) (fun X => @f34 X k) (f26_r k) k K) kk (p, R, (R.length : Int), (i : Int), n) = K (rgt ts p n)
  | .nil, k, kk, i, R, p, n, K, hk, hkk, hR, hl, _ => by
    obtain ⟨kk, rfl⟩ : ∃ j, kk = j + 1 := ⟨kk - 1, by simp [TS.len] at hkk; omega⟩
    refine (iterV_one _ _ _).trans ?_
    unfold f26_L1 f26_T1
    dsimp only
    have := drop_none hR
    exact bifF (decide_eq_false (by omega))
  | .cons a id v ks r, k, kk, i, R, p, n, K, hk, hkk, hR, hl, hok => by
    obtain ⟨ho1, ho2, ho3, ho4⟩ := hok
    obtain ⟨kk, rfl⟩ : ∃ j, kk = j + 1 := ⟨kk - 1, by simp [TS.len] at hkk; omega⟩
    obtain ⟨h1, h2, h3⟩ := drop_next hR
    simp only [TS.sz, TS.len] at hk hkk
    refine (iterV_one _ _ _).trans ?_
    have ih := fun n => right_loop r k kk (i + 1) R p n K
    generalize hrec : iterV (f26_L1 (fun X => @f38 X k) (fun X => @f34 X k) (f26_r k) k K) kk = rec at *
    unfold f26_L1 f26_T1 f26_J1
    dsimp only
    refine (bifT (decide_eq_true (by omega))).trans ?_
    refine (grdT (dec0 _)).trans ?_
    rw [Int.toNat_natCast]
    refine (bAt h1 _).trans ?_
    refine (grdT rfl).trans ?_
    refine (grdT rfl).trans ?_
    refine (grdT rfl).trans ?_
    refine (grdT rfl).trans ?_
    refine (grdT rfl).trans ?_
    unfold rgt
    by_cases c1 : IntKind.wrap .i64 (n - 1) < 0
    · rw [if_pos (.inl c1)]
      exact bifT (decide_eq_true c1)
    refine (bifF (decide_eq_false c1)).trans ?_
    refine (inside_eq _ a p).trans ?_
    cases c2 : inK a p with
    | false => rw [if_pos (.inr (.inl rfl))]; exact bifT rfl
    | true =>
    refine (bifF rfl).trans ?_
    by_cases c3 : id < 0
    · rw [if_pos (.inr (.inr (.inl c3)))]
      exact bifT (decide_eq_true c3)
    refine (bifF (decide_eq_false c3)).trans ?_
    by_cases c4 : id > 65535
    · rw [if_pos (.inr (.inr (.inr (.inl c4))))]
      exact bifT (decide_eq_true c4)
    refine (bifF (decide_eq_false c4)).trans ?_
    refine (holds_eq _ a).trans ?_
    -- the kids, and what follows
    have hkids : ∀ m, f26_r k X (fun u38 => bif (!u38.1) then K (false, u38.2) else rec (p, R, (R.length : Int), IntKind.wrap .i64 ((i : Int) + 1), u38.2)) ks.row a m = K (match rgt ks a m with
      | (false, m) => (false, m)
      | (true, m) => rgt r p m) := fun m => by
      obtain ⟨k', rfl⟩ : ∃ j, k = j + 1 := ⟨k - 1, by omega⟩
      have hls := len_sz ks
      have := right_loop ks k' k' 0 ks.row a m (fun u38 => bif (!u38.1) then K (false, u38.2) else rec (p, R, (R.length : Int), IntKind.wrap .i64 ((i : Int) + 1), u38.2)) (by omega) (by omega) rfl (by rw [row_len]; exact ho2) ho3
      refine this.trans ?_
      cases hq : rgt ks a m with
      | mk b m' =>
        cases b with
        | false => exact bifT rfl
        | true =>
          refine (bifF rfl).trans ?_
          rw [wrap64_n (by omega)]
          exact ih m' (by omega) (by omega) h2 hl ho4
    have hlv : ((List.length (CV.toL (CV.cellD 2 (CV.agg [CV.int IntKind.i64 a, CV.int IntKind.i64 id, CV.slc none (by8 v), CV.slc (some 4) ks.row])))) : Int) = v.length := by
      show ((by8 v).length : Int) = _
      rw [by8_length]
    have hlk : ((List.length (CV.toL (CV.cellD 3 (CV.agg [CV.int IntKind.i64 a, CV.int IntKind.i64 id, CV.slc none (by8 v), CV.slc (some 4) ks.row])))) : Int) = ks.len := by
      show ((ks.row).length : Int) = _
      rw [row_len]
    have hkn : (ks.len : Int) > 0 ↔ ks ≠ .nil := by
      cases ks <;> simp [TS.len] <;> omega
    have hvn : (v.length : Int) > 0 ↔ v ≠ [] := by
      cases v <;> simp <;> omega
    rw [hlv, hlk]
    cases c5 : hold a with
    | true =>
      refine (bifT rfl).trans ?_
      by_cases c6 : v = []
      · refine (bifF (decide_eq_false (by rw [hvn]; exact fun h => h c6))).trans ?_
        refine (holds_eq _ a).trans ?_
        rw [c5]
        refine (bifF rfl).trans ?_
        rw [if_neg (by simp [c1, c3, c4, c6])]
        exact hkids _
      · rw [if_pos (by simp [c6])]
        exact bifT (decide_eq_true (hvn.2 c6))
    | false =>
      refine (bifF rfl).trans ?_
      refine (holds_eq _ a).trans ?_
      rw [c5]
      refine (bifT rfl).trans ?_
      by_cases c6 : ks = .nil
      · refine (bifF (decide_eq_false (by rw [hkn]; exact fun h => h c6))).trans ?_
        rw [if_neg (by simp [c1, c3, c4, c6])]
        exact hkids _
      · rw [if_pos (by simp [c6])]
        exact bifT (decide_eq_true (hkn.2 c6))
end
end Go.Proofs.YtkkknhfbcflkfaaD
