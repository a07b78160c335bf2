/- A message as bytes: in plain words. -/
import Derived.Test.YtlgdoglffddjfaaLOptR
import Derived.Test.YtlgdoglffddjfaaLSame
namespace Go.Proofs.YtlgdoglffddjfaaD
open Go Go.Proofs.YtlgdoglffddjfaaS Go.Proofs
set_option linter.unusedVariables false
set_option linter.unusedSimpArgs false
section
variable {X : Type}
/-- Nothing, of a size. -/
theorem grow_eq {k : Nat} (K : List CV → Option X) (n : Nat) (h : n ≤ 1000000) : f51 k K (n : Int) = K [] := by
  unfold f51 f51_A f51_T
  rw [wrap64 (n := (n : Int) - 0) (by omega) (by omega), Int.sub_zero, Int.toNat_natCast, List.length_replicate]
  refine (bifF (decide_eq_false (by omega))).trans ?_
  by_cases h0 : n = 0
  · subst h0; rfl
  · refine (bifT (decide_eq_true (by omega))).trans ?_
    refine (grdT (dec0 _)).trans ?_
    refine (grdT (decide_eq_true (by omega))).trans ?_
    refine (grdT (decide_eq_true (by omega))).trans ?_
    rfl
theorem parts_nth (ps : List (List Int)) (i : Nat) (h : i < ps.length) : (parts ps)[i]? = some (.slc none (by8 ps[i])) := by simp [parts, List.getElem?_eq_getElem h]
theorem flat_succ (ps : List (List Int)) (i : Nat) (h : i < ps.length) : (ps.take (i + 1)).flatten = (ps.take i).flatten ++ ps[i] := by
  rw [← List.take_append_getElem h, List.flatten_append]; simp
theorem flat_le (ps : List (List Int)) (i : Nat) : (ps.take i).flatten.length ≤ ps.flatten.length := by
  conv => rhs; rw [← List.take_append_drop i ps, List.flatten_append, List.length_append]
  omega
theorem concat2 {k : Nat} (K : Nat × List CV → Option X) (ps : List (List Int)) (hk : ps.length < k) (hl : ps.flatten.length ≤ 1000000) (hp : ps.length ≤ 1000000) :
    iterV (f33_L2 (fun X => @f51 X k) k K) k (0, parts ps, ((parts ps).length : Int), 0, []) = K (ps.flatten.length, by8 ps.flatten) := by
  have hpl : (parts ps).length = ps.length := by simp [parts]
  refine iterV_spec (T := f33_L2 (fun X => @f51 X k) k K) (fun i => ((ps.take i).flatten.length, parts ps, ((parts ps).length : Int), (i : Int), by8 (ps.take i).flatten)) (fun i => K (ps.flatten.length, by8 ps.flatten)) ps.length (fun i rec h hr => ?_) (fun rec => ?_) k 0 (Nat.zero_le _) (by omega)
  · unfold f33_L2 f33_T2
    dsimp only
    refine (bifT (decide_eq_true (by rw [hpl]; omega))).trans ?_
    refine (grdT (dec0 _)).trans ?_
    rw [Int.toNat_natCast]
    refine (bAt (parts_nth ps i h) _).trans ?_
    refine (grdT rfl).trans ?_
    rw [show CV.toL (CV.slc none (by8 ps[i])) = by8 ps[i] from rfl, t8', ← by8_append, by8_length, ← List.length_append, ← flat_succ ps i h]
    have := flat_le ps (i + 1)
    refine (grdT (decide_eq_true (by omega))).trans ?_
    rw [wrap64_s (by omega), hr]
  · unfold f33_L2 f33_T2
    dsimp only
    refine (bifF (decide_eq_false (by rw [hpl]; omega))).trans ?_
    rw [t8, List.take_length]
theorem concat_eq {k : Nat} (K : Nat × List CV → Option X) (ps : List (List Int)) (hk : ps.length < k) (hl : ps.flatten.length ≤ 1000000) (hp : ps.length ≤ 1000000) :
    f33 k K (parts ps) = K (ps.flatten.length, by8 ps.flatten) := by
  have hpl : (parts ps).length = ps.length := by simp [parts]
  refine iterV_spec (T := f33_L1 (fun X => @f51 X k) k K) (fun i => (parts ps, ((ps.take i).flatten.length : Int), parts ps, ((parts ps).length : Int), (i : Int))) (fun i => K (ps.flatten.length, by8 ps.flatten)) ps.length (fun i rec h hr => ?_) (fun rec => ?_) k 0 (Nat.zero_le _) (by omega)
  · unfold f33_L1 f33_T1
    dsimp only
    refine (bifT (decide_eq_true (by rw [hpl]; omega))).trans ?_
    refine (grdT (dec0 _)).trans ?_
    rw [Int.toNat_natCast]
    refine (bAt (parts_nth ps i h) _).trans ?_
    refine (grdT rfl).trans ?_
    have := flat_le ps (i + 1)
    have hf : ((ps.take i).flatten.length : Int) + (ps[i].length : Int) = ((ps.take (i + 1)).flatten.length : Int) := by rw [flat_succ ps i h, List.length_append]; push_cast; rfl
    rw [show CV.toL (CV.slc none (by8 ps[i])) = by8 ps[i] from rfl, by8_length, hf, wrap64 (n := ((ps.take (i + 1)).flatten.length : Int)) (by omega) (by omega)]
    refine (bifF (decide_eq_false (by omega))).trans ?_
    rw [wrap64_s (by omega), hr]
  · unfold f33_L1 f33_T1
    dsimp only
    refine (bifF (decide_eq_false (by rw [hpl]; omega))).trans ?_
    rw [List.take_length]
    refine (grow_eq _ _ hl).trans ?_
    exact concat2 K ps hk hl hp
/-- A message. -/
structure Ms where
  kind : Int
  code : Int
  id : Int
  tok : List Int
  opts : List Op
  body : List Int
def Ms.cv (m : Ms) : CV := .agg [.int .i64 m.kind, .int .i64 m.code, .int .i64 m.id, .slc none (by8 m.tok), .slc (some 2) (ops m.opts), .slc none (by8 m.body)]
def used (code : Int) : Bool := code / 32 != 1 && code / 32 != 6 && code / 32 != 7
theorem used_eq {k : Nat} (K : Bool → Option X) (c : Int) (h0 : 0 ≤ c) (h1 : c ≤ 255) : f30 k K c = K (used c) := by
  have e : f30 k K c = (fun u2 : Int => bif u2 == 0 then (bif u2 == 0 then K true else K false) else bif u2 == 2 then (bif u2 == 2 then K true else K false) else bif u2 == 3 then (bif u2 == 3 then K true else K false) else bif u2 == 4 then (bif u2 == 4 then K true else K false) else (bif u2 == 5 then K true else K false)) (Int.fdiv c 32) := by kernel_rfl
  rw [e, fdiv_eq _ (by decide)]
  unfold used
  have h : c / 32 = 0 ∨ c / 32 = 1 ∨ c / 32 = 2 ∨ c / 32 = 3 ∨ c / 32 = 4 ∨ c / 32 = 5 ∨ c / 32 = 6 ∨ c / 32 = 7 := by omega
  rcases h with h | h | h | h | h | h | h | h <;> rw [h] <;> rfl
theorem usedR_eq {k : Nat} (K : Bool → Option X) (c : Int) (h0 : 0 ≤ c) (h1 : c ≤ 255) : f34 k K c = K (used c) := by
  unfold f34 f34_A f34_T
  rw [tdiv_eq h0, wrap64 (n := c / 32) (by omega) (by omega)]
  unfold used
  cases c / 32 != 1 <;> cases c / 32 != 6 <;> rfl
def Bad (m : Ms) : Prop := m.kind < 0 ∨ m.kind > 3 ∨ m.code < 0 ∨ m.code > 255 ∨ used m.code = false ∨ m.id < 0 ∨ m.id > 65535 ∨ (m.code = 0 ∧ ¬ (m.tok = [] ∧ m.opts = [] ∧ m.body = []))
def Long (m : Ms) : Prop := m.tok.length > 8 ∨ m.body.length > 1200
def head (m : Ms) : List Int := [64 + 16 * m.kind + (m.tok.length : Int), m.code, m.id / 256, m.id % 256]
def tail (b : List Int) : List Int := if b = [] then [] else 255 :: b
open Classical in
noncomputable def msgW (m : Ms) : Int × List Int := if Bad m then (1, []) else if Long m then (2, []) else bif (optW m.opts).1 != 0 then ((optW m.opts).1, []) else (0, head m ++ m.tok ++ (optW m.opts).2 ++ tail m.body)
theorem len0 {α : Type} (l : List α) : (((l.length : Int) == 0) = true) ↔ l = [] := by
  rw [beq_iff_eq, ← List.length_eq_zero_iff]; omega
theorem bare_eq {k : Nat} (K : Bool → Option X) (m : Ms) : f31 k K m.cv = K (decide (m.tok = [] ∧ m.opts = [] ∧ m.body = [])) := by
  have e : f31 k K m.cv = (bif (((by8 m.tok).length : Int) == 0) then (bif (((ops m.opts).length : Int) == 0) then K (((by8 m.body).length : Int) == 0) else K false) else K false) := by kernel_rfl
  rw [e, by8_length, ops_length, by8_length]
  cases h1 : ((m.tok.length : Int) == 0) with
  | false =>
    have : ¬ m.tok = [] := fun h => by rw [(len0 _).2 h] at h1; cases h1
    rw [decide_eq_false fun h => this h.1]; rfl
  | true =>
    have h1 := (len0 _).1 h1
    cases h2 : ((m.opts.length : Int) == 0) with
    | false =>
      have : ¬ m.opts = [] := fun h => by rw [(len0 _).2 h] at h2; cases h2
      rw [decide_eq_false fun h => this h.2.1]; rfl
    | true =>
      have h2 := (len0 _).1 h2
      refine congrArg K ?_
      cases h3 : ((m.body.length : Int) == 0) with
      | false =>
        have : ¬ m.body = [] := fun h => by rw [(len0 _).2 h] at h3; cases h3
        rw [decide_eq_false fun h => this h.2.2]
      | true => rw [decide_eq_true ⟨h1, h2, (len0 _).1 h3⟩]
theorem headL {m : Ms} (h : ¬ Bad m) (hl : ¬ Long m) : IntKind.wrap .u8 (bop .or .i64 (bop .or .i64 64 (IntKind.wrap .i64 (m.kind * 2 ^ 4))) (m.tok.length : Int)) = 64 + 16 * m.kind + (m.tok.length : Int) := by
  unfold Bad at h
  unfold Long at hl
  have hk : m.kind = 0 ∨ m.kind = 1 ∨ m.kind = 2 ∨ m.kind = 3 := by omega
  have ht : m.tok.length ≤ 8 := by omega
  generalize m.tok.length = t at *
  have : t = 0 ∨ t = 1 ∨ t = 2 ∨ t = 3 ∨ t = 4 ∨ t = 5 ∨ t = 6 ∨ t = 7 ∨ t = 8 := by omega
  rcases hk with e | e | e | e <;> rw [e] <;> rcases this with e | e | e | e | e | e | e | e | e <;> rw [e] <;> decide
theorem headR {m : Ms} (h : ¬ Bad m) (hl : ¬ Long m) : IntKind.wrap .u8 (IntKind.wrap .i64 (IntKind.wrap .i64 (64 + IntKind.wrap .i64 (16 * m.kind)) + (m.tok.length : Int))) = 64 + 16 * m.kind + (m.tok.length : Int) := by
  unfold Bad at h
  unfold Long at hl
  rw [wrap64 (n := 16 * m.kind) (by omega) (by omega), wrap64 (n := 64 + 16 * m.kind) (by omega) (by omega), wrap64 (n := 64 + 16 * m.kind + (m.tok.length : Int)) (by omega) (by omega), u8_small (by omega) (by omega)]
theorem enc_len : ∀ (l : List Op) (last : Int), Okk last l → (enc last l).length ≤ 400 * l.length
  | [], _, _ => by simp [enc]
  | o :: l, last, h => by
    have := enc_len l o.1 h.2.2.2.2
    have c := chunk_len last o h.2.1
    have := h.2.2.2.1
    simp only [enc, List.length_append, List.length_cons]
    omega
theorem optW_len (l : List Op) : (optW l).2.length ≤ 10000 := by
  unfold optW
  cases h : flt l != 0 with
  | true => simp
  | false =>
    have h0 : flt l = 0 := by simpa using h
    have h1 := flt_ok h0
    have := enc_len _ 0 (okk_isort h0)
    rw [isort_len] at this
    show (enc 0 (isort l)).length ≤ 10000
    omega
end
end Go.Proofs.YtlgdoglffddjfaaD
/- A message as bytes: the two functions. -/
namespace Go.Proofs.YtlgdoglffddjfaaD
open Go Go.Proofs.YtlgdoglffddjfaaS Go.Proofs
set_option linter.unusedVariables false
set_option linter.unusedSimpArgs false
section
variable {X : Type}
def Res (K : Nat × Int × List CV → Option X) (r : Int × List Int) : Option X := K (r.2.length, r.1, by8 r.2)
theorem msgW_bad {m : Ms} (h : Bad m) : msgW m = (1, []) := if_pos h
theorem msgW_long {m : Ms} (h : ¬ Bad m) (hl : Long m) : msgW m = (2, []) := by unfold msgW; rw [if_neg h, if_pos hl]
theorem w3_bad {k : Nat} (K : Nat × Int × List CV → Option X) (m : Ms) (h : Bad m) : f11_J3 (fun X => @f30 X k) (fun X => @f31 X k) (fun X => @f32 X k) (fun X => @f33 X k) k K m.cv true = Res K (msgW m) := by
  rw [msgW_bad h]; rfl
theorem w2_eq {k : Nat} (K : Nat × Int × List CV → Option X) (m : Ms) (hb : ¬ Bad m) (v : Bool) (hv : v = true ↔ Long m) (hk : 1000000 < k) (ho : m.opts.length < 1000) : f11_J2 (fun X => @f30 X k) (fun X => @f31 X k) (fun X => @f32 X k) (fun X => @f33 X k) k K m.cv v = Res K (msgW m) := by
  cases v with
  | true => rw [msgW_long hb (hv.1 rfl)]; rfl
  | false =>
    have hl : ¬ Long m := fun h => by cases hv.2 h
    have hB := hb
    have hL := hl
    unfold Bad at hb
    unfold Long at hl
    unfold f11_J2
    refine (bifF rfl).trans ?_
    refine (optW_eq _ m.opts hk ho).trans ?_
    unfold msgW
    rw [if_neg hB, if_neg hL]
    cases h : (optW m.opts).1 != 0 with
    | true => rfl
    | false =>
      refine (bifF rfl).trans ?_
      have ol := optW_len m.opts
      have e4 : ∀ x : Int, IntKind.wrap .u8 (bop .or .i64 (bop .or .i64 64 (IntKind.wrap .i64 (m.kind * 2 ^ 4))) (((by8 m.tok).length : Nat) : Int)) = 64 + 16 * m.kind + (m.tok.length : Int) := fun _ => by rw [by8_length]; exact headL hB hL
      show f33 k _ [CV.slc none [CV.int .u8 (IntKind.wrap .u8 (bop .or .i64 (bop .or .i64 64 (IntKind.wrap .i64 (m.kind * 2 ^ 4))) (((by8 m.tok).length : Nat) : Int))), CV.int .u8 (IntKind.wrap .u8 m.code), CV.int .u8 (IntKind.wrap .u8 (Int.fdiv m.id 256)), CV.int .u8 (IntKind.wrap .u8 m.id)], CV.slc none (by8 m.tok), CV.slc none (List.take (optW m.opts).2.length (by8 (optW m.opts).2))] = _
      rw [e4 0, t8', fdiv_eq _ (by decide), u8_small (n := m.code) (by omega) (by omega), u8_small (n := m.id / 256) (by omega) (by omega), wrapU8 m.id]
      show f33 k _ (parts [head m, m.tok, (optW m.opts).2]) = _
      have ef : [head m, m.tok, (optW m.opts).2].flatten = head m ++ m.tok ++ (optW m.opts).2 := by simp
      have hhl : (head m).length = 4 := rfl
      have el : (head m ++ m.tok ++ (optW m.opts).2).length ≤ 20000 := by simp only [List.length_append]; omega
      refine (concat_eq _ _ (by simp; omega) (by rw [ef]; omega) (by simp)).trans ?_
      rw [ef]
      generalize head m ++ m.tok ++ (optW m.opts).2 = P at el
      by_cases hbody : m.body = []
      · refine (bifF (decide_eq_false (by show ¬ ((by8 m.body).length : Int) > 0; rw [by8_length, hbody]; simp))).trans ?_
        show K (P.length, 0, List.take (0 + P.length) (by8 P)) = K ((P ++ tail m.body).length, 0, by8 (P ++ tail m.body))
        rw [t8, hbody, show tail [] = [] from rfl, List.append_nil]
      · have hbl : 0 < m.body.length := List.length_pos_iff.2 hbody
        refine (bifT (decide_eq_true (by show ((by8 m.body).length : Int) > 0; rw [by8_length]; omega))).trans ?_
        have e5 : P ++ tail m.body = P ++ [255] ++ m.body := by unfold tail; rw [if_neg hbody]; simp
        rw [e5]
        show grd (decide ((P.length + (by8 [255]).length) * 1 ≤ 140737488355328)) (grd (decide ((P.length + (by8 [255]).length + (by8 m.body).length) * 1 ≤ 140737488355328)) (K (P.length + (by8 [255]).length + (by8 m.body).length, 0, List.take (0 + (P.length + (by8 [255]).length + (by8 m.body).length)) (List.take (P.length + (by8 [255]).length) (List.take P.length (by8 P) ++ by8 [255]) ++ by8 m.body)))) = _
        simp only [by8_length, t8', ← by8_append, ← List.length_append, t8]
        refine (grdT (decide_eq_true (by simp; omega))).trans ?_
        exact grdT (decide_eq_true (by simp; omega))
theorem w3_eq {k : Nat} (K : Nat × Int × List CV → Option X) (m : Ms) (hb : ¬ Bad m) (hk : 1000000 < k) (ho : m.opts.length < 1000) : f11_J3 (fun X => @f30 X k) (fun X => @f31 X k) (fun X => @f32 X k) (fun X => @f33 X k) k K m.cv false = Res K (msgW m) := by
  unfold f11_J3
  refine (bifF rfl).trans ?_
  show (bif decide (((by8 m.tok).length : Int) > 8) then f11_J2 _ _ _ _ k K m.cv (decide (((by8 m.tok).length : Int) > 8)) else f11_J2 _ _ _ _ k K m.cv (decide (((by8 m.body).length : Int) > 1200))) = _
  rw [by8_length, by8_length]
  by_cases h : (m.tok.length : Int) > 8
  · refine (bifT (decide_eq_true h)).trans ?_
    refine w2_eq K m hb _ ⟨fun _ => .inl (by omega), fun _ => decide_eq_true h⟩ hk ho
  · refine (bifF (decide_eq_false h)).trans ?_
    refine w2_eq K m hb _ ⟨fun h' => .inr (by have := of_decide_eq_true h'; omega), fun h' => decide_eq_true (by unfold Long at h'; omega)⟩ hk ho
theorem write_eq {k : Nat} (K : Nat × Int × List CV → Option X) (m : Ms) (hk : 1000000 < k) (ho : m.opts.length < 1000) : f11 k K m.cv = Res K (msgW m) := by
  unfold f11 f11_A f11_T
  refine (grdT rfl).trans ?_
  refine (grdT rfl).trans ?_
  refine (grdT rfl).trans ?_
  refine (grdT rfl).trans ?_
  refine (grdT rfl).trans ?_
  refine (grdT rfl).trans ?_
  refine (grdT rfl).trans ?_
  by_cases c1 : m.kind < 0
  · refine (bifT (decide_eq_true c1)).trans ?_
    exact w3_bad K m (.inl c1)
  refine (bifF (decide_eq_false c1)).trans ?_
  by_cases c2 : m.kind > 3
  · refine (bifT (decide_eq_true c2)).trans ?_
    rw [show decide (CV.toI (CV.cellD 0 m.cv) > 3) = true from decide_eq_true c2]
    exact w3_bad K m (.inr (.inl c2))
  refine (bifF (decide_eq_false c2)).trans ?_
  by_cases c3 : m.code < 0
  · refine (bifT (decide_eq_true c3)).trans ?_
    exact w3_bad K m (.inr (.inr (.inl c3)))
  refine (bifF (decide_eq_false c3)).trans ?_
  by_cases c4 : m.code > 255
  · refine (bifT (decide_eq_true c4)).trans ?_
    exact w3_bad K m (.inr (.inr (.inr (.inl c4))))
  refine (bifF (decide_eq_false c4)).trans ?_
  refine (used_eq _ m.code (by omega) (by omega)).trans ?_
  cases c5 : used m.code with
  | false =>
    refine (bifT rfl).trans ?_
    exact w3_bad K m (.inr (.inr (.inr (.inr (.inl c5)))))
  | true =>
    refine (bifF rfl).trans ?_
    by_cases c6 : m.id < 0
    · refine (bifT (decide_eq_true c6)).trans ?_
      exact w3_bad K m (.inr (.inr (.inr (.inr (.inr (.inl c6))))))
    refine (bifF (decide_eq_false c6)).trans ?_
    by_cases c7 : m.id > 65535
    · refine (bifT (decide_eq_true c7)).trans ?_
      rw [show decide (CV.toI (CV.cellD 2 m.cv) > 65535) = true from decide_eq_true c7]
      exact w3_bad K m (.inr (.inr (.inr (.inr (.inr (.inr (.inl c7)))))))
    refine (bifF (decide_eq_false c7)).trans ?_
    by_cases c8 : m.code = 0
    · refine (bifT (beq_iff_eq.2 c8)).trans ?_
      refine (bare_eq _ m).trans ?_
      by_cases c9 : m.tok = [] ∧ m.opts = [] ∧ m.body = []
      · rw [decide_eq_true c9]
        refine w3_eq K m (fun h => ?_) hk ho
        unfold Bad at h
        rw [c5] at h
        rcases h with h | h | h | h | h | h | h | h
        · exact c1 h
        · exact c2 h
        · exact c3 h
        · exact c4 h
        · cases h
        · exact c6 h
        · exact c7 h
        · exact h.2 c9
      · rw [decide_eq_false c9]
        exact w3_bad K m (.inr (.inr (.inr (.inr (.inr (.inr (.inr ⟨c8, c9⟩)))))))
    · refine (bifF (beq_eq_false_iff_ne.2 c8)).trans ?_
      refine w3_eq K m (fun h => ?_) hk ho
      unfold Bad at h
      rw [c5] at h
      rcases h with h | h | h | h | h | h | h | h
      · exact c1 h
      · exact c2 h
      · exact c3 h
      · exact c4 h
      · cases h
      · exact c6 h
      · exact c7 h
      · exact c8 h.1
theorem r2_eq {k : Nat} (K : Nat × Int × List CV → Option X) (m : Ms) (hB : ¬ Bad m) (hk : 1000000 < k) (ho : m.opts.length < 1000) : f12_J2 (fun X => @f34 X k) (fun X => @f35 X k) (fun X => @f36 X k) k K m.cv () = Res K (msgW m) := by
  unfold f12_J2
  show (bif decide (((by8 m.tok).length : Int) > 8) then K (0, 2, []) else bif decide (((by8 m.body).length : Int) > 1200) then K (0, 2, []) else _) = _
  rw [by8_length, by8_length]
  by_cases h1 : (m.tok.length : Int) > 8
  · rw [msgW_long hB (.inl (by omega))]
    exact bifT (decide_eq_true h1)
  refine (bifF (decide_eq_false h1)).trans ?_
  by_cases h2 : (m.body.length : Int) > 1200
  · rw [msgW_long hB (.inr (by omega))]
    exact bifT (decide_eq_true h2)
  refine (bifF (decide_eq_false h2)).trans ?_
  have hL : ¬ Long m := fun h => by unfold Long at h; omega
  have hb := hB
  unfold Bad at hb
  refine (refW_eq _ m.opts hk ho).trans ?_
  unfold msgW
  rw [if_neg hB, if_neg hL]
  cases h : (optW m.opts).1 != 0 with
  | true => rfl
  | false =>
    refine (bifF rfl).trans ?_
    have ol := optW_len m.opts
    show f36 k _ [CV.slc none [CV.int .u8 (IntKind.wrap .u8 (IntKind.wrap .i64 (IntKind.wrap .i64 (64 + IntKind.wrap .i64 (16 * m.kind)) + (((by8 m.tok).length : Nat) : Int)))), CV.int .u8 (IntKind.wrap .u8 m.code), CV.int .u8 (IntKind.wrap .u8 (IntKind.wrap .i64 (Int.tdiv m.id 256))), CV.int .u8 (IntKind.wrap .u8 (Int.tmod m.id 256))], CV.slc none (by8 m.tok), CV.slc none (List.take (optW m.opts).2.length (by8 (optW m.opts).2))] = _
    rw [by8_length, headR hB hL, t8', tdiv_eq (by omega), tmod_eq (by omega), u8_small (n := m.code) (by omega) (by omega), wrap64 (n := m.id / 256) (by omega) (by omega), u8_small (n := m.id / 256) (by omega) (by omega), u8_small (n := m.id % 256) (by omega) (by omega)]
    show f36 k _ (parts [head m, m.tok, (optW m.opts).2]) = _
    have ef : [head m, m.tok, (optW m.opts).2].flatten = head m ++ m.tok ++ (optW m.opts).2 := by simp
    have hhl : (head m).length = 4 := rfl
    have el : (head m ++ m.tok ++ (optW m.opts).2).length ≤ 20000 := by simp only [List.length_append]; omega
    refine (join_eq _ _ (by rw [ef]; simp only [List.length_cons, List.length_nil]; omega) (by rw [ef]; omega) (by simp)).trans ?_
    rw [ef]
    generalize head m ++ m.tok ++ (optW m.opts).2 = P at el
    by_cases hbody : m.body = []
    · refine (bifF (decide_eq_false (by show ¬ ((by8 m.body).length : Int) > 0; rw [by8_length, hbody]; simp))).trans ?_
      show K (P.length, 0, List.take (0 + P.length) (by8 P)) = K ((P ++ tail m.body).length, 0, by8 (P ++ tail m.body))
      rw [t8, hbody, show tail [] = [] from rfl, List.append_nil]
    · have hbl : 0 < m.body.length := List.length_pos_iff.2 hbody
      refine (bifT (decide_eq_true (by show ((by8 m.body).length : Int) > 0; rw [by8_length]; omega))).trans ?_
      have e5 : P ++ tail m.body = [P, [255], m.body].flatten := by unfold tail; rw [if_neg hbody]; simp
      have e6 : [P, [255], m.body].flatten.length ≤ 30000 := by simp; omega
      rw [e5]
      show f36 k _ [CV.slc none (List.take P.length (by8 P)), CV.slc none (by8 [255]), CV.slc none (by8 m.body)] = _
      rw [t8']
      refine (join_eq _ [P, [255], m.body] (by simp only [List.length_cons, List.length_nil]; omega) (by omega) (by simp)).trans ?_
      show K ([P, [255], m.body].flatten.length, 0, List.take (0 + [P, [255], m.body].flatten.length) (by8 [P, [255], m.body].flatten)) = _
      rw [t8]; rfl
theorem refWrite_eq {k : Nat} (K : Nat × Int × List CV → Option X) (m : Ms) (hk : 1000000 < k) (ho : m.opts.length < 1000) : f12 k K m.cv = Res K (msgW m) := by
  unfold f12 f12_A f12_T
  refine (grdT rfl).trans ?_
  refine (grdT rfl).trans ?_
  refine (grdT rfl).trans ?_
  refine (grdT rfl).trans ?_
  refine (grdT rfl).trans ?_
  refine (grdT rfl).trans ?_
  refine (grdT rfl).trans ?_
  by_cases c1 : m.kind < 0
  · rw [msgW_bad (.inl c1)]
    exact bifT (decide_eq_true c1)
  refine (bifF (decide_eq_false c1)).trans ?_
  by_cases c2 : m.kind > 3
  · rw [msgW_bad (.inr (.inl c2))]
    exact bifT (decide_eq_true c2)
  refine (bifF (decide_eq_false c2)).trans ?_
  by_cases c3 : m.code < 0
  · rw [msgW_bad (.inr (.inr (.inl c3)))]
    exact bifT (decide_eq_true c3)
  refine (bifF (decide_eq_false c3)).trans ?_
  by_cases c4 : m.code > 255
  · rw [msgW_bad (.inr (.inr (.inr (.inl c4))))]
    exact bifT (decide_eq_true c4)
  refine (bifF (decide_eq_false c4)).trans ?_
  by_cases c6 : m.id < 0
  · rw [msgW_bad (.inr (.inr (.inr (.inr (.inr (.inl c6))))))]
    exact bifT (decide_eq_true c6)
  refine (bifF (decide_eq_false c6)).trans ?_
  by_cases c7 : m.id > 65535
  · rw [msgW_bad (.inr (.inr (.inr (.inr (.inr (.inr (.inl c7)))))))]
    exact bifT (decide_eq_true c7)
  refine (bifF (decide_eq_false c7)).trans ?_
  refine (usedR_eq _ m.code (by omega) (by omega)).trans ?_
  cases c5 : used m.code with
  | false =>
    rw [msgW_bad (.inr (.inr (.inr (.inr (.inl c5)))))]
    exact bifT rfl
  | true =>
    refine (bifF rfl).trans ?_
    have good : (m.code = 0 → m.tok = [] ∧ m.opts = [] ∧ m.body = []) → ¬ Bad m := fun hg h => by
      unfold Bad at h
      rw [c5] at h
      rcases h with h | h | h | h | h | h | h | h
      · exact c1 h
      · exact c2 h
      · exact c3 h
      · exact c4 h
      · cases h
      · exact c6 h
      · exact c7 h
      · exact h.2 (hg h.1)
    by_cases c8 : m.code = 0
    · refine (bifT (beq_iff_eq.2 c8)).trans ?_
      show (bif decide (((by8 m.tok).length : Int) > 0) then K (0, 1, []) else bif decide (((ops m.opts).length : Int) > 0) then K (0, 1, []) else bif decide (((by8 m.body).length : Int) > 0) then K (0, 1, []) else _) = _
      rw [by8_length, ops_length, by8_length]
      have bad : ¬ (m.tok = [] ∧ m.opts = [] ∧ m.body = []) → msgW m = (1, []) := fun h => msgW_bad (.inr (.inr (.inr (.inr (.inr (.inr (.inr ⟨c8, h⟩)))))))
      by_cases d1 : (m.tok.length : Int) > 0
      · rw [bad fun h => by rw [h.1] at d1; simp at d1]
        exact bifT (decide_eq_true d1)
      refine (bifF (decide_eq_false d1)).trans ?_
      by_cases d2 : (m.opts.length : Int) > 0
      · rw [bad fun h => by rw [h.2.1] at d2; simp at d2]
        exact bifT (decide_eq_true d2)
      refine (bifF (decide_eq_false d2)).trans ?_
      by_cases d3 : (m.body.length : Int) > 0
      · rw [bad fun h => by rw [h.2.2] at d3; simp at d3]
        exact bifT (decide_eq_true d3)
      refine (bifF (decide_eq_false d3)).trans ?_
      exact r2_eq K m (good fun _ => ⟨List.length_eq_zero_iff.1 (by omega), List.length_eq_zero_iff.1 (by omega), List.length_eq_zero_iff.1 (by omega)⟩) hk ho
    · refine (bifF (beq_eq_false_iff_ne.2 c8)).trans ?_
      exact r2_eq K m (good fun h => absurd h c8) hk ho
/-- Few bytes. -/
def fewO (l : List Op) : Bool := decide (l.length ≤ 40) && l.all fun o => decide (o.2.length ≤ 400)
def few (m : Ms) : Bool := decide (m.tok.length ≤ 100) && decide (m.body.length ≤ 2000) && fewO m.opts
theorem fewO_eq {k : Nat} (K : Bool → Option X) (l : List Op) (hk : 100 < k) : f18 k K (ops l) = K (fewO l) := by
  unfold f18 f18_A f18_T fewO
  rw [ops_length]
  by_cases h : (l.length : Int) > 40
  · rw [show decide (l.length ≤ 40) = false from decide_eq_false (by omega)]
    exact bifT (decide_eq_true h)
  · rw [show decide (l.length ≤ 40) = true from decide_eq_true (by omega)]
    refine (bifF (decide_eq_false h)).trans ?_
    refine iterV_spec (T := f18_L1 k K) (fun i => (ops l, (i : Int))) (fun i => K ((l.drop i).all fun o => decide (o.2.length ≤ 400))) l.length (fun i rec h hr => ?_) (fun rec => ?_) k 0 (Nat.zero_le _) (by omega)
    · unfold f18_L1 f18_T1
      dsimp only
      refine (bifT (decide_eq_true (by rw [ops_length]; omega))).trans ?_
      refine (grdT (dec0 _)).trans ?_
      rw [Int.toNat_natCast]
      refine (bAt (ops_nth l i h) _).trans ?_
      refine (bAt (opv1 _) _).trans ?_
      refine (grdT rfl).trans ?_
      rw [show CV.toL (CV.slc none (by8 l[i].2)) = by8 l[i].2 from rfl, by8_length]
      rw [List.drop_eq_getElem_cons h, List.all_cons]
      by_cases h1 : (l[i].2.length : Int) > 400
      · rw [show decide (l[i].2.length ≤ 400) = false from decide_eq_false (by omega)]
        exact bifT (decide_eq_true h1)
      · rw [show decide (l[i].2.length ≤ 400) = true from decide_eq_true (by omega)]
        refine (bifF (decide_eq_false h1)).trans ?_
        rw [wrap64_s (by omega), hr]; rfl
    · unfold f18_L1 f18_T1
      dsimp only
      refine (bifF (decide_eq_false (by rw [ops_length]; omega))).trans ?_
      rw [List.drop_length]; rfl
theorem few_eq {k : Nat} (K : Bool → Option X) (m : Ms) (hk : 100 < k) : f10 k K m.cv = K (few m) := by
  have e : f10 k K m.cv = (bif decide (((by8 m.tok).length : Int) ≤ 100) then (bif decide (((by8 m.body).length : Int) ≤ 2000) then f18 k K (ops m.opts) else K false) else K false) := by kernel_rfl
  rw [e, by8_length, by8_length, fewO_eq _ _ hk]
  unfold few
  rw [show decide ((m.tok.length : Int) ≤ 100) = decide (m.tok.length ≤ 100) from decide_eq_decide.2 (by omega), show decide ((m.body.length : Int) ≤ 2000) = decide (m.body.length ≤ 2000) from decide_eq_decide.2 (by omega)]
  cases decide (m.tok.length ≤ 100) <;> cases decide (m.body.length ≤ 2000) <;> rfl
theorem few_len {m : Ms} (h : few m = true) : m.opts.length ≤ 40 ∧ m.tok.length ≤ 100 ∧ m.body.length ≤ 2000 ∧ ∀ o ∈ m.opts, o.2.length ≤ 400 := by
  simp only [few, fewO, Bool.and_eq_true, decide_eq_true_eq, List.all_eq_true] at h
  exact ⟨h.2.1, h.1.1, h.1.2, h.2.2⟩
theorem msgW_len (m : Ms) : (msgW m).2.length ≤ 20000 := by
  unfold msgW
  split
  · simp
  · split
    · simp
    · next hl =>
      unfold Long at hl
      have := optW_len m.opts
      cases (optW m.opts).1 != 0 with
      | true => simp
      | false =>
        show (head m ++ m.tok ++ (optW m.opts).2 ++ tail m.body).length ≤ 20000
        have : (tail m.body).length ≤ m.body.length + 1 := by unfold tail; split <;> simp
        have hhl : (head m).length = 4 := rfl
        simp only [List.length_append]
        omega
end
end Go.Proofs.YtlgdoglffddjfaaD
