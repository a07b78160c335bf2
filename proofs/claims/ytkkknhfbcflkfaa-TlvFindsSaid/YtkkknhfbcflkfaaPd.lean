/- Right lists as bytes: the document's answer. -/
import Derived.Test.YtkkknhfbcflkfaaPc
namespace Go.Proofs.YtkkknhfbcflkfaaD
open Go Go.Proofs.YtkkknhfbcflkfaaS Go.Proofs
set_option linter.unusedVariables false
set_option linter.unusedSimpArgs false
section
variable {X : Type}
theorem one8 (n : Int) : List.take 1 (List.drop 0 [CV.int .u8 n]) = by8 [n] := rfl
theorem two8 (n m : Int) : List.take 2 (List.drop 0 [CV.int .u8 n, CV.int .u8 m]) = by8 [n, m] := rfl
abbrev RJ (k : Nat) : f37_R := fun X => @f37 X k
theorem rj1 {k : Nat} (K : Nat × Int × List CV → Option X) (rec : List CV × Nat × Int × List CV → Option X) (R : List CV) (i : Nat) (P val h : List Int) (first : Int) (hf : 0 ≤ first ∧ first < 256) (hi : i + 1 ≤ 9223372036854775807) (hk : P.length + h.length + val.length + 10 < k) (hb : P.length + h.length + val.length + 10 < 70000000000000) :
    f25_J1 (RJ k) (f25_r k) k K rec (by8 val) (R, P.length, (i : Int), by8 P) (first, h.length, by8 h) = rec (R, (P ++ [first] ++ h ++ val).length, ((i + 1 : Nat) : Int), by8 (P ++ [first] ++ h ++ val)) := by
  unfold f25_J1
  dsimp only
  rw [d8, d8, wrapU8, show first % 256 = first by omega, one8, wrap64_n hi]
  have e0 : List.take 4 (List.drop 0 [CV.slc none (by8 P), CV.slc none (by8 [first]), CV.slc none (by8 h), CV.slc none (by8 val)]) = parts [P, [first], h, val] := rfl
  rw [e0]
  refine (join_eq _ _ (by simp; omega) (by simp; omega) (by simp)).trans ?_
  dsimp only
  rw [show [P, [first], h, val].flatten = P ++ [first] ++ h ++ val by simp]
theorem rj2 {k : Nat} (K : Nat × Int × List CV → Option X) (rec : List CV × Nat × Int × List CV → Option X) (R : List CV) (i : Nat) (P val h : List Int) (first a id : Int) (v ks : List CV) (hR : R[i]? = some (CV.agg [CV.int IntKind.i64 a, CV.int IntKind.i64 id, CV.slc none v, CV.slc (some 4) ks])) (hid : 0 ≤ id ∧ id ≤ 65535) (hv : val.length ≤ 65535) (hf : 0 ≤ first ∧ first < 230) (hi : i + 1 ≤ 9223372036854775807) (hk : P.length + h.length + val.length + 20 < k) (hb : P.length + h.length + val.length + 20 < 70000000000000) :
    f25_J2 (RJ k) (f25_r k) k K rec (by8 val) (R, P.length, (i : Int), by8 P) (first, h.length, by8 h) =
      (let w := P ++ [first + lenF val.length] ++ (h ++ [id % 256] ++ (if (val.length : Int) < 8 then [] else tailB val.length)) ++ val; rec (R, w.length, ((i + 1 : Nat) : Int), by8 w)) := by
  unfold f25_J2
  dsimp only
  refine (grdT (dec0 _)).trans ?_
  rw [Int.toNat_natCast]
  refine (bAt hR _).trans ?_
  refine (bAt (c := .int .i64 id) rfl _).trans ?_
  refine (grdT rfl).trans ?_
  have hc : CV.toI (CV.int .i64 id) = id := rfl
  rw [hc, Int.tmod_eq_emod_of_nonneg hid.1, wrapU8, show id % 256 % 256 = id % 256 by omega, one8, by8_length, by8_length, t8', ← by8_append]
  refine (grdT (decide_eq_true (by simp; omega))).trans ?_
  unfold lenF
  by_cases h8 : (val.length : Int) < 8
  · refine (bifT (decide_eq_true h8)).trans ?_
    rw [if_pos h8, if_pos h8, List.append_nil, wrap64 (by omega) (by omega)]
    have := rj1 (k := k) K rec R i P val (h ++ [id % 256]) (first + val.length) (by omega) hi (by simp; omega) (by simp; omega)
    rw [List.length_append] at this
    exact this
  refine (bifF (decide_eq_false h8)).trans ?_
  rw [if_neg h8, if_neg h8]
  unfold tailB
  by_cases h9 : (val.length : Int) < 256
  · refine (bifT (decide_eq_true h9)).trans ?_
    rw [if_pos h9, if_neg (show ¬ (val.length : Int) > 255 by omega), wrapU8, show (val.length : Int) % 256 = val.length by omega, one8, by8_length]
    rw [show h.length + [id % 256].length = (h ++ [id % 256]).length by simp, t8', ← by8_append]
    refine (grdT (decide_eq_true (by simp; omega))).trans ?_
    rw [wrap64 (by omega) (by omega)]
    have := rj1 (k := k) K rec R i P val (h ++ [id % 256] ++ [(val.length : Int)]) (first + 8) (by omega) hi (by simp; omega) (by simp; omega)
    rw [List.length_append] at this
    exact this
  · refine (bifF (decide_eq_false h9)).trans ?_
    rw [if_neg h9, if_pos (show (val.length : Int) > 255 by omega), Int.tdiv_eq_ediv_of_nonneg (by omega), Int.tmod_eq_emod_of_nonneg (by omega), wrap64 (n := (val.length : Int) / 256) (by omega) (by omega), wrapU8, wrapU8, show (val.length : Int) / 256 % 256 = val.length / 256 by omega, show (val.length : Int) % 256 % 256 = val.length % 256 by omega, two8, by8_length]
    rw [show h.length + [id % 256].length = (h ++ [id % 256]).length by simp, t8', ← by8_append]
    refine (grdT (decide_eq_true (by simp; omega))).trans ?_
    rw [wrap64 (by omega) (by omega)]
    have := rj1 (k := k) K rec R i P val (h ++ [id % 256] ++ [(val.length : Int) / 256, (val.length : Int) % 256]) (first + 16) (by omega) hi (by simp; omega) (by simp; omega)
    rw [List.length_append] at this
    exact this
theorem rj3 {k : Nat} (K : Nat × Int × List CV → Option X) (rec : List CV × Nat × Int × List CV → Option X) (R : List CV) (i : Nat) (P val : List Int) (a id : Int) (v ks : List CV) (hR : R[i]? = some (CV.agg [CV.int IntKind.i64 a, CV.int IntKind.i64 id, CV.slc none v, CV.slc (some 4) ks])) (ha : 0 ≤ a ∧ a ≤ 3) (hid : 0 ≤ id ∧ id ≤ 65535) (hi : i + 1 ≤ 9223372036854775807) (hk : P.length + 70000 < k) (hb : P.length < 60000000000000) :
    f25_J3 (RJ k) (f25_r k) k K rec (R, P.length, (i : Int), by8 P) (by8 val) =
      if val.length > 65535 then K (0, 2, []) else (let w := P ++ (hdB a id val.length ++ val); rec (R, w.length, ((i + 1 : Nat) : Int), by8 w)) := by
  unfold f25_J3
  dsimp only
  by_cases c : val.length > 65535
  · rw [if_pos c]
    exact bifT (decide_eq_true (by rw [by8_length]; omega))
  rw [if_neg c]
  refine (bifF (decide_eq_false (by rw [by8_length]; omega))).trans ?_
  refine (grdT (dec0 _)).trans ?_
  rw [Int.toNat_natCast]
  refine (bAt hR _).trans ?_
  refine (bAt (c := .int .i64 a) rfl _).trans ?_
  refine (grdT rfl).trans ?_
  refine (grdT (dec0 _)).trans ?_
  refine (bAt hR _).trans ?_
  refine (bAt (c := .int .i64 id) rfl _).trans ?_
  refine (grdT rfl).trans ?_
  have hca : CV.toI (CV.int .i64 a) = a := rfl
  have hci : CV.toI (CV.int .i64 id) = id := rfl
  rw [hca, hci, wrap64 (n := a * 64) (by omega) (by omega)]
  by_cases h2 : id > 255
  · refine (bifT (decide_eq_true h2)).trans ?_
    refine (grdT (dec0 _)).trans ?_
    refine (bAt hR _).trans ?_
    refine (bAt (c := .int .i64 id) rfl _).trans ?_
    refine (grdT rfl).trans ?_
    rw [hci, Int.tdiv_eq_ediv_of_nonneg (by omega), wrap64 (n := id / 256) (by omega) (by omega), wrapU8, show id / 256 % 256 = id / 256 by omega, one8, by8_length, wrap64 (n := a * 64 + 32) (by omega) (by omega)]
    refine (grdT (decide_eq_true (by simp))).trans ?_
    rw [List.take_nil, List.nil_append, Nat.zero_add]
    refine (rj2 (k := k) K rec R i P val [id / 256] (a * 64 + 32) a id v ks hR hid (by omega) (by omega) hi (by simp; omega) (by simp; omega)).trans ?_
    have e : P ++ [a * 64 + 32 + lenF val.length] ++ ([id / 256] ++ [id % 256] ++ (if (val.length : Int) < 8 then [] else tailB val.length)) ++ val = P ++ (hdB a id val.length ++ val) := by
      unfold hdB
      rw [if_pos h2, show tailB id = [id / 256, id % 256] by unfold tailB; rw [if_pos h2]]
      simp
    rw [e]
  · refine (bifF (decide_eq_false h2)).trans ?_
    refine (rj2 (k := k) K rec R i P val [] (a * 64) a id v ks hR hid (by omega) (by omega) hi (by simp; omega) (by simp; omega)).trans ?_
    have e : P ++ [a * 64 + lenF val.length] ++ ([] ++ [id % 256] ++ (if (val.length : Int) < 8 then [] else tailB val.length)) ++ val = P ++ (hdB a id val.length ++ val) := by
      unfold hdB
      rw [if_neg h2, show tailB id = [id] by unfold tailB; rw [if_neg h2], show id % 256 = id by omega]
      simp
    rw [e]
theorem refw_loop : ∀ (ts : TS) (k kk i : Nat) (R : List CV) (p : Int) (P : List Int) (K : Nat × Int × List CV → Option X), ts.sz + 20000000 < k → ts.len < kk → R.drop i = ts.row → R.length ≤ 9223372036854775807 → ts.ok → rin ts p = true → P.length + 65540 * ts.cnt ≤ 10000000 →
    iterV (f25_L1 (RJ k) (f25_r k) k K) kk (R, P.length, (i : Int), by8 P) = WRes K P (wr ts)
  | .nil, k, kk, i, R, p, P, K, hk, hkk, hR, hl, _, _, _ => by
    obtain ⟨kk, rfl⟩ : ∃ j, kk = j + 1 := ⟨kk - 1, by simp [TS.len] at hkk; omega⟩
    refine (iterV_one _ _ _).trans ?_
    unfold f25_L1 f25_T1
    dsimp only
    have := drop_none hR
    refine (bifF (decide_eq_false (by omega))).trans ?_
    rw [t8]
    show _ = K ((P ++ []).length, 0, by8 (P ++ []))
    rw [List.append_nil]
  | .cons a id v ks r, k, kk, i, R, p, P, K, hk, hkk, hR, hl, hok, hrin, hP => by
    obtain ⟨ho1, ho2, ho3, ho4⟩ := hok
    obtain ⟨r1, r2, r3, r4, r5, _⟩ := rin_cons hrin
    obtain ⟨kk, rfl⟩ : ∃ j, kk = j + 1 := ⟨kk - 1, by simp [TS.len] at hkk; omega⟩
    obtain ⟨h1, h2, h3⟩ := drop_next hR
    simp only [TS.sz, TS.len, TS.cnt] at hk hkk hP
    refine (iterV_one _ _ _).trans ?_
    have ih := fun P => refw_loop r k kk (i + 1) R p P K
    generalize hrec : iterV (f25_L1 (RJ k) (f25_r k) k K) kk = rec at *
    have tl : ∀ val : List Int, f25_J3 (RJ k) (f25_r k) k K rec (R, P.length, (i : Int), by8 P) (by8 val) =
        WRes K P (if val.length > 65535 then (2, []) else match wr r with
          | (e, rest) => if e ≠ 0 then (e, []) else (0, hdB a id val.length ++ val ++ rest)) := fun val => by
      refine (rj3 (k := k) K rec R i P val a id (by8 v) ks.row h1 r1 r2 (by omega) (by omega) (by omega)).trans ?_
      by_cases c : val.length > 65535
      · rw [if_pos c, if_pos c]; rfl
      rw [if_neg c, if_neg c]
      dsimp only
      have hh := (hdB_len a id val.length).1
      refine (ih (P ++ (hdB a id val.length ++ val)) (by omega) (by omega) h2 hl ho4 r5 (by simp only [List.length_append]; omega)).trans ?_
      unfold WRes
      generalize wr r = q
      obtain ⟨e, rest⟩ := q
      dsimp only
      by_cases he : e = 0
      · rw [if_neg (by simp [he])]
        rw [he]
        simp only [bne_self_eq_false, cond_false, List.append_assoc]
      · rw [if_pos he]
        have : (e != 0) = true := by simpa using he
        simp only [this, cond_true]
    -- the kids' bytes
    have kd : hold a = true → f25_r k X (fun u139 => bif (u139.2.1 != 0) then K (0, u139.2.1, List.take 0 []) else f25_J3 (RJ k) (f25_r k) k K rec (R, P.length, (i : Int), by8 P) (List.take u139.1 (List.drop 0 u139.2.2))) ks.row = WRes K P (wr (.cons a id v ks r)) := fun c5 => by
      obtain ⟨k', rfl⟩ : ∃ j, k = j + 1 := ⟨k - 1, by omega⟩
      have hls := len_sz ks
      refine (refw_loop ks k' k' 0 ks.row a [] _ (by omega) (by omega) rfl (by rw [row_len]; exact ho2) ho3 (r3 c5).2 (by simp; omega)).trans ?_
      unfold WRes
      rw [List.nil_append]
      have hw := wr_err ks
      rw [show wr (.cons a id v ks r) = (match wr ks with
          | (e, val) => if e ≠ 0 then (e, []) else if val.length > 65535 then (2, []) else match wr r with
          | (e, rest) => if e ≠ 0 then (e, []) else (0, hdB a id val.length ++ val ++ rest)) by
        conv => lhs; unfold wr
        rw [c5]; rfl]
      generalize wr ks = q at hw ⊢
      obtain ⟨e, val⟩ := q
      dsimp only at hw ⊢
      by_cases he : e = 0
      · subst he
        refine (bifF rfl).trans ?_
        rw [d8]
        refine (tl val).trans ?_
        rw [if_neg (show ¬ ((0 : Int) ≠ 0) by simp)]
        rfl
      · have hb : (e != 0) = true := by simpa using he
        refine (bifT hb).trans ?_
        refine (bifT hb).trans ?_
        rw [if_pos he]
        exact (bifT hb).symm
    unfold f25_L1 f25_T1
    dsimp only
    refine (bifT (decide_eq_true (by omega))).trans ?_
    refine (grdT (dec0 _)).trans ?_
    rw [Int.toNat_natCast]
    refine (bAt h1 _).trans ?_
    refine (bAt (c := .slc none (by8 v)) rfl _).trans ?_
    refine (grdT rfl).trans ?_
    refine (grdT (dec0 _)).trans ?_
    refine (bAt h1 _).trans ?_
    refine (bAt (c := .int .i64 a) rfl _).trans ?_
    refine (grdT rfl).trans ?_
    by_cases d0 : a = 0
    · refine (bifT (by subst d0; rfl)).trans ?_
      refine (grdT (dec0 _)).trans ?_
      refine (bAt h1 _).trans ?_
      refine (bAt (c := .slc (some 4) ks.row) rfl _).trans ?_
      refine (grdT rfl).trans ?_
      exact kd (by subst d0; rfl)
    refine (bifF (by show (a == 0) = false; simpa using d0)).trans ?_
    refine (grdT (dec0 _)).trans ?_
    refine (bAt h1 _).trans ?_
    refine (bAt (c := .int .i64 a) rfl _).trans ?_
    refine (grdT rfl).trans ?_
    by_cases d2 : a = 2
    · refine (bifT (by subst d2; rfl)).trans ?_
      refine (grdT (dec0 _)).trans ?_
      refine (bAt h1 _).trans ?_
      refine (bAt (c := .slc (some 4) ks.row) rfl _).trans ?_
      refine (grdT rfl).trans ?_
      exact kd (by subst d2; rfl)
    refine (bifF (by show (a == 2) = false; simpa using d2)).trans ?_
    rw [show wr (.cons a id v ks r) = (if v.length > 65535 then (2, []) else match wr r with
          | (e, rest) => if e ≠ 0 then (e, []) else (0, hdB a id v.length ++ v ++ rest)) by
        conv => lhs; unfold wr
        rw [show hold a = false by unfold hold; simp [d0, d2]]; rfl]
    exact tl v
theorem refWrite_eq {k : Nat} (K : Nat × Int × List CV → Option X) (ts : TS) (hk : ts.sz + 20000100 < k) (hl : ts.len ≤ 9223372036854775807) (ho : ts.ok) : f12 k K ts.row = K ((wrT ts).2.length, (wrT ts).1, by8 (wrT ts).2) := by
  unfold f12 f12_A f12_T wrT
  refine (refRight_eq _ ts (by omega) hl ho).trans ?_
  cases h : rightB ts with
  | false => rfl
  | true =>
    rw [if_pos rfl]
    refine (bifF rfl).trans ?_
    have hs := rightB_spec h
    obtain ⟨k, rfl⟩ : ∃ j, k = j + 1 := ⟨k - 1, by omega⟩
    have := len_sz ts
    refine (refw_loop ts k k 0 ts.row (-1) [] _ (by omega) (by omega) rfl (by rw [row_len]; exact hl) ho hs.2 (by simp; omega)).trans ?_
    unfold WRes
    have he := wr_err ts
    cases h2 : (wr ts).1 != 0 with
    | true =>
      rw [he (by simpa using h2)]; rfl
    | false =>
      have h3 : (wr ts).1 = 0 := by simpa using h2
      rw [h3, List.nil_append]
      show K _ = _
      rw [t8]
end
end Go.Proofs.YtkkknhfbcflkfaaD
