/- The document's exchanges, and that the two are the same, step by step. -/
import Derived.Test.YtlmefodpnhpghaaPd
namespace Go.Proofs.YtlmefodpnhpghaaD
open Go Go.Proofs.YtlmefodpnhpghaaS Go.Proofs
set_option linter.unusedVariables false
set_option linter.unusedSimpArgs false
section
variable {X : Type}
/-- An exchange as the document has it: it counts upwards. -/
def en2 (x : Ex) : CV := .agg [.int .i64 x.t, .int .i64 x.i, .slc none (by8 x.d), .int .i64 x.a, .int .i64 x.w, .int .i64 ((4 : Int) - x.l)]
def row2 (ks : List Ex) : List CV := ks.map en2
theorem row2_length (ks : List Ex) : (row2 ks).length = ks.length := by simp [row2]
theorem row2_get (ks : List Ex) (i : Nat) : (row2 ks)[i]? = ks[i]?.map en2 := by simp [row2]
theorem row2_append (a b : List Ex) : row2 (a ++ b) = row2 a ++ row2 b := by simp [row2]
theorem e2_isA (x : Ex) : CV.isA 6 (en2 x) = true := rfl
theorem e2_fit (x : Ex) : fitSh (some 6) (en2 x) = true := rfl
theorem e2_0 (x : Ex) : CV.cellD 0 (en2 x) = .int .i64 x.t := rfl
theorem e2_1 (x : Ex) : CV.cellD 1 (en2 x) = .int .i64 x.i := rfl
theorem e2_2 (x : Ex) : CV.cellD 2 (en2 x) = .slc none (by8 x.d) := rfl
theorem e2_3 (x : Ex) : CV.cellD 3 (en2 x) = .int .i64 x.a := rfl
theorem e2_4 (x : Ex) : CV.cellD 4 (en2 x) = .int .i64 x.w := rfl
theorem e2_5 (x : Ex) : CV.cellD 5 (en2 x) = .int .i64 ((4 : Int) - x.l) := rfl
theorem e2_c0 (x : Ex) : CV.cell (en2 x) 0 = some (.int .i64 x.t) := rfl
theorem e2_c1 (x : Ex) : CV.cell (en2 x) 1 = some (.int .i64 x.i) := rfl
theorem e2_c3 (x : Ex) : CV.cell (en2 x) 3 = some (.int .i64 x.a) := rfl
def tab (ks : List Ex) (now : Int) : CV := .agg [.slc (some 6) (row2 ks), .int .i64 now]
theorem tab_isA (ks : List Ex) (now : Int) : CV.isA 2 (tab ks now) = true := rfl
theorem tab_0 (ks : List Ex) (now : Int) : CV.cellD 0 (tab ks now) = .slc (some 6) (row2 ks) := rfl
theorem tab_1 (ks : List Ex) (now : Int) : CV.cellD 1 (tab ks now) = .int .i64 now := rfl
def cl (n : Int) : Int := if n < 0 then 0 else if n > 1099511627776 then 1099511627776 else n
theorem clock_eq {k : Nat} (K : Int → Option X) (n : Int) : f33 k K n = K (cl n) := by
  unfold f33 f33_T cl
  by_cases h1 : n < 0
  · simp [h1]
  · by_cases h2 : n > 1099511627776
    · simp [h1, h2]
    · simp [h1, h2]
theorem cl_mx {n : Int} (h : 0 ≤ n) : cl n = mx n := by
  unfold cl mx
  rw [if_neg (by omega)]
theorem later_eq {k : Nat} (K : List CV × Int → Option X) (ks : List Ex) (n now : Int) (h0 : 0 ≤ now) (h1 : now ≤ 1099511627776) : f32 k K (tab ks now) n = K (row2 ks, clk n now) := by
  unfold f32 f32_T f32_J1
  simp only [tab_isA, tab_0, tab_1, isL_slc, isI_int, toI_int, toL_slc, grd_true, clock_eq]
  by_cases h : cl n > now
  · have e : clk n now = cl n := by
      unfold cl at *
      unfold clk
      repeat' split
      all_goals (repeat' split at h)
      all_goals omega
    simp only [h, decide_true, cond_true, e]
  · have e : clk n now = now := by
      unfold cl at h
      unfold clk
      repeat' split
      all_goals (repeat' split at h)
      all_goals omega
    simp only [h, decide_false, cond_false, e]
theorem has2_eq {k : Nat} (K : Bool → Option X) (ks : List Ex) (now a b : Int) (hk : ks.length < k) (hl : ks.length < 1000000) : f25 k K (tab ks now) a b = K (ks.any (is a b)) := by
  unfold f25 f25_T
  simp only [tab_isA, tab_0, tab_1, isL_slc, isI_int, toI_int, toL_slc, grd_true]
  have key := iterV_spec (T := f25_L1 k K) (fun i => (a, b, (i : Int), row2 ks, now)) (fun i => K ((ks.drop i).any (is a b))) ks.length (fun i rec hi hx => ?_) (fun rec => ?_) k 0 (Nat.zero_le _) (by omega)
  · simpa using key
  · unfold f25_L1 f25_T1
    rw [List.drop_eq_getElem_cons hi]
    simp only [f25_J1, row2_length, row2_get, Int.toNat_natCast, List.getElem?_eq_getElem hi, Option.map_some, Option.bind_some, grd_true, dec0, decLt, hi, decide_true, cond_true, e2_c0, e2_c1, isI_int, toI_int, wrap64_succ (show i < 4611686018427387904 by omega), hx, List.any_cons, is]
    by_cases h1 : ks[i].t = a
    · by_cases h2 : ks[i].i = b
      · simp [h1, h2]
      · simp [h1, beq_f h2]
    · simp [beq_f h1]
  · unfold f25_L1 f25_T1
    simp [row2_length]
theorem copyK {k : Nat} (K : Nat × List CV → Option X) (r : List Int) (hk : r.length < k) (hr : r.length < 70368744177664) : f9 k K (by8 r) = K (r.length, by8 r) := copy_eq K r hk hr
theorem startL_eq {k : Nat} (K : List CV × Int × Int → Option X) (ks : List Ex) (a b w now : Int) (d : List Int) (hk : ks.length < k) (hl : ks.length < 1000000) (hd : d.length < k) (hd2 : d.length ≤ 100000) (h0 : 0 ≤ now) (h1 : now ≤ 1099511627776) (hw0 : 20 ≤ w) (hw1 : w ≤ 30) :
    iterV (f20_L1 k K) k (a, b, by8 d, w, 0, 0, row2 ks, now, []) = K (row2 (ks ++ [⟨a, b, d, mx (now + w), w, 4⟩]), now, 0) := by
  refine iterV_spec (T := f20_L1 k K) (fun i => (a, b, by8 d, w, i, (i : Int), row2 ks, now, row2 (ks.take i))) (fun i => K (row2 (ks ++ [⟨a, b, d, mx (now + w), w, 4⟩]), now, 0)) ks.length (fun i rec hi hx => ?_) (fun rec => ?_) k 0 (Nat.zero_le _) (by omega)
  · rw [← hx]
    unfold f20_L1 f20_T1
    have e5 : List.take i (row2 (ks.take i)) = row2 (ks.take i) := List.take_of_length_le (by simp [row2]; omega)
    have e3 : ∀ x : Ex, List.take 1 (List.drop 0 [en2 x]) = row2 [x] := fun x => rfl
    have e4 : ∀ x : Ex, (row2 [x]).length = 1 := fun x => rfl
    simp only [row2_length, row2_get, Int.toNat_natCast, List.getElem?_eq_getElem hi, Option.map_some, Option.bind_some, grd_true, dec0, decLt, hi, decide_true, cond_true, e2_fit, e5, e3, e4, wrap64_succ (show i < 4611686018427387904 by omega), ← row2_append]
    rw [grd_dec (show (i + 1) * 64 ≤ 140737488355328 by omega), List.take_succ_eq_append_getElem hi]
  · unfold f20_L1 f20_T1
    simp only [row2_length, decLt, Nat.lt_irrefl, decide_false, cond_false]
    rw [copy_eq _ _ hd (by omega), List.take_of_length_le (Nat.le_refl _)]
    simp only [clock_eq]
    have ew : IntKind.wrap .i64 (now + w) = now + w := wrap64 (by omega) (by omega)
    have e0 : List.take d.length (List.drop 0 (by8 d)) = by8 d := by rw [List.drop_zero, List.take_of_length_le (by rw [by8_length]; exact Nat.le_refl _)]
    have e5 : List.take ks.length (row2 ks) = row2 ks := List.take_of_length_le (by simp [row2])
    have e3 : List.take 1 (List.drop 0 [CV.agg [CV.int .i64 a, CV.int .i64 b, CV.slc none (by8 d), CV.int .i64 (mx (now + w)), CV.int .i64 w, CV.int .i64 0]]) = row2 [⟨a, b, d, mx (now + w), w, 4⟩] := rfl
    have e4 : ∀ x : Ex, (row2 [x]).length = 1 := fun x => rfl
    rw [ew, cl_mx (by omega)]
    simp only [e0, e3, e4, e5, ← row2_append]
    rw [grd_dec (show (ks.length + 1) * 64 ≤ 140737488355328 by omega), List.drop_zero, List.take_of_length_le (by simp [row2])]
theorem start2_eq {k : Nat} (K : List CV × Int × Int → Option X) (ks : List Ex) (a b n r now : Int) (d : List Int) (hk : ks.length < k) (hl : ks.length < 1000000) (hd : d.length < k) (hd2 : d.length ≤ 100000) (h0 : 0 ≤ now) (h1 : now ≤ 1099511627776) :
    f20 k K (tab ks now) a b (by8 d) n r = K (row2 (startP ks a b d (clk n now) r).2, clk n now, (startP ks a b d (clk n now) r).1) := by
  unfold f20 f20_T
  simp only [tab_isA, tab_0, tab_1, isL_slc, isI_int, toI_int, toL_slc, grd_true]
  have hc : 0 ≤ clk n now ∧ clk n now ≤ 1099511627776 := by
    unfold clk
    repeat' split
    all_goals omega
  rw [show (CV.agg [CV.slc (some 6) (row2 ks), CV.int .i64 now]) = tab ks now from rfl, later_eq _ _ _ _ h0 h1]
  simp only
  rw [show (CV.agg [CV.slc (some 6) (row2 ks), CV.int .i64 (clk n now)]) = tab ks (clk n now) from rfl, has2_eq _ _ _ _ _ hk hl]
  generalize clk n now = c at *
  unfold startP
  cases ha : ks.any (is a b) with
  | true => rfl
  | false =>
    simp only [cond_false, Bool.false_eq_true, if_false, row2_length]
    by_cases h4 : ks.length ≥ 4
    · rw [if_pos h4, show decide (((ks.length : Nat) : Int) ≥ 4) = true by simp; omega]
      rfl
    · rw [if_neg h4, show decide (((ks.length : Nat) : Int) ≥ 4) = false by simp; omega]
      simp only [cond_false, f20_J1]
      have hw := wt_bd r
      have e : ∀ w, w = wt r → iterV (f20_L1 k K) k (a, b, by8 d, w, 0, 0, row2 ks, c, []) = K (row2 (ks ++ [⟨a, b, d, mx (c + wt r), wt r, 4⟩]), c, 0) := fun w e => by
        subst e
        exact startL_eq K ks a b _ c d hk hl hd hd2 hc.1 hc.2 hw.1 hw.2
      by_cases hr : r > 0
      · simp only [hr, decide_true, cond_true]
        refine e _ ?_
        unfold wt; rw [if_neg (by omega)]
      · simp only [hr, decide_false, cond_false]
        refine e _ ?_
        unfold wt
        by_cases hr0 : 0 > r
        · rw [if_pos hr0]; rfl
        · have : r = 0 := by omega
          subst this; rfl
/-- No message waits twice. -/
def Uniq (ks : List Ex) : Prop := ks.Pairwise (fun x y => ¬ (x.t = y.t ∧ x.i = y.i))
theorem is_iff {a b : Int} {x : Ex} : is a b x = true ↔ x.t = a ∧ x.i = b := by simp [is]
theorem filter_uniq {a b : Int} : ∀ {ks : List Ex}, Uniq ks → stopP ks a b = ks.filter (fun x => !is a b x)
  | [], _ => rfl
  | x :: l, h => by
    unfold stopP
    rw [List.findIdx?_cons]
    have h' := List.pairwise_cons.1 h
    cases hx : is a b x with
    | true =>
      simp only [if_true, List.eraseIdx_cons_zero, List.filter_cons, hx, Bool.not_true, Bool.false_eq_true, if_false]
      refine (List.filter_eq_self.2 fun y hy => ?_).symm
      have := h'.1 y hy
      cases hy2 : is a b y with
      | false => rfl
      | true =>
        rw [is_iff] at hx hy2
        exact absurd ⟨hx.1.trans hy2.1.symm, hx.2.trans hy2.2.symm⟩ this
    | false =>
      have ih := filter_uniq (a := a) (b := b) h'.2
      unfold stopP at ih
      simp only [Bool.false_eq_true, if_false, List.filter_cons, hx, Bool.not_false, if_true, ← ih]
      cases l.findIdx? (is a b) with
      | none => rfl
      | some j => rfl
theorem filter_any {a b : Int} (ks : List Ex) : decide ((ks.filter (fun x => !is a b x)).length < ks.length) = ks.any (is a b) := by
  induction ks with
  | nil => rfl
  | cons x l ih =>
    have hle := List.length_filter_le (fun x => !is a b x) l
    rw [List.any_cons, List.filter_cons]
    cases hx : is a b x with
    | true => simp; omega
    | false =>
      simp only [Bool.not_false, if_true, List.length_cons, Bool.false_or, ← ih]
      exact decide_eq_decide.2 (by omega)
theorem stop2_eq {k : Nat} (K : Nat × Int × Bool × List CV → Option X) (ks : List Ex) (a b now : Int) (hk : ks.length < k) (hl : ks.length < 1000000) (hu : Uniq ks) :
    f21b k K (tab ks now) a b = K ((stopP ks a b).length, now, ks.any (is a b), row2 (stopP ks a b)) := by
  unfold f21b f21b_T
  simp only [tab_isA, tab_0, tab_1, isL_slc, isI_int, toI_int, toL_slc, grd_true]
  rw [filter_uniq hu, ← filter_any]
  refine iterV_spec (T := f21b_L1 k K) (fun i => (a, b, ((ks.take i).filter (fun x => !is a b x)).length, (i : Int), row2 ks, now, row2 ((ks.take i).filter (fun x => !is a b x)))) (fun i => K ((ks.filter (fun x => !is a b x)).length, now, decide ((ks.filter (fun x => !is a b x)).length < ks.length), row2 (ks.filter (fun x => !is a b x)))) ks.length (fun i rec hi hx => ?_) (fun rec => ?_) k 0 (Nat.zero_le _) (by omega)
  · rw [← hx]
    unfold f21b_L1 f21b_T1
    generalize hF : (ks.take i).filter (fun x => !is a b x) = F
    have hlen : F.length ≤ i := by rw [← hF]; exact Nat.le_trans (List.length_filter_le _ _) (by simp; omega)
    have e2 : List.take F.length (row2 F) = row2 F := List.take_of_length_le (by rw [row2_length]; exact Nat.le_refl _)
    have e3 : ∀ x : Ex, List.take 1 (List.drop 0 [en2 x]) = row2 [x] := fun n => rfl
    have e4 : ∀ x : Ex, (row2 [x]).length = 1 := fun n => rfl
    have e6 : (ks.take (i + 1)).filter (fun x => !is a b x) = F ++ (if is a b ks[i] then [] else [ks[i]]) := by
      rw [List.take_succ_eq_append_getElem hi, List.filter_append, hF]
      cases hc : is a b ks[i] <;> simp [hc]
    rw [e6]
    simp only [f21b_J1, row2_length, row2_get, Int.toNat_natCast, Nat.zero_add, List.getElem?_eq_getElem hi, Option.map_some, Option.bind_some, grd_true, dec0, decLt, hi, decide_true, cond_true, e2_fit, e2_c0, e2_c1, isI_int, toI_int, e2, e3, e4, ← row2_append, wrap64_succ (show i < 4611686018427387904 by omega), grd_dec (show (F.length + 1) * 64 ≤ 140737488355328 by omega)]
    by_cases h1 : ks[i].t = a
    · by_cases h2 : ks[i].i = b
      · have : is a b ks[i] = true := by simp [is, h1, h2]
        simp [h1, h2, this]
      · have : is a b ks[i] = false := by simp [is, h2]
        simp [h1, bne_t h2, this]
    · have : is a b ks[i] = false := by simp [is, h1]
      simp [bne_t h1, this]
  · unfold f21b_L1 f21b_T1
    rw [List.take_of_length_le (Nat.le_refl _)]
    simp only [row2_length, decLt, Nat.lt_irrefl, decide_false, cond_false, Nat.zero_add]
    rw [List.take_of_length_le (by simp [row2])]
theorem next2_eq {k : Nat} (K : Int × Bool → Option X) (ks : List Ex) (now : Int) (hk : ks.length < k) (hl : ks.length < 1000000) : f24 k K (tab ks now) = (match fU ks ks.length with
    | none => K (0, false)
    | some i => K ((ks.getD i default).a, true)) := by
  unfold f24 f24_T
  simp only [tab_isA, tab_0, tab_1, isL_slc, isI_int, toI_int, toL_slc, grd_true, row2_length]
  rcases fU_spec ks ks.length (Nat.le_refl _) with ⟨h0, h1⟩ | ⟨j, h1, h2, h3⟩
  · rw [h1, h0]; rfl
  · have hpos : 0 < ks.length := by omega
    have z : (((ks.length : Nat) : Int) == 0) = false := by simp; exact fun e => by rw [e] at hpos; simp at hpos
    simp only [z, cond_false, row2_get, List.getElem?_eq_getElem hpos, Option.map_some, Option.bind_some, e2_c3, isI_int, toI_int, grd_true]
    rw [h1]
    have key := iterV_spec (T := f24_L1 k K) (fun i => ((ks.getD ((fU ks i).getD 0) default).a, (i : Int), row2 ks, now)) (fun i => K ((ks.getD j default).a, true)) ks.length (fun i rec hi hx => ?_) (fun rec => ?_) k 1 (by omega) (by omega)
    · have e1 : fU ks 1 = some 0 := by simp [fU]
      simp only [e1, Option.getD_some] at key
      rw [show (ks.getD 0 default).a = ks[0].a by simp [List.getD_eq_getElem?_getD, List.getElem?_eq_getElem hpos]] at key
      exact key
    · rw [← hx]
      unfold f24_L1 f24_T1
      simp only [f24_J1, row2_length, row2_get, Int.toNat_natCast, List.getElem?_eq_getElem hi, Option.map_some, Option.bind_some, grd_true, dec0, decLt, hi, decide_true, cond_true, e2_c3, isI_int, toI_int, wrap64_succ (show i < 4611686018427387904 by omega)]
      have hgi : ks.getD i default = ks[i] := by simp [List.getD_eq_getElem?_getD, List.getElem?_eq_getElem hi]
      rcases fU_spec ks i (by omega) with ⟨rfl, g1⟩ | ⟨m, g1, g2, g3⟩
      · have e1 : fU ks 1 = some 0 := by simp [fU]
        rw [g1, e1]
        simp only [Option.getD_none, Option.getD_some, hgi, Int.lt_irrefl, decide_false, cond_false]
      · have e : fU ks (i + 1) = if (ks.getD i default).a < (ks.getD m default).a then some i else some m := by
          show (match fU ks i with
            | none => some i
            | some j => if (ks.getD i default).a < (ks.getD j default).a then some i else some j) = _
          rw [g1]
        rw [e, g1, hgi]
        simp only [Option.getD_some]
        by_cases hc : ks[i].a < (ks.getD m default).a
        · simp only [hc, decide_true, cond_true, if_true, Option.getD_some, hgi]
        · simp only [hc, decide_false, cond_false, if_false, Option.getD_some]
    · unfold f24_L1 f24_T1
      simp [row2_length, h1]
end
end Go.Proofs.YtlmefodpnhpghaaD
