/- Reads; back; joins: the laws. -/
import Derived.Test.YtkkknhfbcflkfaaPj
namespace Go.Proofs.YtkkknhfbcflkfaaD
open Go Go.Proofs.YtkkknhfbcflkfaaS Go.Proofs
set_option linter.unusedVariables false
set_option linter.unusedSimpArgs false
section
variable {X : Type}
theorem tk_row (ts : TS) : List.take ts.len (List.drop 0 ts.row) = ts.row := by rw [List.drop_zero, ← row_len, List.take_length]
theorem reads_eq {k : Nat} (K : Bool → Option X) (b : List Int) (hb : Byt b) (hk : 5000 + (rdT (b.length + 1) b (-1) 64).2.2.sz < k) : f4 k K (by8 b) = K true := by
  unfold f4 f4_A f4_T
  refine (alive_eq _ (by omega)).trans ?_
  refine (bifF rfl).trans ?_
  by_cases h : b.length > 4000
  · exact bifT (decide_eq_true (by rw [by8_length]; omega))
  refine (bifF (decide_eq_false (by rw [by8_length]; omega))).trans ?_
  refine (readT_eq _ b hb (by omega) (by omega)).trans ?_
  have hr := rd_rin (b.length + 1) b (-1) 64 hb (by omega)
  have hq := fun (K : Nat × Int × List CV → Option X) => refRead_eq (k := k) K b hb (by omega) (by omega)
  dsimp only at hq ⊢
  generalize rdT (b.length + 1) b (-1) 64 = r at hr hq hk ⊢
  obtain ⟨e, n, ts⟩ := r
  dsimp only at hr hq hk ⊢
  cases he : e != 0 with
  | true =>
    refine (bifT rfl).trans ?_
    refine (hq _).trans ?_
    rw [he]
    refine (bifT rfl).trans ?_
    refine (bifT (beq_self_eq_true _)).trans ?_
    exact refSame_eq (k := k) _ .nil .nil (by simp [TS.sz]; omega) (by simp [TS.len]) trivial trivial
  | false =>
    have he' : e = 0 := by simpa using he
    obtain ⟨r1, r2, r3, r4, r5, r6, r7⟩ := hr he'
    refine (bifF rfl).trans ?_
    refine (hq _).trans ?_
    rw [he]
    refine (bifF rfl).trans ?_
    refine (bifT (beq_self_eq_true _)).trans ?_
    dsimp only
    rw [tk_row]
    refine (refSame_eq (k := k) _ ts ts (by omega) (by omega) r6 r5).trans ?_
    rw [decide_eq_true rfl]
theorem wr_again (ts : TS) (h : rightB ts = true) (hw : (wr ts).1 = 0) : rdT ((wr ts).2.length + 1) (wr ts).2 (-1) 64 = (0, (64 : Int) - ts.cnt, ts) := by
  have := rightB_spec h
  exact rd_wr ts (-1) 64 _ this.2 hw (by omega) (Nat.lt_succ_self _)
theorem readT_wr {k : Nat} (K : Nat × Int × List CV → Option X) (ts : TS) (h : rightB ts = true) (hw : (wr ts).1 = 0) (hf : ts.fit) (hk : 5000000 < k) : f16 k K (by8 (wr ts).2) = K (ts.len, 0, ts.row) := by
  have hl := wrT_len ts
  unfold wrT at hl
  rw [if_pos h] at hl
  refine (readT_eq K (wr ts).2 (wr_byt ts (-1) (rightB_spec h).2 hf hw) (by omega) (by omega)).trans ?_
  dsimp only
  rw [wr_again ts h hw]
  rfl
theorem wrT_ok {ts : TS} (h : (wrT ts).1 = 0) : rightB ts = true ∧ (wr ts).1 = 0 ∧ wrT ts = wr ts := by
  unfold wrT at h ⊢
  split at h
  · next q => exact ⟨q, h, by rw [if_pos q]⟩
  · cases h
theorem back_j {k : Nat} (K : Bool → Option X) (b : List Int) (hb : Byt b) (hl : b.length ≤ 4000) (hk : 30000000 + (rdT (b.length + 1) b (-1) 64).2.2.sz < k) :
    f6_J1 (fun X => @f9 X k) (fun X => @f10 X k) (fun X => @f11 X k) (fun X => @f16 X k) (fun X => @f18 X k) (fun X => @f13 X k) k K (by8 b) () = K true := by
  unfold f6_J1
  refine (readT_eq _ b hb (by omega) (by omega)).trans ?_
  have hr := rd_rin (b.length + 1) b (-1) 64 hb (by omega)
  have hn := (rdT_left (b.length + 1) b (-1) 64 (by omega)).2 (by omega)
  dsimp only
  generalize rdT (b.length + 1) b (-1) 64 = r at hr hk hn ⊢
  obtain ⟨e, n, ts⟩ := r
  dsimp only at hr hk hn ⊢
  cases he : e != 0 with
  | true =>
    refine (bifT rfl).trans ?_
    exact bifT rfl
  | false =>
    have he' : e = 0 := by simpa using he
    obtain ⟨r1, r2, r3, r4, r5, r6, r7⟩ := hr he'
    refine (bifF rfl).trans ?_
    refine (bifF rfl).trans ?_
    rw [tk_row]
    have hright : rightB ts = true := by
      unfold rightB
      have := hn.2 he'
      rw [r1, decide_eq_true (by omega)]; rfl
    have hwr : wrT ts = wr ts := by unfold wrT; rw [if_pos hright]
    refine (writeT_eq _ ts (by omega) (by omega) r6).trans ?_
    rw [hwr]
    dsimp only
    rw [d8]
    refine (readT_wr _ ts hright r3 r5 (by omega)).trans ?_
    refine (rightT_eq _ ts (by omega) (by omega) r6).trans ?_
    rw [rgt_right, hright]
    refine (bifT rfl).trans ?_
    refine (bifT (beq_iff_eq.2 r3)).trans ?_
    refine (bifT rfl).trans ?_
    refine (bifT (decide_eq_true (by rw [by8_length]; omega))).trans ?_
    dsimp only
    rw [tk_row]
    refine (refSame_eq (k := k) _ ts ts (by omega) (by omega) r6 r5).trans ?_
    rw [decide_eq_true rfl]
theorem back_eq {k : Nat} (K : Bool → Option X) (ts : TS) (b : List Int) (hb : Byt b) (hl : ts.len ≤ 9223372036854775807) (hf : ts.wf) (hk : 30000000 + ts.sz + (rdT (b.length + 1) b (-1) 64).2.2.sz < k) : f6 k K ts.row (by8 b) = K true := by
  have ho := hf.ok
  unfold f6 f6_A f6_T
  refine (alive_eq _ (by omega)).trans ?_
  refine (bifF rfl).trans ?_
  refine (few_eq _ ts (by omega) hl ho).trans ?_
  cases h : few ts with
  | false => exact bifT rfl
  | true =>
    refine (bifF rfl).trans ?_
    by_cases h4 : b.length > 4000
    · exact bifT (decide_eq_true (by rw [by8_length]; omega))
    refine (bifF (decide_eq_false (by rw [by8_length]; omega))).trans ?_
    refine (writeT_eq _ ts (by omega) hl ho).trans ?_
    dsimp only
    by_cases he : (wrT ts).1 = 0
    · refine (bifT (beq_iff_eq.2 he)).trans ?_
      obtain ⟨w1, w2, w3⟩ := wrT_ok he
      have hfit := wr_fit ts (-1) (rightB_spec w1).2 hf w2
      rw [w3, d8]
      refine (readT_wr _ ts w1 w2 hfit (by omega)).trans ?_
      refine (bifF rfl).trans ?_
      dsimp only
      rw [tk_row]
      refine (refSame_eq (k := k) _ ts ts (by omega) hl ho hfit).trans ?_
      rw [decide_eq_true rfl]
      refine (bifF rfl).trans ?_
      exact back_j K b hb (by omega) (by omega)
    · refine (bifF (beq_eq_false_iff_ne.2 he)).trans ?_
      exact back_j K b hb (by omega) (by omega)
/-- One list behind another. -/
def TS.app : TS → TS → TS
  | .nil, y => y
  | .cons k i v ks r, y => .cons k i v ks (r.app y)
theorem app_row : ∀ (x y : TS), (x.app y).row = x.row ++ y.row
  | .nil, y => rfl
  | .cons k i v ks r, y => by simp [TS.app, TS.row, app_row r y]
theorem app_len : ∀ (x y : TS), (x.app y).len = x.len + y.len
  | .nil, y => by simp [TS.app, TS.len]
  | .cons k i v ks r, y => by simp only [TS.app, TS.len, app_len r y]; omega
theorem app_sz : ∀ (x y : TS), (x.app y).sz + 1 = x.sz + y.sz
  | .nil, y => by simp only [TS.app, TS.sz]; omega
  | .cons k i v ks r, y => by have := app_sz r y; simp only [TS.app, TS.sz]; omega
theorem app_cnt : ∀ (x y : TS), (x.app y).cnt = x.cnt + y.cnt
  | .nil, y => by simp [TS.app, TS.cnt]
  | .cons k i v ks r, y => by simp only [TS.app, TS.cnt, app_cnt r y]; omega
theorem app_ok : ∀ {x y : TS}, x.ok → y.ok → (x.app y).ok
  | .nil, y, _, h => h
  | .cons k i v ks r, y, h, h2 => ⟨h.1, h.2.1, h.2.2.1, app_ok h.2.2.2 h2⟩
theorem app_fit : ∀ {x y : TS}, x.fit → y.fit → (x.app y).fit
  | .nil, y, _, h => h
  | .cons k i v ks r, y, h, h2 => ⟨h.1, h.2.1, h.2.2.1, app_fit h.2.2.2 h2⟩
theorem app_rin : ∀ (x y : TS) (p : Int), rin (x.app y) p = (rin x p && rin y p)
  | .nil, y, p => by simp [TS.app, rin]
  | .cons k i v ks r, y, p => by
    have := app_rin r y p
    generalize rin y p = z at this ⊢
    unfold TS.app
    unfold rin
    rw [this]
    split
    · rfl
    · split
      · split <;> rfl
      · split
        · rfl
        · rw [Bool.and_assoc]
theorem app_wr : ∀ (x y : TS), (wr x).1 = 0 → (wr y).1 = 0 → wr (x.app y) = (0, (wr x).2 ++ (wr y).2)
  | .nil, y, _, h => by
    unfold TS.app
    rw [show wr y = ((wr y).1, (wr y).2) from rfl, h]; rfl
  | .cons k i v ks r, y, h, h2 => by
    obtain ⟨w1, w2, w3, w4⟩ := wr_cons k i v ks r h
    have ih := app_wr r y w3 h2
    unfold TS.app
    rw [wr_mk k i v ks (r.app y) w1 w2 (by rw [ih]), ih, w4]
    simp only [List.append_assoc]
theorem len_cnt : ∀ (x : TS), x.len ≤ x.cnt
  | .nil => Nat.le_refl _
  | .cons k i v ks r => by have := len_cnt r; simp only [TS.len, TS.cnt]; omega
theorem joins_eq {k : Nat} (K : Bool → Option X) (a b : TS) (la : a.len ≤ 9223372036854775807) (fa : a.wf) (lb : b.len ≤ 9223372036854775807) (fb : b.wf) (hk : 30000000 + a.sz + b.sz < k) : f8 k K a.row b.row = K true := by
  have oa := fa.ok
  have ob := fb.ok
  unfold f8 f8_A f8_T
  refine (alive_eq _ (by omega)).trans ?_
  refine (bifF rfl).trans ?_
  refine (few_eq _ a (by omega) la oa).trans ?_
  cases few a with
  | false => exact bifT rfl
  | true =>
  refine (bifF rfl).trans ?_
  refine (few_eq _ b (by omega) lb ob).trans ?_
  cases few b with
  | false => exact bifT rfl
  | true =>
  refine (bifF rfl).trans ?_
  refine (writeT_eq _ a (by omega) la oa).trans ?_
  refine (writeT_eq _ b (by omega) lb ob).trans ?_
  dsimp only
  by_cases ea : (wrT a).1 = 0
  · refine (bifF (by rw [ea]; rfl)).trans ?_
    by_cases eb : (wrT b).1 = 0
    · refine (bifF (by rw [eb]; rfl)).trans ?_
      obtain ⟨a1, a2, a3⟩ := wrT_ok ea
      obtain ⟨b1, b2, b3⟩ := wrT_ok eb
      have ha := rightB_spec a1
      have hb := rightB_spec b1
      have fita := wr_fit a (-1) ha.2 fa a2
      have fitb := wr_fit b (-1) hb.2 fb b2
      have ca := len_cnt a
      have cb := len_cnt b
      rw [row_len, row_len]
      refine (grdT (decide_eq_true (by omega))).trans ?_
      refine (grdT (decide_eq_true (by omega))).trans ?_
      have hrow : List.take (0 + a.len + b.len) (List.drop 0 (List.take (0 + a.len) (List.take 0 [] ++ a.row) ++ b.row)) = (a.app b).row := by
        rw [app_row, List.drop_zero, List.take_nil, List.nil_append, Nat.zero_add, ← row_len a, List.take_length, ← row_len b, ← List.length_append, List.take_length]
      rw [hrow]
      have hal := app_len a b
      have hasz := app_sz a b
      have hac := app_cnt a b
      have oab := app_ok oa ob
      have fab := app_fit fita fitb
      have wab := app_wr a b a2 b2
      refine (writeT_eq _ (a.app b) (by omega) (by omega) oab).trans ?_
      refine (count_eq _ (a.app b) 64 (by omega) (by omega) oab).trans ?_
      rw [ctW_min (a.app b) 64 0 (by omega) (by omega) (by omega)]
      by_cases c : (a.app b).cnt > 64
      · refine (bifT (decide_eq_true (by omega))).trans ?_
        have : wrT (a.app b) = (1, []) := by
          unfold wrT rightB
          rw [decide_eq_false (by omega)]; rfl
        rw [this]
        rfl
      · refine (bifF (decide_eq_false (by omega))).trans ?_
        have hright : rightB (a.app b) = true := by
          unfold rightB
          rw [app_rin, ha.2, hb.2, decide_eq_true (by omega)]; rfl
        have hwr : wrT (a.app b) = (0, (wr a).2 ++ (wr b).2) := by unfold wrT; rw [if_pos hright, wab]
        rw [hwr, a3, b3]
        have lna := wrT_len a
        have lnb := wrT_len b
        rw [a3] at lna
        rw [b3] at lnb
        dsimp only
        rw [d8, d8, d8]
        refine (copy_eq _ (wr a).2 (by omega) (by omega)).trans ?_
        dsimp only
        refine (grdT (decide_eq_true (by rw [by8_length]; omega))).trans ?_
        have hb8 : List.take ((wr a).2.length + (by8 (wr b).2).length) (List.drop 0 (List.take (wr a).2.length (by8 (wr a).2) ++ by8 (wr b).2)) = by8 ((wr a).2 ++ (wr b).2) := by
          rw [List.drop_zero, t8', ← by8_append, by8_length, ← List.length_append, t8']
        rw [hb8]
        have hrd := fun (K : Nat × Int × List CV → Option X) => readT_wr (k := k) K (a.app b) hright (by rw [wab]) fab (by omega)
        rw [wab] at hrd
        refine (hrd _).trans ?_
        refine (bifT rfl).trans ?_
        refine (bifT rfl).trans ?_
        refine (copy_eq _ (wr a).2 (by omega) (by omega)).trans ?_
        dsimp only
        refine (grdT (decide_eq_true (by rw [by8_length]; omega))).trans ?_
        rw [hb8]
        refine (same_eq _ _ _ (by rw [List.length_append]; omega) (by rw [List.length_append]; omega)).trans ?_
        refine (bifT (decide_eq_true rfl)).trans ?_
        rw [tk_row]
        refine (tSame_eq _ (a.app b) (a.app b) (by omega) (by omega) oab fab fab).trans ?_
        rw [decide_eq_true rfl]
    · exact bifT (bne_iff_ne.2 eb)
  · exact bifT (bne_iff_ne.2 ea)
theorem law_reads (x0 : List Int) (w0 : x0.length ≤ maxLen ∧ ∀ y ∈ x0, (Lit.int .u8 y).wf = true) : ∃ k, ∀ K : Bool → Option Out, f4 k K (x0.map fun y => .int .u8 y) = K true :=
  ⟨5000 + (rdT (x0.length + 1) x0 (-1) 64).2.2.sz + 1, fun K => reads_eq K x0 (byt_wf w0.2) (by omega)⟩
theorem law_back (x0 : TS) (w0 : x0.len ≤ maxLen ∧ x0.wf) (x1 : List Int) (w1 : x1.length ≤ maxLen ∧ ∀ y ∈ x1, (Lit.int .u8 y).wf = true) : ∃ k, ∀ K : Bool → Option Out, f6 k K x0.row (x1.map fun y => .int .u8 y) = K true :=
  ⟨30000000 + x0.sz + (rdT (x1.length + 1) x1 (-1) 64).2.2.sz + 1, fun K => back_eq K x0 x1 (byt_wf w1.2) w0.1 w0.2 (by omega)⟩
theorem law_joins (x0 : TS) (w0 : x0.len ≤ maxLen ∧ x0.wf) (x1 : TS) (w1 : x1.len ≤ maxLen ∧ x1.wf) : ∃ k, ∀ K : Bool → Option Out, f8 k K x0.row x1.row = K true :=
  ⟨30000000 + x0.sz + x1.sz + 1, fun K => joins_eq K x0 x1 w0.1 w0.2 w1.1 w1.2 (by omega)⟩
end
end Go.Proofs.YtkkknhfbcflkfaaD
