/- Messages that are the same; who asks, who answers: in plain words. -/
import Derived.Test.YtlgdoglffddjfaaLMsgR
import Derived.Test.YtlgdoglffddjfaaLEqual
namespace Go.Proofs.YtlgdoglffddjfaaD
open Go Go.Proofs.YtlgdoglffddjfaaS Go.Proofs
set_option linter.unusedVariables false
set_option linter.unusedSimpArgs false
section
variable {X : Type}
noncomputable instance : DecidableEq Ms := fun a b => Classical.propDecidable _
def Sm (m : Ms) : Prop := m.tok.length ≤ 100000 ∧ m.body.length ≤ 100000 ∧ m.opts.length ≤ 100000 ∧ ∀ o ∈ m.opts, o.2.length ≤ 100000
def BytO (l : List Op) : Prop := ∀ o ∈ l, Byt o.2
def BytM (m : Ms) : Prop := Byt m.tok ∧ Byt m.body ∧ BytO m.opts
theorem refSameO_eq {k : Nat} (K : Bool → Option X) (a b : List Op) (hk : 1000000 < k) (ha : a.length ≤ 100000) (hv : ∀ o ∈ a, o.2.length ≤ 100000) : f29 k K (ops a) (ops b) = K (decide (a = b)) := by
  unfold f29 f29_A f29_T
  rw [ops_length, ops_length]
  by_cases hl : a.length = b.length
  · refine (bifF (by rw [hl]; exact bne_self_eq_false _)).trans ?_
    refine iterV_spec (T := f29_L1 (fun X => @f13 X k) k K) (fun i => (ops a, ops b, (i : Int))) (fun i => K (decide (a.drop i = b.drop i))) a.length (fun i rec h hr => ?_) (fun rec => ?_) k 0 (Nat.zero_le _) (by omega)
    · have hb : i < b.length := by omega
      unfold f29_L1 f29_T1
      dsimp only
      refine (bifT (decide_eq_true (by rw [ops_length]; omega))).trans ?_
      rw [Int.toNat_natCast]
      refine (grdT (dec0 _)).trans ?_
      refine (bAt (ops_nth a i h) _).trans ?_
      refine (bAt (opv0 _) _).trans ?_
      refine (grdT rfl).trans ?_
      refine (grdT (dec0 _)).trans ?_
      refine (bAt (ops_nth b i hb) _).trans ?_
      refine (bAt (opv0 _) _).trans ?_
      refine (grdT rfl).trans ?_
      rw [show CV.toI (CV.int .i64 a[i].1) = a[i].1 from rfl, show CV.toI (CV.int .i64 b[i].1) = b[i].1 from rfl]
      rw [List.drop_eq_getElem_cons h, List.drop_eq_getElem_cons hb]
      by_cases h1 : a[i].1 = b[i].1
      · refine (bifF (by rw [h1]; exact bne_self_eq_false _)).trans ?_
        refine (grdT (dec0 _)).trans ?_
        refine (bAt (ops_nth a i h) _).trans ?_
        refine (bAt (opv1 _) _).trans ?_
        refine (grdT rfl).trans ?_
        refine (grdT (dec0 _)).trans ?_
        refine (bAt (ops_nth b i hb) _).trans ?_
        refine (bAt (opv1 _) _).trans ?_
        refine (grdT rfl).trans ?_
        have := hv _ (List.getElem_mem h)
        refine (same_eq _ a[i].2 b[i].2 (by omega) (by omega)).trans ?_
        by_cases h2 : a[i].2 = b[i].2
        · refine (bifF (by rw [decide_eq_true h2]; rfl)).trans ?_
          rw [wrap64_s (by omega), hr]
          exact congrArg K (decide_eq_decide.2 ⟨fun e => by rw [e, show a[i] = b[i] from Prod.ext h1 h2], fun e => (List.cons.inj e).2⟩)
        · refine (bifT (by rw [decide_eq_false h2]; rfl)).trans ?_
          rw [decide_eq_false fun e => h2 (congrArg Prod.snd (List.cons.inj e).1)]
      · refine (bifT (bne_iff_ne.2 h1)).trans ?_
        rw [decide_eq_false fun e => h1 (congrArg Prod.fst (List.cons.inj e).1)]
    · unfold f29_L1 f29_T1
      dsimp only
      refine (bifF (decide_eq_false (by rw [ops_length]; omega))).trans ?_
      rw [List.drop_length, hl, List.drop_length, decide_eq_true rfl]
  · refine (bifT (bne_iff_ne.2 (by omega))).trans ?_
    rw [decide_eq_false fun e => hl (by rw [e])]
theorem msameL (a b : Ms) (P : Bool → Option X) : (bif a.kind == b.kind then bif a.code == b.code then bif a.id == b.id then bif decide (a.tok = b.tok) then bif decide (a.opts = b.opts) then P (decide (a.body = b.body)) else P false else P false else P false else P false else P false) = P (decide (a = b)) := by
  obtain ⟨a1, a2, a3, a4, a5, a6⟩ := a
  obtain ⟨b1, b2, b3, b4, b5, b6⟩ := b
  dsimp only
  by_cases h1 : a1 = b1
  · refine (bifT (beq_iff_eq.2 h1)).trans ?_
    by_cases h2 : a2 = b2
    · refine (bifT (beq_iff_eq.2 h2)).trans ?_
      by_cases h3 : a3 = b3
      · refine (bifT (beq_iff_eq.2 h3)).trans ?_
        by_cases h4 : a4 = b4
        · refine (bifT (decide_eq_true h4)).trans ?_
          by_cases h5 : a5 = b5
          · refine (bifT (decide_eq_true h5)).trans ?_
            exact congrArg P (decide_eq_decide.2 ⟨fun e => by rw [h1, h2, h3, h4, h5, e], fun e => by cases e; rfl⟩)
          · refine (bifF (decide_eq_false h5)).trans ?_
            rw [decide_eq_false fun e => h5 (by cases e; rfl)]
        · refine (bifF (decide_eq_false h4)).trans ?_
          rw [decide_eq_false fun e => h4 (by cases e; rfl)]
      · refine (bifF (beq_eq_false_iff_ne.2 h3)).trans ?_
        rw [decide_eq_false fun e => h3 (by cases e; rfl)]
    · refine (bifF (beq_eq_false_iff_ne.2 h2)).trans ?_
      rw [decide_eq_false fun e => h2 (by cases e; rfl)]
  · refine (bifF (beq_eq_false_iff_ne.2 h1)).trans ?_
    rw [decide_eq_false fun e => h1 (by cases e; rfl)]
theorem refSame_eq {k : Nat} (K : Bool → Option X) (a b : Ms) (hk : 1000000 < k) (ha : Sm a) : f17 k K a.cv b.cv = K (decide (a = b)) := by
  have e : f17 k K a.cv b.cv = (bif a.kind == b.kind then bif a.code == b.code then bif a.id == b.id then f13 k (fun u1 => bif u1 then f29 k (fun u2 => bif u2 then f13 k K (by8 a.body) (by8 b.body) else K false) (ops a.opts) (ops b.opts) else K false) (by8 a.tok) (by8 b.tok) else K false else K false else K false) := by kernel_rfl
  rw [e, same_eq _ _ _ (by have := ha.1; omega) (by have := ha.1; omega), refSameO_eq _ _ _ hk ha.2.2.1 ha.2.2.2, same_eq _ _ _ (by have := ha.2.1; omega) (by have := ha.2.1; omega)]
  exact msameL a b K
theorem sameO_eq {k : Nat} (K : Bool → Option X) (a b : List Op) (hk : 1000000 < k) (ha : a.length ≤ 100000) (ba : BytO a) (bb : BytO b) : f46 k K (ops a) (ops b) = K (decide (a = b)) := by
  unfold f46 f46_A f46_T
  rw [ops_length, ops_length]
  by_cases hl : a.length = b.length
  · refine (bifF (by rw [hl]; exact bne_self_eq_false _)).trans ?_
    refine iterV_spec (T := f46_L1 (fun X => @f44 X k) k K) (fun i => (ops b, ops a, (a.length : Int), (i : Int))) (fun i => K (decide (a.drop i = b.drop i))) a.length (fun i rec h hr => ?_) (fun rec => ?_) k 0 (Nat.zero_le _) (by omega)
    · have hb : i < b.length := by omega
      unfold f46_L1 f46_T1
      dsimp only
      refine (bifT (decide_eq_true (by omega))).trans ?_
      rw [Int.toNat_natCast]
      refine (grdT (dec0 _)).trans ?_
      refine (bAt (ops_nth a i h) _).trans ?_
      refine (grdT rfl).trans ?_
      refine (grdT rfl).trans ?_
      refine (grdT rfl).trans ?_
      refine (grdT (dec0 _)).trans ?_
      refine (bAt (ops_nth b i hb) _).trans ?_
      refine (grdT rfl).trans ?_
      refine (grdT rfl).trans ?_
      refine (grdT rfl).trans ?_
      have e : ∀ K' : Bool → Option X, f44 k K' (opv a[i]) (opv b[i]) = (bif a[i].1 == b[i].1 then f45 k K' (by8 a[i].2) (by8 b[i].2) else K' false) := fun K' => by
        generalize a[i] = x
        generalize b[i] = y
        kernel_rfl
      refine (e _).trans ?_
      rw [bytesEqual_eq _ _ _ (ba _ (List.getElem_mem h)) (bb _ (List.getElem_mem hb))]
      rw [List.drop_eq_getElem_cons h, List.drop_eq_getElem_cons hb]
      by_cases h1 : a[i].1 = b[i].1
      · refine (bifT (beq_iff_eq.2 h1)).trans ?_
        by_cases h2 : a[i].2 = b[i].2
        · refine (bifF (by rw [decide_eq_true h2]; rfl)).trans ?_
          rw [wrap64_s (by omega), hr]
          exact congrArg K (decide_eq_decide.2 ⟨fun e => by rw [e, show a[i] = b[i] from Prod.ext h1 h2], fun e => (List.cons.inj e).2⟩)
        · refine (bifT (by rw [decide_eq_false h2]; rfl)).trans ?_
          rw [decide_eq_false fun e => h2 (congrArg Prod.snd (List.cons.inj e).1)]
      · refine (bifF (beq_eq_false_iff_ne.2 h1)).trans ?_
        refine (bifT rfl).trans ?_
        rw [decide_eq_false fun e => h1 (congrArg Prod.fst (List.cons.inj e).1)]
    · unfold f46_L1 f46_T1
      dsimp only
      refine (bifF (decide_eq_false (by omega))).trans ?_
      rw [List.drop_length, hl, List.drop_length, decide_eq_true rfl]
  · refine (bifT (bne_iff_ne.2 (by omega))).trans ?_
    rw [decide_eq_false fun e => hl (by rw [e])]
theorem msgSame_eq {k : Nat} (K : Bool → Option X) (a b : Ms) (hk : 1000000 < k) (ha : a.opts.length ≤ 100000) (ba : BytM a) (bb : BytM b) : f27 k K a.cv b.cv = K (decide (a = b)) := by
  have e : f27 k K a.cv b.cv = (bif a.kind == b.kind then bif a.code == b.code then bif a.id == b.id then f45 k (fun u1 => bif u1 then f46 k (fun u2 => bif u2 then f45 k K (by8 a.body) (by8 b.body) else K false) (ops a.opts) (ops b.opts) else K false) (by8 a.tok) (by8 b.tok) else K false else K false else K false) := by kernel_rfl
  rw [e, bytesEqual_eq _ _ _ ba.1 bb.1, sameO_eq _ _ _ hk ha ba.2.2 bb.2.2, bytesEqual_eq _ _ _ ba.2.1 bb.2.1]
  exact msameL a b K
def asks (c : Int) : Bool := decide (1 ≤ c ∧ c ≤ 31)
def answ (c : Int) : Bool := decide (64 ≤ c ∧ c ≤ 95 ∨ 128 ≤ c ∧ c ≤ 191)
theorem request_eq {k : Nat} (K : Bool → Option X) (m : Ms) : f23 k K m.cv = K (asks m.code) := by
  have e : f23 k K m.cv = (bif Int.fdiv m.code 32 == 0 then K (m.code != 0) else K false) := by kernel_rfl
  rw [e, fdiv_eq _ (by decide)]
  unfold asks
  by_cases h : m.code / 32 = 0
  · refine (bifT (beq_iff_eq.2 h)).trans (congrArg K ?_)
    by_cases h0 : m.code = 0
    · rw [h0]; rfl
    · rw [bne_iff_ne.2 h0, decide_eq_true (by omega)]
  · refine (bifF (beq_eq_false_iff_ne.2 h)).trans ?_
    rw [decide_eq_false (by omega)]
theorem answer_eq {k : Nat} (K : Bool → Option X) (m : Ms) : f25 k K m.cv = K (answ m.code) := by
  have e : f25 k K m.cv = (bif Int.fdiv m.code 32 == 2 then K true else bif Int.fdiv m.code 32 == 4 then K true else K (Int.fdiv m.code 32 == 5)) := by kernel_rfl
  rw [e, fdiv_eq _ (by decide)]
  unfold answ
  by_cases h : m.code / 32 = 2
  · refine (bifT (beq_iff_eq.2 h)).trans ?_
    rw [decide_eq_true (by omega)]
  · refine (bifF (beq_eq_false_iff_ne.2 h)).trans ?_
    by_cases h4 : m.code / 32 = 4
    · refine (bifT (beq_iff_eq.2 h4)).trans ?_
      rw [decide_eq_true (by omega)]
    · refine (bifF (beq_eq_false_iff_ne.2 h4)).trans (congrArg K ?_)
      by_cases h5 : m.code / 32 = 5
      · rw [beq_iff_eq.2 h5, decide_eq_true (by omega)]
      · rw [beq_eq_false_iff_ne.2 h5, decide_eq_false (by omega)]
/-- What is read is small, and bytes. -/
theorem rd_vals {b : List Int} (hb : Byt b) (N : Nat) (hN : b.length ≤ N) : ∀ (kk : Nat) (last : Int) (acc : List Op) (a : Nat), (∀ o ∈ acc, o.2.length ≤ N ∧ Byt o.2) → ∀ o ∈ (rd kk b last acc a).2.2, o.2.length ≤ N ∧ Byt o.2
  | 0, _, _, _, _ => fun o ho => by simp [rd] at ho
  | kk + 1, last, acc, a, h => by
    unfold rd
    split
    · split
      · exact fun o ho => by simp at ho
      · next num q n he =>
        refine rd_vals hb N hN kk num _ _ fun o ho => ?_
        rcases List.mem_append.1 ho with ho | ho
        · exact h o ho
        · rw [List.mem_singleton.1 ho]
          refine ⟨?_, (hb.drop q).take _⟩
          show (List.take n.toNat (List.drop q b)).length ≤ N
          rw [List.length_take, List.length_drop]; omega
    · exact h
theorem ms0_sm : Sm ms0 := ⟨by simp [ms0], by simp [ms0], by simp [ms0], fun o ho => by simp [ms0] at ho⟩
theorem ms0_byt : BytM ms0 := ⟨Byt.nil, Byt.nil, fun o ho => by simp [ms0] at ho⟩
theorem msgR_sm {k : Nat} {b : List Int} (hb : Byt b) (hl : b.length ≤ 100000) (hk : 1000000 < k) : Sm (msgR k b).2 ∧ BytM (msgR k b).2 := by
  unfold msgR
  split
  · exact ⟨ms0_sm, ms0_byt⟩
  split
  · exact ⟨ms0_sm, ms0_byt⟩
  split
  · exact ⟨ms0_sm, ms0_byt⟩
  split
  · exact ⟨ms0_sm, ms0_byt⟩
  split
  · exact ⟨ms0_sm, ms0_byt⟩
  next he _ _ =>
  have he := Classical.byContradiction he
  have bd := rd_bnd (hb.drop (4 + tk b)) k 0 [] 0 (Nat.zero_le _) (by rw [List.length_drop]; omega) (Int.le_refl _) (by simp) he
  have vs := rd_vals (hb.drop (4 + tk b)) 100000 (by rw [List.length_drop]; omega) k 0 [] 0 (fun o ho => by simp at ho)
  refine ⟨⟨?_, ?_, ?_, fun o ho => (vs o ho).1⟩, ⟨(hb.drop _).take _, ((hb.drop _).drop _).drop _, fun o ho => (vs o ho).2⟩⟩
  · show (List.take _ _).length ≤ _
    rw [List.length_take, List.length_drop]; omega
  · show (List.drop 1 _).length ≤ _
    rw [List.length_drop, List.length_drop, List.length_drop]; omega
  · show (rd k (b.drop (4 + tk b)) 0 [] 0).2.2.length ≤ _
    omega
theorem cvR (m : Ms) : CV.agg [.int .i64 m.kind, .int .i64 m.code, .int .i64 m.id, .slc none (List.take m.tok.length (List.drop 0 (by8 m.tok))), .slc (some 2) (List.take m.opts.length (List.drop 0 (ops m.opts))), .slc none (List.take m.body.length (List.drop 0 (by8 m.body)))] = m.cv := by
  rw [d8, d8, dO]; rfl
end
end Go.Proofs.YtlgdoglffddjfaaD
