/- A request is done once: the law, over all requests. -/
import Derived.Test.YtfllanhepeginaaWa
namespace Go.Proofs.YtfllanhepeginaaD
open Go Go.Proofs.YtfllanhepeginaaS Go.Proofs
set_option linter.unusedVariables false
set_option linter.unusedSimpArgs false
section
variable {X : Type}
abbrev MsX : Type := Int × Int × Int × List Int × List (Int × List Int × Unit) × List Int × Unit
def toMs (x0 : MsX) : Ms := ⟨x0.1, x0.2.1, x0.2.2.1, x0.2.2.2.1, x0.2.2.2.2.1.map fun x => (x.1, x.2.1), x0.2.2.2.2.2.1⟩
def WfX (x0 : MsX) : Prop := (Lit.int .i64 x0.1).wf = true ∧ (Lit.int .i64 x0.2.1).wf = true ∧ (Lit.int .i64 x0.2.2.1).wf = true ∧ (x0.2.2.2.1.length ≤ maxLen ∧ ∀ y ∈ x0.2.2.2.1, (Lit.int .u8 y).wf = true) ∧ (x0.2.2.2.2.1.length ≤ maxLen ∧ ∀ x ∈ x0.2.2.2.2.1, (Lit.int .i64 x.1).wf = true ∧ (x.2.1.length ≤ maxLen ∧ ∀ y ∈ x.2.1, (Lit.int .u8 y).wf = true) ∧ True) ∧ (x0.2.2.2.2.2.1.length ≤ maxLen ∧ ∀ y ∈ x0.2.2.2.2.2.1, (Lit.int .u8 y).wf = true) ∧ True
theorem toMs_cv (x0 : MsX) : (toMs x0).cv = .agg [.int .i64 x0.1, .int .i64 x0.2.1, .int .i64 x0.2.2.1, .slc none (x0.2.2.2.1.map fun y => .int .u8 y), .slc (some 2) (x0.2.2.2.2.1.map fun x => .agg [.int .i64 x.1, .slc none (x.2.1.map fun y => .int .u8 y)]), .slc none (x0.2.2.2.2.2.1.map fun y => .int .u8 y)] := by
  unfold toMs Ms.cv ops opv by8
  rw [List.map_map]; rfl
theorem toMs_byt {x0 : MsX} (w : WfX x0) : BytM (toMs x0) := by
  obtain ⟨_, _, _, w4, w5, w6, _⟩ := w
  refine ⟨wfByt w4.2, wfByt w6.2, fun o ho => ?_⟩
  obtain ⟨x, hx, rfl⟩ := List.mem_map.1 ho
  exact wfByt (w5.2 x hx).2.1.2
def mrow (L : List MsX) : List CV := L.map fun x => (toMs x).cv
def mAt (x : Ms) (i : Nat) : Ms := ⟨0, x.code, i, x.tok, x.opts, x.body⟩
theorem nw0 (F W : Int) : nw F W 0 = F := by unfold nw; simp only [q2]; omega
theorem Y0 {F W : Int} (h : FW F W) (i : Int) (d : List Int) : Y i d F W 0 = ⟨7, i, d, Exc.mx (F + W), W, 4⟩ := by
  obtain ⟨h1, h2, h3, h4⟩ := h
  unfold Y Exc.mx
  rw [if_neg (by omega)]
  simp only [q2, p2, Exc.Ex.mk.injEq, true_and, and_true]
  omega
theorem outer {k : Nat} (K : Bool → Option X) (lv : List Int) (rand : Int) (L : List MsX) (hL : L.length ≤ 8) (hwf : ∀ x ∈ L, WfX x) (hk : 3000000 < k) :
    ∀ (j i kk : Nat) (now done asked tn : Int) (ks : List Cch.Kp), i + j = L.length → j < kk → Btw i now done asked ks tn →
      iterV (f3_L1 (fun X => @f4 X k) (fun X => @f5 X k) (fun X => @f6 X k) (fun X => @f7 X k) (fun X => @f8 X k) (fun X => @f9 X k) (fun X => @f10 X k) (fun X => @f11 X k) (fun X => @f12 X k) (fun X => @f13 X k) (fun X => @f14 X k) (fun X => @f15 X k) (fun X => @f16 X k) (fun X => @f17 X k) (fun X => @f18 X k) (fun X => @f19 X k) k K) kk (lv.map (CV.int .i64), rand, now, done, asked, mrow L, (L.length : Int), (i : Int), ks.length, Cch.row ks, 0, tn, Exc.row []) = K true
  | j, i, 0, now, done, asked, tn, ks, h, hj, ho => absurd hj (Nat.not_lt_zero _)
  | 0, i, kk + 1, now, done, asked, tn, ks, h, hj, ho => by
    refine (iterV_1 _ _ _).trans ?_
    generalize iterV (f3_L1 (fun X => @f4 X k) (fun X => @f5 X k) (fun X => @f6 X k) (fun X => @f7 X k) (fun X => @f8 X k) (fun X => @f9 X k) (fun X => @f10 X k) (fun X => @f11 X k) (fun X => @f12 X k) (fun X => @f13 X k) (fun X => @f14 X k) (fun X => @f15 X k) (fun X => @f16 X k) (fun X => @f17 X k) (fun X => @f18 X k) (fun X => @f19 X k) k K) kk = rec1
    unfold f3_L1
    generalize iterV (f3_L2 (fun X => @f4 X k) (fun X => @f5 X k) (fun X => @f6 X k) (fun X => @f7 X k) (fun X => @f8 X k) (fun X => @f9 X k) (fun X => @f10 X k) (fun X => @f11 X k) (fun X => @f12 X k) (fun X => @f13 X k) (fun X => @f14 X k) (fun X => @f15 X k) (fun X => @f16 X k) (fun X => @f17 X k) (fun X => @f18 X k) (fun X => @f19 X k) k K rec1) k = lp
    unfold f3_T1
    dsimp only
    refine (bifF (decide_eq_false (by omega))).trans ?_
    refine (bifT (decide_eq_true ho.d0)).trans ?_
    exact Exc.len_eq (k := k) (fun u226 => K (u226.1 == 0)) [] tn
  | j + 1, i, kk + 1, now, done, asked, tn, ks, h, hj, ho => by
    have hi : i < L.length := by omega
    have ih := fun now done asked tn ks h3 => outer (k := k) K lv rand L hL hwf hk j (i + 1) kk now done asked tn ks (by omega) (by omega) h3
    refine (iterV_1 _ _ _).trans ?_
    generalize iterV (f3_L1 (fun X => @f4 X k) (fun X => @f5 X k) (fun X => @f6 X k) (fun X => @f7 X k) (fun X => @f8 X k) (fun X => @f9 X k) (fun X => @f10 X k) (fun X => @f11 X k) (fun X => @f12 X k) (fun X => @f13 X k) (fun X => @f14 X k) (fun X => @f15 X k) (fun X => @f16 X k) (fun X => @f17 X k) (fun X => @f18 X k) (fun X => @f19 X k) k K) kk = rec1 at ih ⊢
    have hin := fun (F W : Int) (n : Nat) (m : Ms) (hF : FW F W) hn hw hm hmi hF2 ha hrec => inner (k := k) K rec1 (lv.map (CV.int .i64)) (mrow L) rand (L.length : Int) F W (asked + 1) i n m hF hn (by omega) hk hw hm hmi hF2 ha hrec (n + 1) 0 k done ks [] (by omega) (by omega)
    unfold f3_L1
    generalize iterV (f3_L2 (fun X => @f4 X k) (fun X => @f5 X k) (fun X => @f6 X k) (fun X => @f7 X k) (fun X => @f8 X k) (fun X => @f9 X k) (fun X => @f10 X k) (fun X => @f11 X k) (fun X => @f12 X k) (fun X => @f13 X k) (fun X => @f14 X k) (fun X => @f15 X k) (fun X => @f16 X k) (fun X => @f17 X k) (fun X => @f18 X k) (fun X => @f19 X k) k K rec1) k = lp at hin ⊢
    unfold f3_T1 f3_J4
    dsimp only
    have hx := hwf L[i] (List.getElem_mem hi)
    have hbx := toMs_byt hx
    have hg : (mrow L)[i]? = some (toMs L[i]).cv := by unfold mrow; rw [List.getElem?_map, List.getElem?_eq_getElem hi]; rfl
    generalize toMs L[i] = x at hbx hg
    -- nothing is asked
    have skip : rec1 (lv.map (CV.int .i64), rand, now, done, asked, mrow L, (L.length : Int), ((i + 1 : Nat) : Int), ks.length, Cch.row ks, 0, tn, Exc.row []) = K true := by
      refine ih now done asked tn ks ⟨⟨ho.ks.un, fun y hy => ?_, by have := ho.ks.len; omega⟩, ho.n0, by have := ho.n1; omega, ho.t1, ho.d0, by have := ho.d1; omega, ho.a0⟩
      have := ho.ks.al y hy
      exact ⟨this.1, by omega, this.2.2⟩
    refine (bifT (decide_eq_true (by omega))).trans ?_
    refine (grdT (dec0 _)).trans ?_
    rw [Int.toNat_natCast]
    refine (bAt hg _).trans ?_
    refine (grdT rfl).trans ?_
    refine (grdT rfl).trans ?_
    refine (grdT rfl).trans ?_
    refine (grdT rfl).trans ?_
    refine (grdT rfl).trans ?_
    refine (grdT rfl).trans ?_
    refine (grdT rfl).trans ?_
    rw [wrap64_s (by omega)]
    refine Eq.trans (b := f7 k _ x.cv) rfl ((few_eq _ x (by omega)).trans ?_)
    cases hfew : few x with
    | false => exact bifT rfl
    | true =>
    refine (bifF rfl).trans ?_
    have hfl := few_len hfew
    have hbm : BytM (mAt x i) := hbx
    refine Eq.trans (b := f8 k _ (mAt x i).cv) rfl ((write_eq _ (mAt x i) (by omega) (by show x.opts.length < 1000; omega)).trans ?_)
    unfold Res
    dsimp only
    by_cases hw : (msgW (mAt x i)).1 = 0
    · refine (bifF (by rw [hw]; rfl)).trans ?_
      refine Eq.trans (b := f9 k _ (mAt x i).cv) rfl ((request_eq _ (mAt x i)).trans ?_)
      cases hreq : asks (mAt x i).code with
      | false => exact (bifT rfl).trans skip
      | true =>
      refine (bifF rfl).trans ?_
      rw [d8]
      have hlen := msgW_len (mAt x i)
      have hn1 := ho.n1
      have hn0 := ho.n0
      have hcl : Exc.clk now tn = now := clk_le ho.t1 (by omega)
      have hwt := Exc.wt_bd rand
      have hst := Exc.start_eq (k := k) (fun u121 => bif (u121.1 != 0) then K false else bif decide ((i : Int) < ((lv.map (CV.int .i64)).length : Nat)) then grd (decide (0 ≤ (i : Int))) (Option.bind (lv.map (CV.int .i64))[i]? fun e225 => grd (CV.isI .i64 e225) (lp (lv.map (CV.int .i64), rand, now, done, IntKind.wrap .i64 (asked + 1), (i : Int), by8 (msgW (mAt x i)).2, (if 4 < (if 0 > CV.toI e225 then 0 else CV.toI e225) then 4 else (if 0 > CV.toI e225 then 0 else CV.toI e225)), now, 0, 0, mrow L, (L.length : Int), (i : Int), [], ks.length, Cch.row ks, u121.2.1, u121.2.2.1, u121.2.2.2))) else lp (lv.map (CV.int .i64), rand, now, done, IntKind.wrap .i64 (asked + 1), (i : Int), by8 (msgW (mAt x i)).2, 0, now, 0, 0, mrow L, (L.length : Int), (i : Int), [], ks.length, Cch.row ks, u121.2.1, u121.2.2.1, u121.2.2.2)) [] 7 (i : Int) (msgW (mAt x i)).2 now rand tn (by simp; omega) (by simp) (by omega) (by omega)
      refine Eq.trans ?_ (hst.trans ?_)
      · rfl
      rw [hcl]
      have hF : FW now (Exc.wt rand) := ⟨hn0, by omega, hwt.1, hwt.2⟩
      have hsp : Exc.startP [] 7 (i : Int) (msgW (mAt x i)).2 now rand = (0, [Y i (msgW (mAt x i)).2 now (Exc.wt rand) 0]) := by
        rw [Y0 hF]; rfl
      rw [hsp]
      refine (bifF rfl).trans ?_
      dsimp only
      have hask : IntKind.wrap .i64 (asked + 1) = asked + 1 := by
        have := ho.a0
        have := ho.d0
        have := ho.d1
        exact wrap64 (by omega) (by omega)
      rw [hask]
      have hnone : ks.find? (Cch.is 7 i) = none := by
        rw [List.find?_eq_none]
        intro y hy hp
        have := (Cch.is_iff.1 hp).2
        have := (ho.ks.al y hy).2.1
        omega
      -- the turns
      have go : ∀ n : Nat, n ≤ 4 → lp (lv.map (CV.int .i64), rand, now, done, asked + 1, (i : Int), by8 (msgW (mAt x i)).2, (n : Int), now, 0, 0, mrow L, (L.length : Int), (i : Int), [], ks.length, Cch.row ks, [Y i (msgW (mAt x i)).2 now (Exc.wt rand) 0].length, now, Exc.row [Y i (msgW (mAt x i)).2 now (Exc.wt rand) 0]) = K true := fun n hn => by
        have h5 := hin now (Exc.wt rand) n (mAt x i) hF hn hw hbm rfl hn1 (by have := ho.a0; omega) (fun now' done' tn' ks' hO => ih now' done' (asked + 1) tn' ks' hO)
          (by have := ho.a0; have := ho.d0; omega) (by have := ho.d1; omega) (fun _ => ⟨ho.ks, hnone, by have := ho.d0; omega⟩) (fun h => absurd h (by omega))
        rw [show (0 - 1 : Nat) = 0 from rfl, nw0] at h5
        exact h5
      by_cases hlo : i < lv.length
      · refine (bifT (decide_eq_true (by rw [List.length_map]; omega))).trans ?_
        refine (grdT (dec0 _)).trans ?_
        refine (bAt (c := .int .i64 lv[i]) (by rw [List.getElem?_map, List.getElem?_eq_getElem hlo]; rfl) _).trans ?_
        refine (grdT rfl).trans ?_
        have hv : CV.toI (CV.int .i64 lv[i]) = lv[i] := rfl
        rw [hv]
        generalize lv[i] = z
        obtain ⟨n, hn, hz⟩ : ∃ n : Nat, n ≤ 4 ∧ (if 4 < (if 0 > z then 0 else z) then 4 else (if 0 > z then 0 else z) : Int) = n :=
          ⟨(if 4 < (if 0 > z then 0 else z) then 4 else (if 0 > z then 0 else z) : Int).toNat, by split <;> split at * <;> omega, by split <;> split at * <;> omega⟩
        rw [hz]
        exact go n hn
      · refine (bifF (decide_eq_false (by rw [List.length_map]; omega))).trans ?_
        exact go 0 (by omega)
    · refine (bifT (bne_iff_ne.2 hw)).trans ?_
      exact skip
theorem once_eq {k : Nat} (K : Bool → Option X) (lv : List Int) (rand : Int) (L : List MsX) (hwf : ∀ x ∈ L, WfX x) (hk : 3000000 < k) : f3 k K (mrow L) (lv.map (CV.int .i64)) rand = K true := by
  unfold f3 f3_A
  have ho := fun hL => outer (k := k) K lv rand L hL hwf hk L.length 0 k 0 0 0 0 [] (by omega)
  generalize iterV (f3_L1 (fun X => @f4 X k) (fun X => @f5 X k) (fun X => @f6 X k) (fun X => @f7 X k) (fun X => @f8 X k) (fun X => @f9 X k) (fun X => @f10 X k) (fun X => @f11 X k) (fun X => @f12 X k) (fun X => @f13 X k) (fun X => @f14 X k) (fun X => @f15 X k) (fun X => @f16 X k) (fun X => @f17 X k) (fun X => @f18 X k) (fun X => @f19 X k) k K) k = lp at ho ⊢
  unfold f3_T
  refine (sound_eq _ (by omega)).trans ?_
  refine (bifF rfl).trans ?_
  have hml : (mrow L).length = L.length := List.length_map _
  rw [hml]
  by_cases h1 : L.length > 8
  · exact bifT (decide_eq_true (by omega))
  refine (bifF (decide_eq_false (by omega))).trans ?_
  by_cases h2 : ((lv.map (CV.int .i64)).length : Int) > 20
  · exact bifT (decide_eq_true h2)
  refine (bifF (decide_eq_false h2)).trans ?_
  refine (Cch.new_eq (k := k) _).trans ?_
  refine (Exc.new_eq (k := k) _).trans ?_
  exact ho (by omega) (by omega) ⟨⟨List.Pairwise.nil, fun x hx => by simp at hx, Nat.le_refl _⟩, Int.le_refl _, by omega, Int.le_refl _, Int.le_refl _, by omega, Int.le_refl _⟩
theorem law_once (x0 : List MsX) (w0 : x0.length ≤ maxLen ∧ ∀ x ∈ x0, WfX x) (x1 : List Int) (w1 : x1.length ≤ maxLen ∧ ∀ x ∈ x1, (Lit.int .i64 x).wf = true) (x2 : Int) (w2 : (Lit.int .i64 x2).wf = true) :
    ∃ k, ∀ K : Bool → Option Out, f3 k K (x0.map fun x => .agg [.int .i64 x.1, .int .i64 x.2.1, .int .i64 x.2.2.1, .slc none (x.2.2.2.1.map fun y => .int .u8 y), .slc (some 2) (x.2.2.2.2.1.map fun x => .agg [.int .i64 x.1, .slc none (x.2.1.map fun y => .int .u8 y)]), .slc none (x.2.2.2.2.2.1.map fun y => .int .u8 y)]) (x1.map fun x => .int .i64 x) x2 = K true :=
  ⟨3000001, fun K => by
    have h := once_eq K x1 x2 x0 w0.2 (k := 3000001) (by omega)
    unfold mrow at h
    rw [show (fun x : MsX => (toMs x).cv) = fun x : MsX => CV.agg [.int .i64 x.1, .int .i64 x.2.1, .int .i64 x.2.2.1, .slc none (x.2.2.2.1.map fun y => .int .u8 y), .slc (some 2) (x.2.2.2.2.1.map fun x => .agg [.int .i64 x.1, .slc none (x.2.1.map fun y => .int .u8 y)]), .slc none (x.2.2.2.2.2.1.map fun y => .int .u8 y)] from funext fun x => toMs_cv x] at h
    exact h⟩
end
end Go.Proofs.YtfllanhepeginaaD
