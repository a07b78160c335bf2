/- A watch without conditions is told just when its value changes: the law. -/
import Derived.Test.YthlaobnnhghcfaaPd
import Derived.Test.YthlaobnnhghcfaaPe
namespace Go.Proofs.YthlaobnnhghcfaaD
open Go Go.Proofs.YthlaobnnhghcfaaS Go.Proofs
set_option linter.unusedVariables false
set_option linter.unusedSimpArgs false
section
variable {X : Type}
/-- Is a value short? -/
def Vl.short (v : Vl) : Bool := decide (v.s.size ≤ 300) && decide (v.b.length ≤ 300)
theorem short_eq {k : Nat} (K : Bool → Option X) (v : Vl) : f14 k K v.cv = K v.short := by
  have e : f14 k K v.cv = (bif decide ((Nat.cast v.s.size : Int) ≤ 300) then K (decide ((Nat.cast (by8 v.b).length : Int) ≤ 300)) else K false) := by kernel_rfl
  rw [e, by8_length]
  unfold Vl.short
  rw [show (300 : Int) = ((300 : Nat) : Int) from rfl, decLe, decLe]
  cases decide (v.s.size ≤ 300) <;> rfl
/-- No condition. -/
def c00 : Cd := ⟨0, 0, false, false, 0, 0, 0, false, false, false⟩
/-- The watch of the law. -/
def smW (t : List Int) (l : Vl) (a q : Int) : W := ⟨3, t, [], c00, l, a, q⟩
theorem smW_ok {t : List Int} {l : Vl} {a q : Int} (ht : Byt t) (ht2 : t.length ≤ 8) (hx : l.ok) (ha : 0 ≤ a) (ha2 : a ≤ 1000) (hq : 0 ≤ q) (hq2 : q < 1000) : (smW t l a q).ok :=
  ⟨ht, by simp only [smW]; omega, by simp [smW], hx, ha, by simp only [smW]; omega, hq, by simp only [smW]; omega⟩
abbrev MSt := (List CV) × Int × (List CV) × Int × Int × Int × Int × ByteArray × (List CV) × Int × Int × Nat × (List CV)
def smS (t : List Int) (vals : List Vl) (i : Nat) (l : Vl) (a q : Int) : MSt := (by8 t, q, vals.map Vl.cv, (vals.length : Int), (i : Int), l.kind, l.n, l.s, by8 l.b, l.obj, l.inst, 1, [(smW t l a q).cv])
def SmInv (t : List Int) (vals : List Vl) (v : MSt) : Prop := ∃ i l a q, v = smS t vals i l a q ∧ i ≤ vals.length ∧ l.ok ∧ l.b.length ≤ 300 ∧ 0 ≤ a ∧ (a < i ∨ (i = 0 ∧ a = 0)) ∧ 0 ≤ q ∧ q ≤ i
set_option maxRecDepth 100000 in
theorem sm_step {k : Nat} (K : Bool → Option X) (t : List Int) (vals : List Vl) (ht : Byt t) (ht2 : t.length ≤ 8) (hlen : vals.length ≤ 80) (hv : ∀ v ∈ vals, v.ok ∧ v.b.length ≤ 300) (hk : 1000 ≤ k) (v : MSt) (rec : MSt → Option X) (h : SmInv t vals v) (hr : ∀ v', SmInv t vals v' → (81 - v'.2.2.2.2.1).toNat < (81 - v.2.2.2.2.1).toNat → rec v' = K true) :
    f5_L2 (fun X => @f7 X k) (fun X => @f14 X k) (fun X => @f8 X k) (fun X => @f9 X k) (fun X => @f11 X k) (fun X => @f15 X k) (fun X => @f16 X k) k K rec v = K true := by
  obtain ⟨i, l, a, q, rfl, h1, hl, hlb, ha, hai, hq, hqi⟩ := h
  unfold f5_L2 f5_T2 f5_J1
  simp only [smS]
  rcases Nat.lt_or_ge i vals.length with hi | hi
  · refine (bifT (decide_eq_true (by omega))).trans ?_
    refine (grdT (dec0 _)).trans ?_
    have hg : (vals.map Vl.cv)[((i : Nat) : Int).toNat]? = some vals[i].cv := by rw [Int.toNat_natCast, mapvGet, List.getElem?_eq_getElem hi]; rfl
    have step : ∀ F : CV → Option X, Option.bind (vals.map Vl.cv)[((i : Nat) : Int).toNat]? F = F vals[i].cv := fun F => by rw [hg]; rfl
    refine (step _).trans ?_
    obtain ⟨hy, hyb⟩ := hv _ (List.getElem_mem hi)
    generalize hyd : vals[i] = y at hy hyb
    have ea : 0 ≤ a ∧ a ≤ 1000 := by rcases hai with h | h <;> omega
    refine (due1_eq _ (smW t l a q) y i (smW_ok ht ht2 hl ha (by omega) hq (by omega)) hy (by omega) (by omega)).trans ?_
    have hd : (smW t l a q).due y i = (bif decide ((i : Int) - a < 1) then false else !(decide (l = y))) := by
      show (bif decide ((i : Int) - a < 1) then false else false || (!(decide (l = y)) && (true || _))) = _
      cases decide ((i : Int) - a < 1) <;> cases decide (l = y) <;> rfl
    have hrec0 : rec (smS t vals (i + 1) l a q) = K true := hr _ ⟨i + 1, l, a, q, rfl, hi, hl, hlb, ha, .inl (by rcases hai with h | h <;> omega), hq, by omega⟩ (by simp only [smS]; omega)
    have hrec0' : rec (by8 t, q, vals.map Vl.cv, (vals.length : Int), IntKind.wrap .i64 ((i : Int) + 1), l.kind, l.n, l.s, by8 l.b, l.obj, l.inst, 1, [(smW t l a q).cv]) = K true := by
      rw [wrap64_succ (by omega)]; exact hrec0
    rcases Nat.eq_zero_or_pos i with e0 | hpos
    · have hdue : (smW t l a q).due y i = false := by
        rw [hd, decide_eq_true (by rcases hai with h | h <;> omega)]; rfl
      rw [hdue]
      subst e0
      show rec _ = K true
      exact hrec0'
    have hgone : decide ((i : Int) - a < 1) = false := decide_eq_false (by rcases hai with h | h <;> omega)
    rw [hgone] at hd
    rw [hd]
    have hi0 : decide ((i : Int) > 0) = true := decide_eq_true (by omega)
    have hsame : ∀ (K' : Bool → Option X), f15 k K' l.cv y.cv = K' (decide (l = y)) := fun K' => refSame_eq K' l y (by omega) (by omega)
    cases hly : decide (l = y) with
    | true =>
      refine (bifF rfl).trans ?_
      refine (bifT hi0).trans ?_
      refine (hsame _).trans ?_
      rw [hly]
      exact hrec0'
    | false =>
      have et : ((smW t l a q).told i y) = smW t y i ((q + 1) % 16777216) := rfl
      have eq1 : (q + 1) % 16777216 = q + 1 := by omega
      rw [et, eq1]
      have hrec : rec (by8 t, IntKind.wrap .i64 (q + 1), vals.map Vl.cv, (vals.length : Int), IntKind.wrap .i64 ((i : Int) + 1), y.kind, y.n, y.s, by8 y.b, y.obj, y.inst, 1, [(smW t y (i : Int) (q + 1)).cv]) = K true := by
        rw [wrap64_succ (by omega), wrap64 (by omega) (by omega)]
        exact hr _ ⟨i + 1, y, i, q + 1, rfl, hi, hy, hyb, by omega, .inl (by omega), by omega, by omega⟩ (by simp only [smS]; omega)
      have hsame2 : ∀ (K' : Bool → Option X), f15 k K' y.cv y.cv = K' true := fun K' => (refSame_eq K' y y (by omega) (by omega)).trans (by rw [decide_eq_true rfl])
      have htok : ∀ (K' : Bool → Option X), f16 k K' (by8 t) (by8 t) = K' true := fun K' => (same_eq K' t t (by omega) (by omega)).trans (by rw [decide_eq_true rfl])
      refine (bifT rfl).trans ?_
      refine (bifT hi0).trans ?_
      refine (hsame _).trans ?_
      rw [hly]
      show (bif ((q + 1) != IntKind.wrap .i64 (q + 1)) then K false else bif ((3 : Int) != 3) then K false else
            f16 k (fun u68 => bif !u68 then K false else f15 k (fun u71 => bif !u71 then K false else
              rec (by8 t, IntKind.wrap .i64 (q + 1), vals.map Vl.cv, (vals.length : Int), IntKind.wrap .i64 ((i : Int) + 1), y.kind, y.n, y.s, by8 y.b, y.obj, y.inst, 1, [(smW t y (i : Int) (q + 1)).cv])) y.cv y.cv) (by8 t) (by8 t)) = K true
      rw [htok, hsame2, hrec, show (q + 1 != IntKind.wrap .i64 (q + 1)) = false by rw [wrap64 (by omega) (by omega)]; simp]
      rfl
  · exact bifF (decide_eq_false (by omega))
theorem vlG (v : Vl) (Z : Option X) : (grd (CV.isA 6 v.cv) <| grd (CV.isI .i64 (CV.cellD 0 v.cv)) <| grd (CV.isI .i64 (CV.cellD 1 v.cv)) <| grd (CV.isS (CV.cellD 2 v.cv)) <| grd (CV.isL none (CV.cellD 3 v.cv)) <| grd (CV.isI .i64 (CV.cellD 4 v.cv)) <| grd (CV.isI .i64 (CV.cellD 5 v.cv)) <| Z) = Z := rfl
theorem new_eq {k : Nat} (K : List CV → Option X) : f8 k K = K [] := rfl
set_option maxRecDepth 100000 in
theorem sm_main {k : Nat} (K : Bool → Option X) (t : List Int) (vals : List Vl) (ht : Byt t) (ht2 : t.length ≤ 8) (y : Vl) (hg : (vals.map Vl.cv)[0]? = some y.cv) (hy : y.ok) (hyb : y.b.length ≤ 300) (hk : 1000 ≤ k) (L : MSt → Option X) (hL : L (smS t vals 0 y 0 0) = K true) (rec : (List CV) × (List CV) × (List CV) × Int × Int → Option X) :
    f5_T1 (fun X => @f7 X k) (fun X => @f14 X k) (fun X => @f8 X k) (fun X => @f9 X k) (fun X => @f11 X k) (fun X => @f15 X k) (fun X => @f16 X k) k K L rec (vals.map Vl.cv, by8 t, vals.map Vl.cv, (vals.length : Int), (vals.length : Int)) = K true := by
  have step : ∀ F : CV → Option X, Option.bind (vals.map Vl.cv)[0]? F = F y.cv := fun F => by rw [hg]; rfl
  unfold f5_T1
  dsimp only
  refine (bifF (decide_eq_false (by omega))).trans ?_
  refine (new_eq _).trans ?_
  refine (step _).trans ?_
  refine (vlG y _).trans ?_
  refine (add_eq _ [] (smW t y 0 0) (fun w h => by simp at h) (by simp) ht (by simp only [smW]; omega) (by simp only [smW, List.length_nil]; omega) (by simp [smW]) (by simp only [smW]; omega) (by omega)).trans ?_
  have ea : addW [] (smW t y 0 0) = ([smW t y 0 0], 0) := by
    unfold addW
    rw [if_neg (by simp [smW, pathOk]; omega)]
    rfl
  rw [ea]
  refine (bifF rfl).trans ?_
  refine (step _).trans ?_
  refine (vlG y _).trans ?_
  have e : vals.length = (vals.map Vl.cv).length := by rw [List.length_map]
  unfold smS at hL
  rw [e] at hL
  exact hL
set_option maxRecDepth 100000 in
theorem sameLaw_eq {k : Nat} (K : Bool → Option X) (hk : 1000 ≤ k) (vals : List Vl) (t : List Int) (hv : ∀ v ∈ vals, Byt v.b ∧ I64 v.n) (ht : Byt t) : f5 k K (vals.map Vl.cv) (by8 t) = K true := by
  unfold f5 f5_A f5_T
  refine (alive_eq _ (by omega)).trans ?_
  refine (bifF rfl).trans ?_
  by_cases h1 : vals.length > 80
  · exact bifT (decide_eq_true (by rw [List.length_map]; omega))
  refine (bifF (decide_eq_false (by rw [List.length_map]; omega))).trans ?_
  by_cases h2 : vals = []
  · subst h2; rfl
  have hpos : 0 < vals.length := List.length_pos_iff.2 h2
  refine (bifF (beq_f (by rw [List.length_map]; omega))).trans ?_
  by_cases h3 : t.length > 8
  · exact bifT (decide_eq_true (by rw [by8_length]; omega))
  refine (bifF (decide_eq_false (by rw [by8_length]; omega))).trans ?_
  rw [List.length_map]
  refine iterV_meas (fun _ => K true) (fun v : (List CV) × (List CV) × (List CV) × Int × Int => (81 - v.2.2.2.2).toNat) (fun v => ∃ i, v = (vals.map Vl.cv, by8 t, vals.map Vl.cv, (vals.length : Int), ((i : Nat) : Int)) ∧ i ≤ vals.length ∧ ∀ v ∈ vals.take i, v.short = true) (fun v rec h hr => ?_) k _ ⟨0, rfl, Nat.zero_le _, by simp⟩ (by simp only; omega)
  obtain ⟨i, rfl, hi, hs⟩ := h
  unfold f5_L1
  generalize hL : iterV (f5_L2 _ _ _ _ _ _ _ k K) k = L
  rcases Nat.lt_or_ge i vals.length with hlt | hge
  · have hg : (vals.map Vl.cv)[((i : Nat) : Int).toNat]? = some vals[i].cv := by rw [Int.toNat_natCast, mapvGet, List.getElem?_eq_getElem hlt]; rfl
    have step : ∀ F : CV → Option X, Option.bind (vals.map Vl.cv)[((i : Nat) : Int).toNat]? F = F vals[i].cv := fun F => by rw [hg]; rfl
    unfold f5_T1
    dsimp only
    refine (bifT (decide_eq_true (by omega))).trans ?_
    refine (grdT (dec0 _)).trans ?_
    refine (step _).trans ?_
    refine (vlG vals[i] _).trans ?_
    refine (short_eq _ vals[i]).trans ?_
    cases hsh : vals[i].short with
    | false => rfl
    | true =>
      refine (bifF rfl).trans ?_
      rw [wrap64_succ (by omega)]
      refine hr _ ⟨i + 1, rfl, hlt, fun v hm => ?_⟩ (by simp only; omega)
      rw [← List.take_append_getElem hlt] at hm
      rcases List.mem_append.1 hm with hm | hm
      · exact hs v hm
      · rw [List.mem_singleton.1 hm]; exact hsh
  · have : i = vals.length := by omega
    subst this
    rw [List.take_length] at hs
    have hok : ∀ v ∈ vals, v.ok ∧ v.b.length ≤ 300 := fun v hm => by
      have := hs v hm
      unfold Vl.short at this
      rw [Bool.and_eq_true, decide_eq_true_eq, decide_eq_true_eq] at this
      exact ⟨⟨(hv v hm).1, by omega, (hv v hm).2⟩, this.2⟩
    obtain ⟨hy, hyb⟩ := hok _ (List.getElem_mem hpos)
    refine sm_main K t vals ht (by omega) vals[0] (by rw [mapvGet, List.getElem?_eq_getElem hpos]; rfl) hy hyb hk L ?_ rec
    rw [← hL]
    exact iterV_meas (fun _ => K true) (fun v => (81 - v.2.2.2.2.1).toNat) (SmInv t vals) (fun v rec h hr => sm_step K t vals ht (by omega) (by omega) hok (by omega) v rec h hr) k _ ⟨0, vals[0], 0, 0, rfl, by omega, hy, hyb, by omega, .inr ⟨rfl, rfl⟩, by omega, by omega⟩ (by simp only [smS]; omega)
end
end Go.Proofs.YthlaobnnhghcfaaD
