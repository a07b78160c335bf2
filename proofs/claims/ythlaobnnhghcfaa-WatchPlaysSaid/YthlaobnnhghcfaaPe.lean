/- A watch is told no closer than PMin, no wider than PMax: the law. -/
import Derived.Test.YthlaobnnhghcfaaPd
namespace Go.Proofs.YthlaobnnhghcfaaD
open Go Go.Proofs.YthlaobnnhghcfaaS Go.Proofs
set_option linter.unusedVariables false
set_option linter.unusedSimpArgs false
section
variable {X : Type}
/-- A number as a value. -/
def numV (n : Int) : Vl := ⟨1, n, ⟨#[]⟩, [], 0, 0⟩
theorem numV_ok {n : Int} (h : I64 n) : (numV n).ok := ⟨Byt.nil, by simp [numV], h⟩
/-- The watch of the law. -/
def spW (c : Cd) (x a q : Int) : W := ⟨1, [1], [3, 0, 9], c, numV x, a, q⟩
theorem spW_ok {c : Cd} {x a q : Int} (hx : I64 x) (ha : 0 ≤ a) (ha2 : a ≤ 1000) (hq : 0 ≤ q) (hq2 : q < 1000) : (spW c x a q).ok :=
  ⟨fun b hb => by simp [spW] at hb; omega, by simp [spW], by simp [spW], numV_ok hx, ha, by simp only [spW]; omega, hq, by simp only [spW]; omega⟩
theorem one_ok {w : W} (h : w.ok) : Ws [w] := fun x hx => by rw [List.mem_singleton.1 hx]; exact h
theorem pass1 (now : Int) (w : W) (v : Vl) : passN now [w] [v] 1 = bif w.due v now then ([w.told now v], [w.told now v]) else ([w], []) := rfl
/-- What Due answers of a table of one watch. -/
theorem due1_eq {k : Nat} (K : Nat × Nat × List CV × List CV → Option X) (w : W) (v : Vl) (i : Nat) (hw : w.ok) (hv : v.ok) (hi : i < 1000) (hk : 1 < k) :
    f11 k K [v.cv] (i : Int) 1 [w.cv] = bif w.due v i then K (1, 1, [(w.told i v).cv], [(w.told i v).cv]) else K (0, 1, [w.cv], []) := by
  have := dueAll_eq (k := k) K [w] [v] (i : Int) (one_ok hw) (fun u hu => by rw [List.mem_singleton.1 hu]; exact hv) (by simp) (by simpa using hk)
  have ec : ck (i : Int) = i := by unfold ck; rw [if_neg (by omega), if_neg (by omega)]
  rw [ec] at this
  refine this.trans ?_
  simp only [List.length_singleton, pass1]
  cases w.due v i <;> rfl
abbrev SSt := (List CV) × Int × Int × Int × Int × Int × Bool × Bool × Int × Int × Int × Bool × Bool × Bool × Nat × (List CV)
def spS (vals : List Int) (c : Cd) (i : Nat) (x a q : Int) : SSt := (by64 vals, a, q, (i : Int), c.pmin, c.pmax, c.hasMin, c.hasMax, c.gt, c.lt, c.st, c.hasGt, c.hasLt, c.hasSt, 1, [(spW c x a q).cv])
def SpInv (vals : List Int) (c : Cd) (v : SSt) : Prop := ∃ i x a q, v = spS vals c i x a q ∧ 1 ≤ i ∧ i ≤ vals.length ∧ I64 x ∧ 0 ≤ a ∧ a < i ∧ 0 ≤ q ∧ q < i
set_option maxRecDepth 100000 in
theorem spaces_step {k : Nat} (K : Bool → Option X) (vals : List Int) (c : Cd) (hlen : vals.length ≤ 80) (hv : ∀ n ∈ vals, I64 n) (hc : ¬ (c.hasMin = true ∧ c.hasMax = true ∧ c.pmax > 0 ∧ c.pmax < c.pmin)) (hk : 100 < k) (v : SSt) (rec : SSt → Option X) (h : SpInv vals c v) (hr : ∀ v', SpInv vals c v' → (81 - v'.2.2.2.1).toNat < (81 - v.2.2.2.1).toNat → rec v' = K true) :
    f3_L1 (fun X => @f7 X k) (fun X => @f8 X k) (fun X => @f10 X k) (fun X => @f9 X k) (fun X => @f11 X k) (fun X => @f12 X k) k K rec v = K true := by
  obtain ⟨i, x, a, q, rfl, h1, h2, hx, ha, hai, hq, hqi⟩ := h
  unfold f3_L1 f3_T1 f3_J1
  simp only [spS]
  rcases Nat.lt_or_ge i vals.length with hi | hi
  · refine (bifT (decide_eq_true (by rw [by64_length]; omega))).trans ?_
    refine (grdT (dec0 _)).trans ?_
    have hg : (by64 vals)[((i : Nat) : Int).toNat]? = some (.int .i64 vals[i]) := by rw [Int.toNat_natCast, by64_get, List.getElem?_eq_getElem hi]; rfl
    have step : ∀ F : CV → Option X, Option.bind (by64 vals)[((i : Nat) : Int).toNat]? F = F (.int .i64 vals[i]) := fun F => by rw [hg]; rfl
    refine (step _).trans ?_
    refine (grdT (isI_int _ _)).trans ?_
    have hy : I64 vals[i] := hv _ (List.getElem_mem hi)
    generalize hyd : vals[i] = y at hy
    refine (due1_eq _ (spW c x a q) (numV y) i (spW_ok hx ha (by omega) hq (by omega)) (numV_ok hy) (by omega) (by omega)).trans ?_
    have hd : (spW c x a q).due (numV y) i = (bif decide ((i : Int) - a < (if c.hasMin = true ∧ c.pmin > 1 then c.pmin else 1)) then false
      else (c.hasMax && (decide (c.pmax > 0) && decide ((i : Int) - a ≥ c.pmax))) || c.turn (numV x) (numV y)) := rfl
    have wr : IntKind.wrap .i64 ((i : Int) - a) = (i : Int) - a := wrap64 (by omega) (by omega)
    cases hdue : (spW c x a q).due (numV y) i with
    | false =>
      show (bif decide (((0 : Nat) : Int) > 1) then K false else bif (((0 : Nat) : Int) == 0) then (bif c.hasMax then (bif decide (c.pmax > 0) then (bif decide (IntKind.wrap .i64 ((i : Int) - a) ≥ c.pmax) then K false else rec (by64 vals, a, q, IntKind.wrap .i64 ((i : Int) + 1), c.pmin, c.pmax, c.hasMin, c.hasMax, c.gt, c.lt, c.st, c.hasGt, c.hasLt, c.hasSt, 1, [(spW c x a q).cv]))
          else rec (by64 vals, a, q, IntKind.wrap .i64 ((i : Int) + 1), c.pmin, c.pmax, c.hasMin, c.hasMax, c.gt, c.lt, c.st, c.hasGt, c.hasLt, c.hasSt, 1, [(spW c x a q).cv])) else rec (by64 vals, a, q, IntKind.wrap .i64 ((i : Int) + 1), c.pmin, c.pmax, c.hasMin, c.hasMax, c.gt, c.lt, c.st, c.hasGt, c.hasLt, c.hasSt, 1, [(spW c x a q).cv])) else none) = K true
      have hrec : rec (by64 vals, a, q, IntKind.wrap .i64 ((i : Int) + 1), c.pmin, c.pmax, c.hasMin, c.hasMax, c.gt, c.lt, c.st, c.hasGt, c.hasLt, c.hasSt, 1, [(spW c x a q).cv]) = K true := by
        rw [wrap64_succ (by omega)]
        exact hr _ ⟨i + 1, x, a, q, rfl, by omega, hi, hx, ha, by omega, hq, by omega⟩ (by simp only [spS]; omega)
      rw [hrec, wr]
      show (bif c.hasMax then (bif decide (c.pmax > 0) then (bif decide ((i : Int) - a ≥ c.pmax) then K false else K true) else K true) else K true) = K true
      rw [hd] at hdue
      cases e1 : c.hasMax with
      | false => rfl
      | true =>
        by_cases e2 : c.pmax > 0
        · rw [decide_eq_true e2]
          simp only [cond_true]
          rw [bifF]
          refine decide_eq_false fun e3 => ?_
          rw [e1, decide_eq_true e2, decide_eq_true e3] at hdue
          by_cases e4 : (i : Int) - a < (if c.hasMin = true ∧ c.pmin > 1 then c.pmin else 1)
          · split at e4
            · next e5 => exact hc ⟨e5.1, e1, e2, by omega⟩
            · omega
          · rw [decide_eq_false e4] at hdue
            simp at hdue
        · rw [decide_eq_false e2]; rfl
    | true =>
      rw [hd] at hdue
      have hmin : ¬ ((i : Int) - a < (if c.hasMin = true ∧ c.pmin > 1 then c.pmin else 1)) := fun e => by
        rw [decide_eq_true e] at hdue; cases hdue
      have et : ((spW c x a q).told i (numV y)) = spW c y i ((q + 1) % 16777216) := rfl
      have eq1 : (q + 1) % 16777216 = q + 1 := by omega
      rw [et, eq1]
      have efr : ∀ K' : Bool → Option X, f12 k K' q (q + 1) a (i : Int) = K' true := fun K' => by
        rw [fresh_eq]
        congr 1
        refine decide_eq_true (.inl ?_)
        rw [show q + 1 - q = 1 by omega]
        decide
      have hrec : rec (by64 vals, (i : Int), q + 1, IntKind.wrap .i64 ((i : Int) + 1), c.pmin, c.pmax, c.hasMin, c.hasMax, c.gt, c.lt, c.st, c.hasGt, c.hasLt, c.hasSt, 1, [(spW c y (i : Int) (q + 1)).cv]) = K true := by
        rw [wrap64_succ (by omega)]
        exact hr _ ⟨i + 1, y, i, q + 1, rfl, by omega, hi, hy, by omega, by omega, by omega, by omega⟩ (by simp only [spS]; omega)
      have tail : ∀ Z : Option X, (bif ((i : Int) != (i : Int)) then K false else grd (decide ((0 : Int) ≤ (i : Int))) <| Option.bind (by64 vals)[Int.toNat (i : Int)]? fun e => grd (CV.isI .i64 e) <| bif (y != CV.toI e) then K false else f12 k (fun u => bif !u then K false else rec (by64 vals, (i : Int), q + 1, IntKind.wrap .i64 ((i : Int) + 1), c.pmin, c.pmax, c.hasMin, c.hasMax, c.gt, c.lt, c.st, c.hasGt, c.hasLt, c.hasSt, 1, [(spW c y (i : Int) (q + 1)).cv])) q (q + 1) a (i : Int)) = K true := fun _ => by
        rw [bifF (by simp), grdT (dec0 _), Int.toNat_natCast, by64_get, List.getElem?_eq_getElem hi, hyd]
        simp only [Option.map_some, Option.bind_some, isI_int, toI_int, grd_true]
        rw [bifF (by simp), efr]
        exact hrec
      show (bif c.hasMin then (bif decide (IntKind.wrap .i64 ((i : Int) - a) < c.pmin) then K false else _) else _) = K true
      rw [wr]
      by_cases e1 : c.hasMin = true
      · refine (bifT e1).trans ?_
        refine (bifF (decide_eq_false (fun e => ?_))).trans ?_
        · apply hmin
          split
          · exact e
          · next e5 => simp [e1] at e5; omega
        · exact tail none
      · refine (bifF (by simpa using e1)).trans ?_
        exact tail none
  · exact bifF (decide_eq_false (by rw [by64_length]; omega))
set_option maxRecDepth 100000 in
theorem spaces_eq {k : Nat} (K : Bool → Option X) (hk : 100 < k) (c : Cd) (vals : List Int) (hv : ∀ n ∈ vals, I64 n) : f3 k K c.cv (by64 vals) = K true := by
  unfold f3 f3_A
  generalize hL : iterV (f3_L1 _ _ _ _ _ _ k K) k = L
  have e : ∀ A New Num Add Due Fresh, f3_T A New Num Add Due Fresh k K L c.cv (by64 vals) = A X (fun u => bif !u then K false else
      bif decide ((Nat.cast (by64 vals).length : Int) > 80) then K true else bif ((Nat.cast (by64 vals).length : Int) == 0) then K true else
      let J := f3_J3 A New Num Add Due Fresh k K L c.cv (by64 vals) ()
      bif c.hasMin then (bif c.hasMax then (bif decide (c.pmax > 0) then (bif decide (c.pmax < c.pmin) then K true else J) else J) else J) else J) := fun A New Num Add Due Fresh => by kernel_rfl
  rw [e]
  refine (alive_eq _ hk).trans ?_
  simp only [Bool.not_true, cond_false, by64_length]
  by_cases h1 : vals.length > 80
  · rw [bifT (decide_eq_true (by omega))]
  rw [bifF (decide_eq_false (by omega))]
  by_cases h2 : vals = []
  · subst h2; rfl
  have hpos : 0 < vals.length := List.length_pos_iff.2 h2
  rw [bifF (beq_f (by omega))]
  by_cases hc : c.hasMin = true ∧ c.hasMax = true ∧ c.pmax > 0 ∧ c.pmax < c.pmin
  · rw [hc.1, hc.2.1, decide_eq_true hc.2.2.1, decide_eq_true hc.2.2.2]; rfl
  have hJ : f3_J3 (fun X => @f7 X k) (fun X => @f8 X k) (fun X => @f10 X k) (fun X => @f9 X k) (fun X => @f11 X k) (fun X => @f12 X k) k K L c.cv (by64 vals) () = K true := by
    unfold f3_J3
    refine (show _ = Option.bind (by64 vals)[0]? fun e8 => grd (CV.isI .i64 e8) <| f9 k (fun u10 => bif (u10.1 != 0) then K false else L (by64 vals, 0, 0, 1, c.pmin, c.pmax, c.hasMin, c.hasMax, c.gt, c.lt, c.st, c.hasGt, c.hasLt, c.hasSt, u10.2.1, u10.2.2)) (spW c (CV.toI e8) 0 0).cv 0 [] from by kernel_rfl).trans ?_
    rw [by64_get, List.getElem?_eq_getElem hpos]
    simp only [Option.map_some, Option.bind_some, isI_int, toI_int, grd_true]
    have hy : I64 vals[0] := hv _ (List.getElem_mem hpos)
    generalize vals[0] = y at hy
    refine (add_eq _ [] (spW c y 0 0) (fun w h => by simp at h) (by simp) (fun b hb => by simp [spW] at hb; omega) (by simp [spW]) (by simp only [spW, List.length_cons, List.length_nil]; omega) (by simp [spW]) (by simp [spW, numV]) (by omega)).trans ?_
    have ea : addW [] (spW c y 0 0) = ([spW c y 0 0], 0) := rfl
    rw [ea]
    show L (spS vals c 1 y 0 0) = K true
    rw [← hL]
    exact iterV_meas (fun _ => K true) (fun v => (81 - v.2.2.2.1).toNat) (SpInv vals c) (fun v rec h hr => spaces_step K vals c (by omega) hv hc hk v rec h hr) k _ ⟨1, y, 0, 0, rfl, by omega, by omega, hy, by omega, by omega, by omega, by omega⟩ (by simp only [spS]; omega)
  simp only [hJ]
  cases c.hasMin <;> cases c.hasMax <;> cases e3 : decide (c.pmax > 0) <;> cases e4 : decide (c.pmax < c.pmin) <;> rfl
end
end Go.Proofs.YthlaobnnhghcfaaD
