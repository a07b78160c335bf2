/- What stands for a resource is right, and fits: the law. -/
import Derived.Test.YtoijlllboghpcaaPb
namespace Go.Proofs.YtoijlllboghpcaaD
open Go Go.Proofs.YtoijlllboghpcaaS Go.Proofs
set_option linter.unusedVariables false
set_option linter.unusedSimpArgs false
section
variable {X : Type}
theorem runes_loop {k : Nat} (K : Int × Bool → Option X) (hk : 300 < k) : ∀ (n c kk : Nat), n + c ≤ 200 → n < kk → iterV (f24_L1 (fun X => @f43 X k) k K) kk (xN n, (c : Int)) = K ((n + c : Nat), true)
  | n, c, 0, h, hm => absurd hm (Nat.not_lt_zero _)
  | 0, c, kk + 1, h, hm => by
    refine (iterV_one _ _ _).trans ?_
    unfold f24_L1 f24_T1
    refine (bifF (decide_eq_false (by show ¬ (((xN 0).size : Int) > 0); rw [xN_size]; omega))).trans ?_
    rw [Nat.zero_add]
  | n + 1, c, kk + 1, h, hm => by
    refine (iterV_one _ _ _).trans ?_
    have ih := runes_loop (k := k) K hk n (c + 1) kk (by omega) (by omega)
    generalize iterV (f24_L1 (fun X => @f43 X k) k K) kk = rec at ih ⊢
    unfold f24_L1 f24_T1
    dsimp only
    rw [xN_size]
    refine (bifT (decide_eq_true (by omega))).trans ?_
    have hs : ∀ K' : Int × Int → Option X, f43 k K' (xN (n + 1)) = K' (1, 120) := fun K' => by
      unfold f43 f43_A
      generalize iterV (f43_L1 k K') k = lp
      unfold f43_T
      rw [xN_get]
      rfl
    refine (hs _).trans ?_
    refine (bifF rfl).trans ?_
    refine (bifF rfl).trans ?_
    refine (bifF rfl).trans ?_
    refine (grdT rfl).trans ?_
    refine (grdT (decide_eq_true (by omega))).trans ?_
    refine (grdT (decide_eq_true (by omega))).trans ?_
    rw [show Int.toNat 1 = 1 from rfl, xN_ext, wrap64_s (by omega)]
    refine ih.trans ?_
    rw [show n + (c + 1) = n + 1 + c by omega]
theorem runes_eq {k : Nat} (K : Int × Bool → Option X) (n : Nat) (hn : n ≤ 200) (hk : 300 < k) : f24 k K (xN n) = K ((n : Int), true) := by
  have := runes_loop (k := k) K hk n 0 k (by omega) (by omega)
  exact this
theorem emptyT : ((⟨#[]⟩ : ByteArray).toList == (⟨#[]⟩ : ByteArray).toList) = true := beq_self_eq_true _
theorem right_eq {k : Nat} (K : Bool → Option X) (kind least : Int) (hk : 300 < k) (h1 : 1 ≤ kind) (h6 : kind ≤ 6) : f11 k K (blk kind least).1 (blk kind least).2.1 (blk kind least).2.2.1 (by8 (blk kind least).2.2.2) 0 0 = K true := by
  have hl := szB_le least
  rcases (show kind = 1 ∨ kind = 2 ∨ kind = 3 ∨ kind = 4 ∨ kind = 5 ∨ kind = 6 by omega) with rfl | rfl | rfl | rfl | rfl | rfl
  · show f11 k K 1 least ⟨#[]⟩ [] 0 0 = K true
    unfold f11 f11_A f11_T
    rw [emptyT]; rfl
  · show f11 k K 2 0 ⟨#[]⟩ [] 0 0 = K true
    unfold f11 f11_A f11_T
    rw [emptyT]; rfl
  · show f11 k K 3 0 (xN (szB least)) [] 0 0 = K true
    refine Eq.trans (b := f24 k (fun u4 => bif u4.2 then K (decide (((xN (szB least)).size : Int) ≤ 200)) else K false) (xN (szB least))) rfl ?_
    refine (runes_eq _ (szB least) hl hk).trans ?_
    refine (bifT rfl).trans ?_
    rw [xN_size, decide_eq_true (by omega)]
  · show f11 k K 4 0 ⟨#[]⟩ (by8 (List.replicate (szB least) 0)) 0 0 = K true
    unfold f11 f11_A f11_T
    rw [emptyT]
    refine Eq.trans (b := K (decide (((by8 (List.replicate (szB least) 0)).length : Int) ≤ 200))) rfl ?_
    rw [by8_length, List.length_replicate, decide_eq_true (by omega)]
  · show f11 k K 5 least ⟨#[]⟩ [] 0 0 = K true
    unfold f11 f11_A f11_T
    rw [emptyT]; rfl
  · show f11 k K 6 0 ⟨#[]⟩ [] 0 0 = K true
    unfold f11 f11_A f11_T
    rw [emptyT]; rfl
theorem fitsJ {k : Nat} (K : Int → Option X) (r : CV) (v least most : Int) (e5 : CV.toI (CV.cellD 5 r) = least) (e6 : CV.toI (CV.cellD 6 r) = most) (h1 : least ≤ v) (h2 : v ≤ most) : f12_J1 k K r v = K 0 := by
  unfold f12_J1
  rw [e5, e6]
  refine (bifF (decide_eq_false (by omega))).trans ?_
  exact bifF (decide_eq_false (by omega))
theorem fits_eq {k : Nat} (K : Int → Option X) (id kind : Int) (b1 b2 ex b3 : Bool) (least most : Int) (h1 : 1 ≤ kind) (h6 : kind ≤ 6) (hlm : least ≤ most) (hs : kind = 3 ∨ kind = 4 → 0 ≤ least ∧ most ≤ 200) :
    f12 k K (ruv (id, kind, b1, b2, ex, least, most, b3, ())) (blk kind least).1 (blk kind least).2.1 (blk kind least).2.2.1 (by8 (blk kind least).2.2.2) 0 0 = K 0 := by
  have hz := szB_eq least
  rcases (show kind = 1 ∨ kind = 2 ∨ kind = 3 ∨ kind = 4 ∨ kind = 5 ∨ kind = 6 by omega) with rfl | rfl | rfl | rfl | rfl | rfl
  · exact Eq.trans (b := f12_J1 k K (ruv (id, 1, b1, b2, ex, least, most, b3, ())) least) rfl (fitsJ K _ _ least most rfl rfl (Int.le_refl _) hlm)
  · rfl
  · have := hs (.inl rfl)
    have e : ((szB least : Nat) : Int) = least := by rw [← hz]; split <;> split at * <;> omega
    refine Eq.trans (b := f12_J1 k K (ruv (id, 3, b1, b2, ex, least, most, b3, ())) ((xN (szB least)).size : Int)) rfl (fitsJ K _ _ least most rfl rfl ?_ ?_)
    · rw [xN_size]; omega
    · rw [xN_size]; omega
  · have := hs (.inr rfl)
    have e : ((szB least : Nat) : Int) = least := by rw [← hz]; split <;> split at * <;> omega
    refine Eq.trans (b := f12_J1 k K (ruv (id, 4, b1, b2, ex, least, most, b3, ())) ((by8 (List.replicate (szB least) 0)).length : Int)) rfl (fitsJ K _ _ least most rfl rfl ?_ ?_)
    · rw [by8_length, List.length_replicate]; omega
    · rw [by8_length, List.length_replicate]; omega
  · exact Eq.trans (b := f12_J1 k K (ruv (id, 5, b1, b2, ex, least, most, b3, ())) least) rfl (fitsJ K _ _ least most rfl rfl (Int.le_refl _) hlm)
  · rfl
/-- Is a rule right. -/
def okR (r : Ru) : Bool :=
  bif decide (r.1 < 0) then false else bif decide (r.1 > 65535) then false else bif r.2.2.2.2.1 then ((r.1 == r.1) && ((r.2.1 == 0) && ((r.2.2.1 == false) && ((r.2.2.2.1 == false) && ((r.2.2.2.2.1 == true) && ((r.2.2.2.2.2.1 == 0) && ((r.2.2.2.2.2.2.1 == 0) && ((r.2.2.2.2.2.2.2.1 == false) && true))))))))
  else bif (bif (r.2.1 == 3) then true else (r.2.1 == 4)) then (bif decide (r.2.2.2.2.2.1 < 0) then false else bif decide (r.2.2.2.2.2.2.1 > 200) then false else (bif decide (r.2.1 ≥ 1) then bif decide (r.2.1 ≤ 6) then decide (r.2.2.2.2.2.1 ≤ r.2.2.2.2.2.2.1) else false else false))
  else (bif decide (r.2.1 ≥ 1) then bif decide (r.2.1 ≤ 6) then decide (r.2.2.2.2.2.1 ≤ r.2.2.2.2.2.2.1) else false else false)
theorem rightRule_eq {k : Nat} (K : Bool → Option X) (r : Ru) : f20 k K (ruv r) = K (okR r) := by
  obtain ⟨id, kind, b1, b2, ex, least, most, b3, u⟩ := r
  unfold f20 f20_A f20_T okR
  refine (grdT rfl).trans ?_
  refine (grdT rfl).trans ?_
  refine (grdT rfl).trans ?_
  refine (grdT rfl).trans ?_
  refine (grdT rfl).trans ?_
  refine (grdT rfl).trans ?_
  refine (grdT rfl).trans ?_
  refine (grdT rfl).trans ?_
  refine (grdT rfl).trans ?_
  have tl : f20_J1 (fun X => @f36 X k) k K (ruv (id, kind, b1, b2, ex, least, most, b3, u)) () = K (bif decide (kind ≥ 1) then bif decide (kind ≤ 6) then decide (least ≤ most) else false else false) := by
    unfold f20_J1
    show (bif decide (kind ≥ 1) then (bif decide (kind ≤ 6) then K (decide (least ≤ most)) else K false) else K false) = _
    cases decide (kind ≥ 1) <;> cases decide (kind ≤ 6) <;> rfl
  show (bif decide (id < 0) then K false else (bif decide (id > 65535) then K false else (bif ex then K ((id == id) && ((kind == 0) && ((b1 == false) && ((b2 == false) && ((ex == true) && ((least == 0) && ((most == 0) && ((b3 == false) && true)))))))) else f36 k (fun u3 => bif u3 then (bif decide (least < 0) then K false else (bif decide (most > 200) then K false else f20_J1 (fun X => @f36 X k) k K (ruv (id, kind, b1, b2, ex, least, most, b3, u)) ())) else f20_J1 (fun X => @f36 X k) k K (ruv (id, kind, b1, b2, ex, least, most, b3, u)) ()) kind))) = _
  rw [tl]
  have hsz : ∀ K' : Bool → Option X, f36 k K' kind = K' (bif (kind == 3) then true else (kind == 4)) := fun K' => by
    unfold f36 f36_A f36_T
    cases (kind == 3) <;> rfl
  rw [hsz]
  dsimp only
  cases decide (id < 0) with
  | true => rfl
  | false =>
    cases decide (id > 65535) with
    | true => rfl
    | false =>
      cases ex with
      | true => rfl
      | false =>
        cases (bif (kind == 3) then true else (kind == 4)) with
        | false => rfl
        | true =>
          cases decide (least < 0) with
          | true => rfl
          | false =>
            cases decide (most > 200) <;> rfl
theorem okR_spec {id kind : Int} {b1 b2 b3 : Bool} {least most : Int} (h : okR (id, kind, b1, b2, false, least, most, b3, ()) = true) : 1 ≤ kind ∧ kind ≤ 6 ∧ least ≤ most ∧ (kind = 3 ∨ kind = 4 → 0 ≤ least ∧ most ≤ 200) := by
  unfold okR at h
  dsimp only at h
  by_cases c1 : id < 0
  · rw [decide_eq_true c1] at h; cases h
  rw [decide_eq_false c1] at h
  by_cases c2 : id > 65535
  · rw [decide_eq_true c2] at h; cases h
  rw [decide_eq_false c2] at h
  have tl : (bif decide (kind ≥ 1) then bif decide (kind ≤ 6) then decide (least ≤ most) else false else false) = true → 1 ≤ kind ∧ kind ≤ 6 ∧ least ≤ most := fun h => by
    by_cases a1 : kind ≥ 1
    · rw [decide_eq_true a1] at h
      by_cases a2 : kind ≤ 6
      · rw [decide_eq_true a2] at h
        exact ⟨a1, a2, of_decide_eq_true h⟩
      · rw [decide_eq_false a2] at h; cases h
    · rw [decide_eq_false a1] at h; cases h
  by_cases c3 : kind = 3 ∨ kind = 4
  · have e : (bif (kind == 3) then true else (kind == 4)) = true := by rcases c3 with rfl | rfl <;> rfl
    rw [e] at h
    by_cases c4 : least < 0
    · rw [decide_eq_true c4] at h; cases h
    rw [decide_eq_false c4] at h
    by_cases c5 : most > 200
    · rw [decide_eq_true c5] at h; cases h
    rw [decide_eq_false c5] at h
    have := tl h
    exact ⟨this.1, this.2.1, this.2.2, fun _ => ⟨by omega, by omega⟩⟩
  · have e : (bif (kind == 3) then true else (kind == 4)) = false := by
      rw [show (kind == 3) = false from beq_eq_false_iff_ne.2 fun h => c3 (.inl h), show (kind == 4) = false from beq_eq_false_iff_ne.2 fun h => c3 (.inr h)]; rfl
    rw [e] at h
    have := tl h
    exact ⟨this.1, this.2.1, this.2.2, fun h => absurd h c3⟩
theorem right_loop {k : Nat} (rs : List Ru) (id insts : Int) (mk : Bool) (hl : rs.length ≤ 1000) : ∀ (m i kk : Nat), i + m = rs.length → m < kk → ∃ b : Bool, (∀ K : Bool → Option X, iterV (f7_L1 (fun X => @f20 X k) k K) kk (rs.map ruv, (rs.length : Int), (i : Int), id, insts, mk, rs.map ruv) = K b) ∧ (b = true → ∀ j (hj : j < rs.length), i ≤ j → okR rs[j] = true)
  | m, i, 0, h, hm => absurd hm (Nat.not_lt_zero _)
  | 0, i, kk + 1, h, hm => ⟨true, fun K => by
      refine (iterV_one _ _ _).trans ?_
      unfold f7_L1 f7_T1
      exact bifF (decide_eq_false (by show ¬ ((i : Int) < rs.length); omega)), fun _ j hj hij => by omega⟩
  | m + 1, i, kk + 1, h, hm => by
    obtain ⟨b, hb1, hb2⟩ := right_loop (k := k) rs id insts mk hl m (i + 1) kk (by omega) (by omega)
    have hi : i < rs.length := by omega
    have hg : (rs.map ruv)[i]? = some (ruv rs[i]) := by rw [List.getElem?_map, List.getElem?_eq_getElem hi]; rfl
    -- what a round does
    have round : ∀ (K : Bool → Option X) (rec), f7_T1 (fun X => @f20 X k) k K rec (rs.map ruv, (rs.length : Int), (i : Int), id, insts, mk, rs.map ruv) = (bif (!(okR rs[i])) then K false else bif decide ((i : Int) > 0) then (bif decide ((rs.getD (i - 1) (0, 0, false, false, false, 0, 0, false, ())).1 ≥ rs[i].1) then K false else rec (rs.map ruv, (rs.length : Int), ((i + 1 : Nat) : Int), id, insts, mk, rs.map ruv)) else rec (rs.map ruv, (rs.length : Int), ((i + 1 : Nat) : Int), id, insts, mk, rs.map ruv)) := fun K rec => by
      unfold f7_T1 f7_J1
      dsimp only
      refine (bifT (decide_eq_true (by omega))).trans ?_
      refine (grdT (dec0 _)).trans ?_
      rw [Int.toNat_natCast]
      refine (bAt hg _).trans ?_
      refine (grdT rfl).trans ?_
      refine (grdT rfl).trans ?_
      refine (grdT rfl).trans ?_
      refine (grdT rfl).trans ?_
      refine (grdT rfl).trans ?_
      refine (grdT rfl).trans ?_
      refine (grdT rfl).trans ?_
      refine (grdT rfl).trans ?_
      refine (grdT rfl).trans ?_
      refine (rightRule_eq _ rs[i]).trans ?_
      rw [wrap64_s (by omega)]
      cases okR rs[i] with
      | false => rfl
      | true =>
        refine (bifF rfl).trans ?_
        refine Eq.trans ?_ (bifF rfl).symm
        by_cases c : (i : Int) > 0
        · refine (bifT (decide_eq_true c)).trans ?_
          refine Eq.trans ?_ (bifT (decide_eq_true c)).symm
          have e1 : IntKind.wrap .i64 ((i : Int) - 1) = ((i - 1 : Nat) : Int) := by rw [wrap64 (by omega) (by omega)]; omega
          rw [e1]
          refine (grdT (dec0 _)).trans ?_
          rw [Int.toNat_natCast]
          have hi2 : i - 1 < rs.length := by omega
          have hD : rs.getD (i - 1) (0, 0, false, false, false, 0, 0, false, ()) = rs[i - 1] := by rw [List.getD_eq_getElem?_getD, List.getElem?_eq_getElem hi2]; rfl
          rw [hD]
          refine (bAt (c := ruv rs[i - 1]) (by rw [List.getElem?_map, List.getElem?_eq_getElem hi2]; rfl) _).trans ?_
          refine (bAt (c := .int .i64 rs[i - 1].1) rfl _).trans ?_
          exact grdT rfl
        · refine (bifF (decide_eq_false c)).trans ?_
          exact (bifF (decide_eq_false c)).symm
    have step : ∀ K : Bool → Option X, iterV (f7_L1 (fun X => @f20 X k) k K) (kk + 1) (rs.map ruv, (rs.length : Int), (i : Int), id, insts, mk, rs.map ruv) = _ := fun K => (iterV_one _ _ _).trans (round K _)
    cases ho : okR rs[i] with
    | false => exact ⟨false, fun K => by rw [step K, ho]; rfl, fun h => by cases h⟩
    | true =>
      by_cases c : (i : Int) > 0 ∧ (rs.getD (i - 1) (0, 0, false, false, false, 0, 0, false, ())).1 ≥ rs[i].1
      · exact ⟨false, fun K => by rw [step K, ho, decide_eq_true c.1, decide_eq_true c.2]; rfl, fun h => by cases h⟩
      · refine ⟨b, fun K => ?_, fun hb j hj hij => ?_⟩
        · rw [step K, ho]
          refine (bifF rfl).trans ?_
          by_cases c1 : (i : Int) > 0
          · refine (bifT (decide_eq_true c1)).trans ?_
            refine (bifF (decide_eq_false fun h => c ⟨c1, h⟩)).trans ?_
            exact hb1 K
          · refine (bifF (decide_eq_false c1)).trans ?_
            exact hb1 K
        · rcases Nat.eq_or_lt_of_le hij with rfl | h1
          · exact ho
          · exact hb2 hb j hj (by omega)
abbrev Ob := Int × Int × Bool × List Ru × Unit
def obv (o : Ob) : CV := .agg [.int .i64 o.1, .int .i64 o.2.1, .bool o.2.2.1, .slc (some 8) (o.2.2.2.1.map ruv)]
theorem schemaRight_eq {k : Nat} (o : Ob) (hl : o.2.2.2.1.length ≤ 50) (hk : 300 < k) : ∃ b : Bool, (∀ K : Bool → Option X, f7 k K (obv o) = K b) ∧ (b = true → ∀ r ∈ o.2.2.2.1, okR r = true) := by
  obtain ⟨id, insts, mk, rs, u⟩ := o
  dsimp only at hl
  obtain ⟨b, h1, h2⟩ := right_loop (X := X) (k := k) rs id insts mk (by omega) rs.length 0 k (by omega) (by omega)
  have key : ∀ K : Bool → Option X, f7 k K (obv (id, insts, mk, rs, u)) = (bif decide (id < 0) then K false else (bif decide (id > 65534) then K false else (bif decide (insts < 1) then K false else (bif decide (insts > 8) then K false else (bif decide ((rs.length : Int) > 32) then K false else K b))))) := fun K => by
    have h3 := h1 K
    unfold f7 f7_A
    generalize iterV (f7_L1 (fun X => @f20 X k) k K) k = lp at h3 ⊢
    have h4 : lp (rs.map ruv, (rs.length : Int), 0, id, insts, mk, rs.map ruv) = K b := h3
    unfold f7_T
    refine (grdT rfl).trans ?_
    refine (grdT rfl).trans ?_
    refine (grdT rfl).trans ?_
    refine (grdT rfl).trans ?_
    refine (grdT rfl).trans ?_
    rw [← h4, ← List.length_map (f := ruv)]
    rfl
  by_cases c : id < 0 ∨ id > 65534 ∨ insts < 1 ∨ insts > 8 ∨ (rs.length : Int) > 32
  · refine ⟨false, fun K => ?_, fun h => by cases h⟩
    rw [key K]
    by_cases c1 : id < 0
    · exact bifT (decide_eq_true c1)
    refine (bifF (decide_eq_false c1)).trans ?_
    by_cases c2 : id > 65534
    · exact bifT (decide_eq_true c2)
    refine (bifF (decide_eq_false c2)).trans ?_
    by_cases c3 : insts < 1
    · exact bifT (decide_eq_true c3)
    refine (bifF (decide_eq_false c3)).trans ?_
    by_cases c4 : insts > 8
    · exact bifT (decide_eq_true c4)
    refine (bifF (decide_eq_false c4)).trans ?_
    exact bifT (decide_eq_true (by omega))
  · refine ⟨b, fun K => ?_, fun hb r hr => ?_⟩
    · rw [key K]
      refine (bifF (decide_eq_false (by omega))).trans ?_
      refine (bifF (decide_eq_false (by omega))).trans ?_
      refine (bifF (decide_eq_false (by omega))).trans ?_
      refine (bifF (decide_eq_false (by omega))).trans ?_
      exact bifF (decide_eq_false (by omega))
    · obtain ⟨j, hj, rfl⟩ := List.mem_iff_getElem.1 hr
      exact h2 hb j hj (Nat.zero_le _)
theorem sameV_eq {k : Nat} (K : Bool → Option X) (a b : Int) (s : ByteArray) (l : List Int) (hk : l.length < k) (hl : l.length ≤ 1000) : f9 k K a b s (by8 l) 0 0 a b s (by8 l) 0 0 = K true := by
  unfold f9 f9_A f9_T
  refine (bifT (beq_self_eq_true _)).trans ?_
  refine (bifT (beq_self_eq_true _)).trans ?_
  refine (bifT (beq_self_eq_true _)).trans ?_
  refine (same_eq _ l l hk (by omega)).trans ?_
  rw [decide_eq_true rfl]
  rfl
theorem blk_len (kind least : Int) : (blk kind least).2.2.2.length ≤ 200 := by
  have := szB_le least
  unfold blk
  split
  · simp
  · split
    · simp
    · split
      · simp; omega
      · split <;> simp
abbrev BL (k : Nat) (X : Type) (K : Bool → Option X) := f3_L1 (X := X) (fun X => @f6 X k) (fun X => @f7 X k) (fun X => @f8 X k) (fun X => @f10 X k) (fun X => @f9 X k) (fun X => @f11 X k) (fun X => @f12 X k) k K
theorem blanks_loop {k : Nat} (K : Bool → Option X) (rs : List Ru) (b : Bool) (hb : b = true → ∀ r ∈ rs, okR r = true) (hl : rs.length ≤ 1000) (hk : 1000 < k) : ∀ (m i kk : Nat), i + m = rs.length → m < kk → iterV (BL k X K) kk (b, rs.map ruv, (rs.length : Int), (i : Int)) = K true
  | m, i, 0, h, hm => absurd hm (Nat.not_lt_zero _)
  | 0, i, kk + 1, h, hm => by
      refine (iterV_one _ _ _).trans ?_
      unfold BL f3_L1 f3_T1
      exact bifF (decide_eq_false (by show ¬ ((i : Int) < rs.length); omega))
  | m + 1, i, kk + 1, h, hm => by
    have ih := blanks_loop (k := k) K rs b hb hl hk m (i + 1) kk (by omega) (by omega)
    have hi : i < rs.length := by omega
    have hg : (rs.map ruv)[i]? = some (ruv rs[i]) := by rw [List.getElem?_map, List.getElem?_eq_getElem hi]; rfl
    have hok := fun hh => hb hh rs[i] (List.getElem_mem hi)
    refine (iterV_one _ _ _).trans ?_
    generalize iterV (BL k X K) kk = rec at ih ⊢
    unfold BL f3_L1 f3_T1 f3_J1
    dsimp only
    refine (bifT (decide_eq_true (by omega))).trans ?_
    refine (grdT (dec0 _)).trans ?_
    rw [Int.toNat_natCast]
    refine (bAt hg _).trans ?_
    generalize hr : rs[i] = r at hok ⊢
    obtain ⟨id, kind, b1, b2, ex, least, most, b3, u⟩ := r
    refine (grdT rfl).trans ?_
    refine (grdT rfl).trans ?_
    refine (grdT rfl).trans ?_
    refine (grdT rfl).trans ?_
    refine (grdT rfl).trans ?_
    refine (grdT rfl).trans ?_
    refine (grdT rfl).trans ?_
    refine (grdT rfl).trans ?_
    refine (grdT rfl).trans ?_
    rw [wrap64_s (by omega)]
    have hbl := blk_len kind least
    have htk : List.take (blk kind least).2.2.2.length (List.drop 0 (by8 (blk kind least).2.2.2)) = by8 (blk kind least).2.2.2 := by rw [List.drop_zero, take_all _ _ (by rw [by8_length]; exact Nat.le_refl _)]
    refine (blank_eq _ id kind b1 b2 ex b3 least most).trans ?_
    refine (refBlank_eq _ id kind b1 b2 ex b3 least most (by omega)).trans ?_
    dsimp only [bOut]
    rw [htk]
    refine (sameV_eq _ _ _ _ _ (by omega) (by omega)).trans ?_
    refine (bifF rfl).trans ?_
    cases b with
    | false => exact (bifF rfl).trans ih
    | true =>
      refine (bifT rfl).trans ?_
      cases ex with
      | true => exact (bifF rfl).trans ih
      | false =>
        obtain ⟨o1, o2, o3, o4⟩ := okR_spec (hok rfl)
        refine (bifT rfl).trans ?_
        refine (right_eq _ kind least (by omega) o1 o2).trans ?_
        refine (bifF rfl).trans ?_
        refine (fits_eq _ id kind b1 b2 false b3 least most o1 o2 o3 o4).trans ?_
        exact (bifF rfl).trans ih
theorem blanks_eq {k : Nat} (K : Bool → Option X) (o : Ob) (hk : 2000 < k) : f3 k K (obv o) = K true := by
  obtain ⟨id, insts, mk, rs, u⟩ := o
  unfold f3 f3_A
  have hloop := fun b hb hl => blanks_loop (k := k) K rs b hb hl (by omega) rs.length 0 k (by omega)
  unfold BL at hloop
  generalize iterV (f3_L1 (fun X => @f6 X k) (fun X => @f7 X k) (fun X => @f8 X k) (fun X => @f10 X k) (fun X => @f9 X k) (fun X => @f11 X k) (fun X => @f12 X k) k K) k = lp at hloop ⊢
  unfold f3_T
  refine (grdT rfl).trans ?_
  refine (grdT rfl).trans ?_
  refine (grdT rfl).trans ?_
  refine (grdT rfl).trans ?_
  refine (grdT rfl).trans ?_
  refine (alive_eq _ (by omega)).trans ?_
  refine (bifF rfl).trans ?_
  have hlen : ((List.length (CV.toL (CV.cellD 3 (obv (id, insts, mk, rs, u)))) : Nat) : Int) = rs.length := by
    show (((rs.map ruv).length : Nat) : Int) = _
    rw [List.length_map]
  rw [hlen]
  by_cases c : (rs.length : Int) > 50
  · exact bifT (decide_eq_true c)
  refine (bifF (decide_eq_false c)).trans ?_
  obtain ⟨b, h1, h2⟩ := schemaRight_eq (X := X) (k := k) (id, insts, mk, rs, u) (by dsimp only; omega) (by omega)
  refine (h1 _).trans ?_
  exact hloop b h2 (by omega) (by omega)
theorem law_blanks (x0 : Ob) (_ : (Lit.int .i64 x0.1).wf = true ∧ (Lit.int .i64 x0.2.1).wf = true ∧ True ∧ (x0.2.2.2.1.length ≤ maxLen ∧ ∀ x ∈ x0.2.2.2.1, (Lit.int .i64 x.1).wf = true ∧ (Lit.int .i64 x.2.1).wf = true ∧ True ∧ True ∧ True ∧ (Lit.int .i64 x.2.2.2.2.2.1).wf = true ∧ (Lit.int .i64 x.2.2.2.2.2.2.1).wf = true ∧ True ∧ True) ∧ True) :
    ∃ k, ∀ K : Bool → Option Out, f3 k K (.agg [.int .i64 x0.1, .int .i64 x0.2.1, .bool x0.2.2.1, .slc (some 8) (x0.2.2.2.1.map fun r => .agg [.int .i64 r.1, .int .i64 r.2.1, .bool r.2.2.1, .bool r.2.2.2.1, .bool r.2.2.2.2.1, .int .i64 r.2.2.2.2.2.1, .int .i64 r.2.2.2.2.2.2.1, .bool r.2.2.2.2.2.2.2.1])]) = K true := ⟨2001, fun K => blanks_eq K x0 (by omega)⟩
end
end Go.Proofs.YtoijlllboghpcaaD
