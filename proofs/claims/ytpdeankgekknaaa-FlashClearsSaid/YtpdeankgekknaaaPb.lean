/- A flash: what each method answers and makes of it, in plain words. -/
import Derived.Test.YtpdeankgekknaaaPa
namespace Go.Proofs.YtpdeankgekknaaaD
open Go Go.Proofs.YtpdeankgekknaaaS Go.Proofs
set_option linter.unusedVariables false
set_option linter.unusedSimpArgs false
section
variable {X : Type}
/-- A flash, as the methods hand it on. -/
def fl (B : List Int) (sec : Int) (W : List Int) (t : Nat) (l : Int) (d : Bool) : Nat × Int × Nat × Int × Int × Bool × List CV × List CV := (B.length, sec, W.length, (t : Int), l, d, by8 B, by64 W)
theorem t8 (B : List Int) : List.take (0 + B.length) (by8 B) = by8 B := take_all _ _ (by simp [by8_length])
theorem t64 (B : List Int) : List.take (0 + B.length) (by64 B) = by64 B := take_all _ _ (by simp [by64_length])
def wiB (L : Nat) (at_ n : Int) : Bool := decide (0 ≤ at_ ∧ 0 ≤ n ∧ at_ ≤ L ∧ n ≤ L - at_)
theorem within_eq {k : Nat} (K : Bool × Nat × Int × Nat × Int × Int × Bool × List CV × List CV → Option X) (at_ n sec l : Int) (B W : List Int) (t : Nat) (d : Bool) (hB : B.length ≤ 300000) :
    f25 k K at_ n B.length sec W.length t l d (by8 B) (by64 W) = K (wiB B.length at_ n, fl B sec W t l d) := by
  unfold f25 f25_A f25_T
  simp only [t8, t64]
  by_cases h1 : at_ ≥ 0
  · rw [decide_eq_true h1]
    simp only [cond_true]
    by_cases h2 : n ≥ 0
    · rw [decide_eq_true h2]
      simp only [cond_true]
      by_cases h3 : at_ ≤ (B.length : Int)
      · rw [decide_eq_true h3]
        simp only [cond_true]
        rw [wrap64 (by omega) (by omega)]
        refine congrArg K (Prod.ext ?_ rfl)
        exact decide_eq_decide.2 ⟨fun h => ⟨h1, h2, h3, h⟩, fun h => h.2.2.2⟩
      · rw [decide_eq_false h3]
        refine congrArg K (Prod.ext ?_ rfl)
        exact (decide_eq_false fun h => h3 h.2.2.1).symm
    · rw [decide_eq_false h2]
      refine congrArg K (Prod.ext ?_ rfl)
      exact (decide_eq_false fun h => h2 h.2.1).symm
  · rw [decide_eq_false h1]
    refine congrArg K (Prod.ext ?_ rfl)
    exact (decide_eq_false fun h => h1 h.1).symm
/-- What is read. -/
def rdE (B : List Int) (d : Bool) (at_ n : Int) : Int := if d = true then 30 else if wiB B.length at_ n = true then 0 else 1
def rdV (B : List Int) (d : Bool) (at_ n : Int) : List Int := if rdE B d at_ n = 0 then (B.drop at_.toNat).take n.toNat else []
theorem read_eq {k : Nat} (K : Nat × Int × Nat × Int × Nat × Int × Int × Bool × List CV × List CV × List CV → Option X) (at_ n sec l : Int) (B W : List Int) (t : Nat) (d : Bool) (hB : B.length ≤ 300000) :
    f9 k K at_ n B.length sec W.length t l d (by8 B) (by64 W) = K ((rdV B d at_ n).length, rdE B d at_ n, B.length, sec, W.length, (t : Int), l, d, by8 B, by64 W, by8 (rdV B d at_ n)) := by
  unfold f9 f9_A f9_T
  simp only [t8, t64]
  cases d with
  | true => rfl
  | false =>
    simp only [cond_false]
    rw [within_eq _ _ _ _ _ _ _ _ _ hB]
    cases h : wiB B.length at_ n with
    | false =>
      have e : rdE B false at_ n = 1 := by simp [rdE, h]
      simp only [fl, Bool.not_false, cond_true, t8, t64, rdV, e]
      rfl
    | true =>
      have e : rdE B false at_ n = 0 := by simp [rdE, h]
      obtain ⟨h1, h2, h3, h4⟩ := of_decide_eq_true h
      simp only [fl, Bool.not_true, cond_false, t8, t64, rdV, e, if_true, by8_length]
      rw [wrap64 (by omega) (by omega)]
      refine (grdT (decide_eq_true (by omega))).trans ?_
      refine (grdT (decide_eq_true (by omega))).trans ?_
      refine (grdT (decide_eq_true (by omega))).trans ?_
      have e3 : List.take ((at_ + n).toNat - at_.toNat) (List.drop (0 + at_.toNat) (by8 B)) = by8 ((B.drop at_.toNat).take n.toNat) := by
        rw [by8_take, by8_drop, Nat.zero_add]
        congr 1; omega
      rw [e3]
      have hy : ((B.drop at_.toNat).take n.toNat).length ≤ 300000 := by rw [List.length_take, List.length_drop]; omega
      generalize (B.drop at_.toNat).take n.toNat = ys at hy ⊢
      refine (clone_eq _ _ (by rw [by8_length]; omega)).trans ?_
      simp only [by8_length, t8]
theorem size_eq {k : Nat} (K : Int × Nat × Int × Nat × Int × Int × Bool × List CV × List CV → Option X) (sec l : Int) (B W : List Int) (t : Nat) (d : Bool) : f10 k K B.length sec W.length t l d (by8 B) (by64 W) = K ((B.length : Int), fl B sec W t l d) := by
  unfold f10 f10_A f10_T
  simp only [t8, t64]; rfl
theorem sector_eq {k : Nat} (K : Int × Nat × Int × Nat × Int × Int × Bool × List CV × List CV → Option X) (sec l : Int) (B W : List Int) (t : Nat) (d : Bool) : f11 k K B.length sec W.length t l d (by8 B) (by64 W) = K (sec, fl B sec W t l d) := by
  unfold f11 f11_A f11_T
  simp only [t8, t64]; rfl
theorem turned_eq {k : Nat} (K : Int × Nat × Int × Nat × Int × Int × Bool × List CV × List CV → Option X) (sec l : Int) (B W : List Int) (t : Nat) (d : Bool) : f19 k K B.length sec W.length t l d (by8 B) (by64 W) = K ((t : Int), fl B sec W t l d) := by
  unfold f19 f19_A f19_T
  simp only [t8, t64]; rfl
theorem down_eq {k : Nat} (K : Bool × Nat × Int × Nat × Int × Int × Bool × List CV × List CV → Option X) (sec l : Int) (B W : List Int) (t : Nat) (d : Bool) : f22 k K B.length sec W.length t l d (by8 B) (by64 W) = K (d, fl B sec W t l d) := by
  unfold f22 f22_A f22_T
  simp only [t8, t64]; rfl
theorem image_eq {k : Nat} (K : Nat × Nat × Int × Nat × Int × Int × Bool × List CV × List CV × List CV → Option X) (sec l : Int) (B W : List Int) (t : Nat) (d : Bool) (hB : B.length ≤ 300000) : f14 k K B.length sec W.length t l d (by8 B) (by64 W) = K (B.length, B.length, sec, W.length, (t : Int), l, d, by8 B, by64 W, by8 B) := by
  unfold f14 f14_A f14_T
  simp only [List.drop_zero]
  rw [take_all (by8 B) B.length (by simp [by8_length])]
  refine (clone_eq _ _ (by rw [by8_length]; omega)).trans ?_
  simp only [t8, t64, by8_length]
/-- Bytes are laid over others. -/
def over (B : List Int) (a : Nat) (xs : List Int) : List Int := B.take a ++ xs ++ B.drop (a + xs.length)
theorem over_len {B : List Int} {a : Nat} {xs : List Int} (h : a + xs.length ≤ B.length) : (over B a xs).length = B.length := by simp [over]; omega
theorem over_set {B : List Int} {a : Nat} {xs : List Int} {x : Int} (h : a + xs.length < B.length) : (over B a xs).set (a + xs.length) x = over B a (xs ++ [x]) := by
  unfold over
  have hl : (B.take a ++ xs).length = a + xs.length := by simp; omega
  rw [List.set_append_right _ _ (by rw [hl]; exact Nat.le_refl _), hl, Nat.sub_self, List.drop_eq_getElem_cons h, List.set_cons_zero]
  simp [List.append_assoc, Nat.add_assoc]
def tmin (t j : Nat) : Nat := min (t + j) 1073741824
theorem min_one (t i m : Nat) : min (min (t + i) m + 1) m = min (t + (i + 1)) m := by omega
theorem tmin_one (t i : Nat) : tmin (tmin t i) 1 = tmin t (i + 1) := min_one t i 1073741824
/-- How many bytes are turned, of so many that are asked. -/
def goes (l : Int) (n : Nat) : Nat := if l < 0 then n else min n l.toNat
def leftL (l : Int) (n : Nat) : Int := if l < 0 then l else l - (goes l n : Nat)
theorem turn_eq {k : Nat} (K : Bool × Nat × Int × Nat × Int × Int × Bool × List CV × List CV → Option X) (a : Nat) (x sec l : Int) (B W : List Int) (t : Nat) (d : Bool) (ha : a < B.length) (ht : t ≤ 1073741824) (hl : l < 9223372036854775808) :
    f27 k K (a : Int) x B.length sec W.length t l d (by8 B) (by64 W) = if l = 0 then K (false, fl B sec W t l true) else K (true, fl (B.set a x) sec W (tmin t 1) (if l < 0 then l else l - 1) d) := by
  unfold f27 f27_A f27_T
  simp only [t8, t64]
  have J : ∀ l' : Int, f27_J1 k K (a : Int) (x, B.length, sec, W.length, (t : Int), l', d, by8 B, by64 W) = K (true, fl (B.set a x) sec W (tmin t 1) l' d) := fun l' => by
    unfold f27_J1
    simp only [dec0, grd_true, Int.toNat_natCast, Nat.zero_add, by8_length, by8_set]
    refine (grdT (decide_eq_true (by omega))).trans ?_
    refine (grdT (decide_eq_true (by omega))).trans ?_
    have e1 : (if 1073741824 < IntKind.wrap .i64 ((t : Int) + 1) then 1073741824 else IntKind.wrap .i64 ((t : Int) + 1)) = ((tmin t 1 : Nat) : Int) := by
      rw [wrap64 (by omega) (by omega)]
      unfold tmin
      split <;> omega
    rw [e1, take_all (by8 (B.set a x)) _ (by simp [by8_length]), take_all (by64 W) _ (by simp [by64_length])]
    simp only [fl, List.length_set]
  by_cases h0 : l = 0
  · rw [if_pos h0, h0]; rfl
  · rw [if_neg h0]
    refine (bifF (beq_f h0)).trans ?_
    by_cases hp : l > 0
    · rw [decide_eq_true hp]
      simp only [cond_true]
      rw [wrap64 (by omega) (by omega), J, if_neg (by omega)]
    · rw [decide_eq_false hp]
      simp only [cond_false]
      rw [J, if_pos (by omega)]
/-- What an erase, or a program, leaves: as far as the power goes. -/
def endR (B : List Int) (a : Nat) (ys : List Int) (sec : Int) (W : List Int) (t : Nat) (l : Int) : Int × Nat × Int × Nat × Int × Int × Bool × List CV × List CV :=
  if goes l ys.length < ys.length then (30, fl (over B a (ys.take (goes l ys.length))) sec W (tmin t (goes l ys.length)) 0 true) else (0, fl (over B a ys) sec W (tmin t ys.length) (leftL l ys.length) false)
theorem erase_loop {k0 : Nat} (K : Int × Nat × Int × Nat × Int × Int × Bool × List CV × List CV → Option X) (B W : List Int) (s z : Nat) (hz : s * z + z ≤ B.length) (hB : B.length ≤ 300000) (t : Nat) (ht : t ≤ 1073741824) (l : Int) (hl : l < 9223372036854775808) :
    ∀ (k i : Nat), z - i < k → i ≤ z → i ≤ goes l z → iterV (f12_L1 (fun X => @f27 X k0) k0 K) k ((s : Int), (z : Int), (i : Int), (over B (s * z) (List.replicate i 255)).length, (z : Int), W.length, ((tmin t i : Nat) : Int), (if l < 0 then l else l - i), false, by8 (over B (s * z) (List.replicate i 255)), by64 W) = K (endR B (s * z) (List.replicate z 255) z W t l)
  | 0, i, h, _, _ => by omega
  | k + 1, i, h, hi, hg => by
    have ih := fun i h1 h2 h3 => erase_loop (k0 := k0) K B W s z hz hB t ht l hl k i h1 h2 h3
    show f12_L1 _ k0 K (iterV (f12_L1 (fun X => @f27 X k0) k0 K) k) _ = _
    generalize iterV (f12_L1 (fun X => @f27 X k0) k0 K) k = rc at ih ⊢
    unfold f12_L1 f12_T1
    have hol : (over B (s * z) (List.replicate i 255)).length = B.length := over_len (by simp; omega)
    have htm : tmin t i ≤ 1073741824 := Nat.min_le_right _ _
    by_cases hlt : i < z
    · simp only [decLt, decide_eq_true hlt, cond_true]
      have hm : s * z ≤ 300000 := by omega
      have e1 : IntKind.wrap .i64 (IntKind.wrap .i64 ((s : Int) * (z : Int)) + (i : Int)) = ((s * z + i : Nat) : Int) := by
        have e : (s : Int) * (z : Int) = ((s * z : Nat) : Int) := by simp
        rw [e, wrap64N (by omega), wrap64 (by omega) (by omega)]; simp
      rw [e1]
      refine (turn_eq _ (s * z + i) 255 _ _ _ W (tmin t i) false (by omega) htm (by split <;> omega)).trans ?_
      by_cases h0 : (if l < 0 then l else l - (i : Int)) = 0
      · rw [if_pos h0]
        have hl0 : ¬ l < 0 := fun e => by rw [if_pos e] at h0; omega
        rw [if_neg hl0] at h0
        have hgo : goes l z = i := by unfold goes; rw [if_neg hl0]; omega
        simp only [fl, Bool.not_false, cond_true, t8, t64]
        unfold endR
        rw [List.length_replicate, hgo, if_pos hlt, List.take_replicate, Nat.min_eq_left hi, if_neg hl0, h0]
        rfl
      · rw [if_neg h0]
        simp only [fl, Bool.not_true, cond_false]
        have hset : (over B (s * z) (List.replicate i 255)).set (s * z + i) 255 = over B (s * z) (List.replicate (i + 1) 255) := by
          have := over_set (B := B) (a := s * z) (xs := List.replicate i 255) (x := 255) (by simp; omega)
          rw [List.length_replicate] at this
          rw [this, List.replicate_succ' ]
        rw [hset]
        have hg2 : i + 1 ≤ goes l z := by
          unfold goes at hg ⊢
          by_cases hl0 : l < 0
          · rw [if_pos hl0]; omega
          · rw [if_neg hl0] at h0 hg ⊢; omega
        rw [← ih (i + 1) (by omega) (by omega) hg2]
        refine congrArg rc (Prod.ext rfl (Prod.ext rfl (Prod.ext ?_ (Prod.ext rfl (Prod.ext rfl (Prod.ext rfl (Prod.ext ?_ (Prod.ext ?_ rfl))))))))
        · exact wrap64_s (by omega)
        · exact congrArg (fun n : Nat => (n : Int)) (tmin_one t i)
        · show (if (if l < 0 then l else l - (i : Int)) < 0 then (if l < 0 then l else l - (i : Int)) else (if l < 0 then l else l - (i : Int)) - 1) = if l < 0 then l else l - ((i + 1 : Nat) : Int)
          by_cases hl0 : l < 0
          · simp only [if_pos hl0]
          · simp only [if_neg hl0] at h0 ⊢
            have : (i : Int) ≤ l := by unfold goes at hg2; rw [if_neg hl0] at hg2; omega
            rw [if_neg (by omega)]; omega
    · have hie : i = z := by omega
      subst hie
      simp only [decLt, Nat.lt_irrefl, decide_false, cond_false, t8, t64]
      have hgo : goes l i = i := by
        have : goes l i ≤ i := by unfold goes; split <;> omega
        omega
      unfold endR
      rw [List.length_replicate, hgo, if_neg (Nat.lt_irrefl _)]
      refine congrArg K (Prod.ext rfl (Prod.ext rfl (Prod.ext rfl (Prod.ext rfl (Prod.ext rfl (Prod.ext ?_ rfl))))))
      show (if l < 0 then l else l - (i : Int)) = leftL l i
      unfold leftL
      rw [hgo]
def wmin (x : Int) : Int := if 1073741824 < IntKind.wrap .i64 (x + 1) then 1073741824 else IntKind.wrap .i64 (x + 1)
theorem erase_eq {k : Nat} (K : Int × Nat × Int × Nat × Int × Int × Bool × List CV × List CV → Option X) (hk : 300000 < k) (s l : Int) (B W : List Int) (z t : Nat) (hz : W.length * z = B.length) (hB : B.length ≤ 262144) (hzz : z ≤ 4096) (ht : t ≤ 1073741824) (hl : l < 9223372036854775808) :
    f12 k K s B.length z W.length t l false (by8 B) (by64 W) = if s < 0 ∨ s ≥ W.length then K (1, fl B z W t l false) else K (endR B (s.toNat * z) (List.replicate z 255) z (W.set s.toNat (wmin (W.getD s.toNat 0))) t l) := by
  unfold f12 f12_A f12_T
  simp only [t8, t64, cond_false, bif_dec]
  by_cases h1 : s < 0
  · rw [if_pos h1, if_pos (Or.inl h1)]; rfl
  rw [if_neg h1]
  by_cases h2 : s ≥ (W.length : Int)
  · rw [if_pos h2, if_pos (Or.inr h2)]; rfl
  rw [if_neg h2, if_neg (fun e => e.elim h1 h2)]
  obtain ⟨s, rfl⟩ : ∃ n : Nat, s = n := ⟨s.toNat, by omega⟩
  have hs : s < W.length := by omega
  have hg : (by64 W)[s]? = some (.int .i64 W[s]) := by simp [by64, List.getElem?_eq_getElem hs]
  have hset : ∀ x, (by64 W).set s (CV.int .i64 x) = by64 (W.set s x) := fun x => by simp [by64, List.map_set]
  simp only [dec0, grd_true, Int.toNat_natCast, Nat.zero_add, decLt, hs, decide_true, hg, Option.bind_some, isI_int, toI_int, by64_length, hset]
  have hD : W.getD s 0 = W[s] := by simp [List.getD, List.getElem?_eq_getElem hs]
  rw [hD]
  have hmul : s * z + z ≤ B.length := by
    have : (s + 1) * z ≤ W.length * z := Nat.mul_le_mul_right _ hs
    rw [Nat.succ_mul] at this
    omega
  have := erase_loop (k0 := k) K B (W.set s (wmin W[s])) s z hmul (by omega) t ht l hl k 0 (by omega) (by omega) (Nat.zero_le _)
  refine Eq.trans ?_ this
  refine congrArg _ (Prod.ext rfl (Prod.ext rfl (Prod.ext rfl (Prod.ext ?_ (Prod.ext rfl (Prod.ext ?_ (Prod.ext ?_ (Prod.ext ?_ (Prod.ext rfl (Prod.ext ?_ rfl))))))))))
  · show B.length = (over B (s * z) (List.replicate 0 255)).length
    rw [over_len (by simp; omega)]
  · show W.length = (W.set s (wmin W[s])).length
    simp
  · show (t : Int) = ((tmin t 0 : Nat) : Int)
    unfold tmin; omega
  · show l = if l < 0 then l else l - ((0 : Nat) : Int)
    split <;> omega
  · show by8 B = by8 (over B (s * z) (List.replicate 0 255))
    simp [over]
theorem alive_eq {k : Nat} (K : Bool → Option X) (hk : 400000 < k) : f7 k K = K true := by
  unfold f7 f7_A f7_T
  refine (new_eq _ hk 2 16).trans ?_
  obtain ⟨k, rfl⟩ : ∃ j, k = j + 50 := ⟨k - 50, by omega⟩
  clear hk
  kernel_rfl
end
end Go.Proofs.YtpdeankgekknaaaD
