/- A body in blocks, and put together: what each function of the program and of the document answers, in plain words. -/
import Derived.Test.YtidniahglagllaaPa
import Derived.Test.YtidniahglagllaaLJoin
namespace Go.Proofs.YtidniahglagllaaD
open Go Go.Proofs.YtidniahglagllaaS Go.Proofs
set_option linter.unusedVariables false
set_option linter.unusedSimpArgs false
section
variable {X : Type}
/-- What of a body lies in a block. -/
def part (body : List Int) (n z : Int) : List Int := (body.drop (n.toNat * z.toNat)).take z.toNat
def ct (body : List Int) (n z : Int) : Nat × Bool × Bool × List CV :=
  if Rt n z ∧ (n.toNat * z.toNat < body.length ∨ n = 0) then ((part body n z).length, decide (n.toNat * z.toNat + z.toNat < body.length), true, by8 (part body n z)) else (0, false, false, [])
theorem sz {s : Nat} (h : s ≤ 6) : 16 ≤ 16 * 2 ^ s ∧ 16 * 2 ^ s ≤ 1024 := by
  match s, h with
  | 0, _ => decide
  | 1, _ => decide
  | 2, _ => decide
  | 3, _ => decide
  | 4, _ => decide
  | 5, _ => decide
  | 6, _ => decide
theorem mulb {N Z : Nat} (h : N < 1048576) (h2 : Z ≤ 1024) : N * Z < 1073741825 := by
  have : N * Z ≤ 1048576 * 1024 := Nat.mul_le_mul (by omega) h2
  omega
theorem wmul {N Z : Nat} (h : N < 1048576) (h2 : Z ≤ 1024) : IntKind.wrap .i64 ((N : Int) * (Z : Int)) = ((N * Z : Nat) : Int) := by
  have := mulb h h2
  have e : (N : Int) * (Z : Int) = ((N * Z : Nat) : Int) := by simp
  rw [e]
  exact wrap64N (by omega)
theorem cut_eq {k : Nat} (K : Nat × Bool × Bool × List CV → Option X) (hk : 100 < k) (body : List Int) (hb : body.length ≤ 100000) (n z : Int) : f13 k K (by8 body) n z = K (ct body n z) := by
  unfold f13 f13_A f13_T
  refine (right_eq _ hk _ _).trans ?_
  unfold ct
  by_cases h : Rt n z
  · obtain ⟨N, s, rfl, hN, hs, rfl, hp⟩ := h.of
    obtain ⟨z1, z2⟩ := sz hs
    rw [decide_eq_true h]
    generalize hZ : 16 * 2 ^ s = Z at h z1 z2 hp ⊢
    have hm := mulb hN z2
    simp only [Bool.not_true, cond_false, wmul hN z2, Int.toNat_natCast]
    have J : (N * Z < body.length ∨ (N : Int) = 0) → f13_J1 (fun X => @f22 X k) (fun X => @f30 X k) k K (by8 body) (N : Int) (Z : Int) () = K ((part body N Z).length, decide (N * Z + Z < body.length), true, by8 (part body N Z)) := fun hc => by
      have hle : N * Z ≤ body.length := by
        rcases hc with hc | hc
        · omega
        · have : N = 0 := by omega
          subst this; simp
      unfold f13_J1
      have e1 : IntKind.wrap .i64 (((N * Z : Nat) : Int) + (Z : Int)) = ((N * Z + Z : Nat) : Int) := by rw [wrap64 (by omega) (by omega)]; simp
      have e2 : (if ((N * Z + Z : Nat) : Int) < ((by8 body).length : Int) then ((N * Z + Z : Nat) : Int) else ((by8 body).length : Int)) = ((min (N * Z + Z) body.length : Nat) : Int) := by
        rw [by8_length]
        split <;> omega
      simp only [wmul hN z2, e1, e2, dec0, grd_true, Int.toNat_natCast]
      refine (grdT (decide_eq_true (by omega))).trans ?_
      refine (grdT (decide_eq_true (by rw [by8_length]; omega))).trans ?_
      have e3 : List.take (min (N * Z + Z) body.length - N * Z) (List.drop (N * Z) (by8 body)) = by8 (part body N Z) := by
        unfold part
        rw [by8_take, by8_drop]
        simp only [Int.toNat_natCast]
        by_cases c : N * Z + Z ≤ body.length
        · congr 1; omega
        · rw [take_all _ _ (by simp [by8_length]; omega), take_all _ _ (by simp [by8_length]; omega)]
      rw [e3]
      refine (clone_eq _ _ (by rw [by8_length]; unfold part; simp; omega)).trans ?_
      simp only [by8_length, Nat.zero_add]
      rw [take_all _ _ (by rw [by8_length]; exact Nat.le_refl _)]
      congr 2
      congr 1
      rw [decide_eq_decide]; omega
    by_cases hc : N * Z < body.length ∨ (N : Int) = 0
    · rw [if_pos ⟨h, hc⟩]
      rw [J hc]
      rcases hc with hc | hc
      · rw [decide_eq_false (by rw [by8_length]; omega)]; rfl
      · have hz : decide ((N : Int) > 0) = false := decide_eq_false (by omega)
        rw [hz]
        simp only [cond_false, bif_dec]
        split <;> rfl
    · rw [if_neg (fun e => hc e.2)]
      refine (bifT (decide_eq_true (by rw [by8_length]; omega))).trans ?_
      exact bifT (decide_eq_true (by omega))
  · rw [decide_eq_false h, if_neg (fun e => h e.1)]
    rfl
theorem refCut_eq {k : Nat} (K : Nat × Bool × Bool × List CV → Option X) (hk : 2000 < k) (body : List Int) (hb : body.length ≤ 100000) (n z : Int) : f14 k K (by8 body) n z = K (ct body n z) := by
  unfold f14 f14_A f14_T
  refine (refRight_eq _ (by omega) _ _).trans ?_
  unfold ct
  by_cases h : Rt n z
  · obtain ⟨N, s, rfl, hN, hs, rfl, hp⟩ := h.of
    obtain ⟨z1, z2⟩ := sz hs
    rw [decide_eq_true h]
    generalize hZ : 16 * 2 ^ s = Z at h z1 z2 hp ⊢
    have hm := mulb hN z2
    have e1 : IntKind.wrap .i64 (((N * Z : Nat) : Int) + (Z : Int)) = ((N * Z + Z : Nat) : Int) := by rw [wrap64 (by omega) (by omega)]; simp
    simp only [Bool.not_true, cond_false, wmul hN z2, Int.toNat_natCast]
    have hpl : (part body N Z).length = min Z (body.length - N * Z) := by unfold part; simp
    have key := iterV_spec (T := f14_L1 (fun X => @f25 X k) k K) (fun i => (by8 body, (N : Int), (Z : Int), i, ((N * Z + i : Nat) : Int), by8 ((part body N Z).take i))) (fun _ => if Rt (N : Int) (Z : Int) ∧ (N * Z < body.length ∨ (N : Int) = 0) then K ((part body N Z).length, decide (N * Z + Z < body.length), true, by8 (part body N Z)) else K (0, false, false, [])) (part body N Z).length (fun i rec hi hr => by
      unfold f14_L1 f14_T1
      have g : body[N * Z + i]? = some (part body N Z)[i] := by
        rw [← List.getElem?_eq_getElem hi]
        unfold part
        simp only [Int.toNat_natCast]
        rw [List.getElem?_take_of_lt (by omega), List.getElem?_drop]
      simp only [wmul hN z2, e1, by8_length]
      refine (bifT (decide_eq_true (by omega))).trans ?_
      refine (bifT (decide_eq_true (by omega))).trans ?_
      refine (grdT (decide_eq_true (by omega))).trans ?_
      simp only [Int.toNat_natCast, by8_get, g, Option.map_some, Option.bind_some, isI_int, toI_int, grd_true]
      have e2 : List.take 1 (List.drop 0 [CV.int IntKind.u8 (part body N Z)[i]]) = by8 [(part body N Z)[i]] := rfl
      have e3 : List.take i (by8 (List.take i (part body N Z))) = by8 (List.take i (part body N Z)) := take_all _ _ (by simp [by8_length]; omega)
      refine (grdT (decide_eq_true (by simp; omega))).trans ?_
      rw [← hr]
      refine congrArg rec (Prod.ext rfl (Prod.ext rfl (Prod.ext rfl (Prod.ext ?_ (Prod.ext ?_ ?_)))))
      · rfl
      rotate_left
      · show List.take i (by8 (List.take i (part body N Z))) ++ List.take 1 (List.drop 0 [CV.int IntKind.u8 (part body N Z)[i]]) = by8 (List.take (i + 1) (part body N Z))
        rw [e2, e3, ← by8_append, List.take_append_getElem hi]
      · show IntKind.wrap .i64 (((N * Z + i : Nat) : Int) + 1) = ((N * Z + (i + 1) : Nat) : Int)
        rw [wrap64_s (by omega)]
        congr 1) (fun rec => by
      unfold f14_L1 f14_T1 f14_J1 f14_J2
      simp only [wmul hN z2, e1, by8_length, List.take_length, Nat.zero_add, bif_dec]
      rw [take_all (by8 (part body N Z)) _ (by rw [by8_length]; exact Nat.le_refl _)]
      have hin : ∀ (A : Option X), (if ((N * Z + (part body N Z).length : Nat) : Int) < ((N * Z + Z : Nat) : Int) then (if ((N * Z + (part body N Z).length : Nat) : Int) < (body.length : Int) then none else A) else A) = A := fun A => by
        split
        · rw [if_neg (by omega)]
        · rfl
      have hd : decide (((N * Z + Z : Nat) : Int) < (body.length : Int)) = decide (N * Z + Z < body.length) := decLt _ _
      rw [hd]
      by_cases hc : N * Z < body.length ∨ (N : Int) = 0
      · rw [if_pos (show _ ∧ _ from ⟨h, hc⟩)]
        by_cases h0 : (part body N Z).length = 0
        · have hN0 : ¬ (N : Int) > 0 := by
            rcases hc with hc | hc <;> omega
          rw [show (((part body N Z).length : Int) == 0) = true by simp [h0]]
          simp only [cond_true, if_neg hN0]
          split
          · rw [if_neg (by omega)]
          · rfl
        · rw [show (((part body N Z).length : Int) == 0) = false from beq_f (by omega)]
          simp only [cond_false]
          split
          · rw [if_neg (by omega)]
          · rfl
      · rw [if_neg (show ¬ (Rt (N : Int) (Z : Int) ∧ (N * Z < body.length ∨ (N : Int) = 0)) from fun e => hc e.2)]
        have h0 : (part body N Z).length = 0 := by omega
        have hN0 : (N : Int) > 0 := by omega
        rw [show (((part body N Z).length : Int) == 0) = true by simp [h0]]
        simp only [cond_true, if_pos hN0]
        split
        · rw [if_neg (by omega)]; rfl
        · rfl) k 0 (Nat.zero_le _) (by omega)
    refine Eq.trans ?_ (key.trans ?_)
    · rfl
    · split <;> rfl
  · rw [decide_eq_false h, if_neg (fun e => h e.1)]
    rfl
end
end Go.Proofs.YtidniahglagllaaD
