/- Digits: Hex and Parse, the program's and the document's. -/
import Derived.Test.YtlaojkheenobaaaDoorW1
import Derived.Laws.RangeAny
namespace Go.Proofs.YtlaojkheenobaaaDoorD
open Go Go.Proofs.YtlaojkheenobaaaDoorS Go.Proofs
set_option linter.unusedVariables false
set_option linter.unusedSimpArgs false
section
variable {X : Type}
theorem wrap32 {n : Int} (h0 : -2147483648 ≤ n) (h1 : n < 2147483648) : IntKind.wrap .i32 n = n := by
  simp only [IntKind.wrap, IntKind.bits, IntKind.signed]
  simp
  omega
/-- A digit's number. -/
def dv (c : Int) : Int × Bool :=
  if 48 ≤ c ∧ c ≤ 57 then (c - 48, true) else if 97 ≤ c ∧ c ≤ 102 then (c - 87, true) else if 65 ≤ c ∧ c ≤ 70 then (c - 55, true) else (0, false)
theorem dv_num {c : Int} (h : 48 ≤ c ∧ c ≤ 57) : dv c = (c - 48, true) := if_pos h
theorem dv_low {c : Int} (h : 97 ≤ c ∧ c ≤ 102) : dv c = (c - 87, true) := by unfold dv; rw [if_neg (by omega), if_pos h]
theorem dv_up {c : Int} (h : 65 ≤ c ∧ c ≤ 70) : dv c = (c - 55, true) := by unfold dv; rw [if_neg (by omega), if_neg (by omega), if_pos h]
theorem dv_no {c : Int} (h1 : ¬ (48 ≤ c ∧ c ≤ 57)) (h2 : ¬ (97 ≤ c ∧ c ≤ 102)) (h3 : ¬ (65 ≤ c ∧ c ≤ 70)) : dv c = (0, false) := by unfold dv; rw [if_neg h1, if_neg h2, if_neg h3]
theorem dv_lt (c : Int) : 0 ≤ (dv c).1 ∧ (dv c).1 < 16 := by
  unfold dv
  split
  · simp only; omega
  · split
    · simp only; omega
    · split
      · simp only; omega
      · simp
theorem digit_eq {k : Nat} (K : Int × Bool → Option X) (c : Int) : f28 k K c = K (dv c) := by
  unfold f28 f28_A f28_T f28_J1
  simp only [bif_dec]
  by_cases h1 : 48 ≤ c ∧ c ≤ 57
  · have e : IntKind.wrap .u8 (IntKind.wrap .i32 (c - 48)) = c - 48 := by rw [wrap32 (by omega) (by omega), wrapU8]; omega
    rw [dv_num h1, if_pos (show c ≥ 48 from h1.1), if_pos h1.2, e]
  by_cases h2 : 97 ≤ c ∧ c ≤ 102
  · have e : IntKind.wrap .u8 (IntKind.wrap .u8 (IntKind.wrap .i32 (c - 97)) + 10) = c - 87 := by rw [wrap32 (by omega) (by omega), wrapU8, wrapU8]; omega
    rw [dv_low h2, if_pos (show c ≥ 48 by omega), if_neg (show ¬ c ≤ 57 by omega), if_pos (show c ≥ 97 from h2.1), if_pos h2.2, e]
  by_cases h3 : 65 ≤ c ∧ c ≤ 70
  · have e : IntKind.wrap .u8 (IntKind.wrap .u8 (IntKind.wrap .i32 (c - 65)) + 10) = c - 55 := by rw [wrap32 (by omega) (by omega), wrapU8, wrapU8]; omega
    rw [dv_up h3, if_pos (show c ≥ 48 by omega), if_neg (show ¬ c ≤ 57 by omega), if_neg (show ¬ c ≥ 97 by omega), if_pos (show c ≥ 65 from h3.1), if_pos h3.2, e]
  rw [dv_no h1 h2 h3]
  repeat (first | rfl | (split <;> try omega))
def zer : List Int := List.replicate 32 0
theorem zer8 : List.replicate 32 (CV.int .u8 0) = by8 zer := by simp [zer, by8]
/-- A text's byte. -/
def byt (s : ByteArray) (i : Nat) : Int := ((s.data[i]?).map fun b => (b.toNat : Int)).getD 0
/-- Digits, two by two. -/
def pgo (s : ByteArray) : Nat → Nat → List Int → List Int × Int
  | 0, _, out => (out, 0)
  | n + 1, i, out => if (dv (byt s i)).2 then pgo s n (i + 1) (out.set (i / 2) (out.getD (i / 2) 0 * 16 % 256 + (dv (byt s i)).1)) else (zer, 20)
def parseR (s : ByteArray) : List Int × Int := if s.size = 64 then pgo s 64 0 zer else (zer, 20)
theorem bop_or8 {a b : Nat} (ha : a < 256) (hb : b < 256) : bop .or .u8 (a : Int) (b : Int) = ((a ||| b : Nat) : Int) := by
  show IntKind.wrap .u8 (((BitVec.ofInt 8 (a : Int) ||| BitVec.ofInt 8 (b : Int)).toNat : Nat) : Int) = _
  rw [BitVec.toNat_or, ofInt_toNat, ofInt_toNat, Nat.mod_eq_of_lt (by omega), Nat.mod_eq_of_lt (by omega), wrapU8]
  have := Nat.or_lt_two_pow (n := 8) ha hb
  omega
theorem or_nib {e v : Int} (he : 0 ≤ e ∧ e < 256) (hv : 0 ≤ v ∧ v < 16) : bop .or .u8 (IntKind.wrap .u8 (e * 2 ^ 4)) v = e * 16 % 256 + v := by
  obtain ⟨v, rfl⟩ := Int.eq_ofNat_of_zero_le hv.1
  obtain ⟨e, rfl⟩ := Int.eq_ofNat_of_zero_le he.1
  have e1 : IntKind.wrap .u8 ((e : Int) * 2 ^ 4) = ((e % 16 * 2 ^ 4 : Nat) : Int) := by rw [wrapU8]; omega
  rw [e1, bop_or8 (by omega) (by omega), or_add (a := e % 16) (b := v) (n := 4) (by omega)]
  omega
theorem byt_at {s : ByteArray} {i : Nat} (h : i < s.size) : byt s i = ((s[i]'h).toNat : Int) := by
  unfold byt
  have : s.data[i]? = some (s.data[i]'h) := Array.getElem?_eq_getElem h
  rw [this]; rfl
theorem set_byt {out : List Int} (h : Byt out) (i : Nat) {v : Int} (hv : 0 ≤ v ∧ v < 16) : Byt (out.set i (out.getD i 0 * 16 % 256 + v)) := fun b hb => by
  rcases List.mem_or_eq_of_mem_set hb with h2 | h2
  · exact h b h2
  · rw [h2]; omega
theorem parse_go {k : Nat} (K : List CV × Int → Option X) {s : ByteArray} (hs : s.size = 64) : ∀ (n i : Nat) (out : List Int) (j : Nat), 64 - i = n → i ≤ 64 → n < j → out.length = 32 → Byt out →
    iterV (f18_L1 (fun X => @f28 X k) k K) j (by8 out, s, i) = K (by8 (pgo s n i out).1, (pgo s n i out).2) := fun n => by
  have hst : ∀ (j : Nat) v, iterV (f18_L1 (fun X => @f28 X k) k K) (j + 1) v = f18_T1 (fun X => @f28 X k) k K (iterV (f18_L1 (fun X => @f28 X k) k K) j) v := fun _ _ => rfl
  induction n with
  | zero =>
    intro i out j h1 h2 h3 hl hb
    obtain ⟨j, rfl⟩ : ∃ q, j = q + 1 := ⟨j - 1, by omega⟩
    refine (hst _ _).trans ?_
    unfold f18_T1
    have a32 : (by8 out).length = 32 := by rw [by8_length]; exact hl
    have et : List.take 32 (List.drop 0 (by8 out)) = by8 out := by rw [List.drop_zero, take_all _ _ (by omega)]
    have e2 : List.take 0 (List.replicate 32 (CV.int .u8 0)) ++ by8 out ++ List.drop 32 (List.replicate 32 (CV.int .u8 0)) = by8 out := by simp
    refine (bifF (decide_eq_false (by rw [hs]; omega : ¬ i < s.size))).trans ?_
    refine (grdT (decide_eq_true (by omega : 32 ≤ (by8 out).length))).trans ?_
    simp only [et, e2]
    refine (grdT (by rw [a32]; rfl)).trans ?_
    refine (grdT rfl).trans ?_
    exact grdT (decide_eq_true (by omega))
  | succ n ih =>
    intro i out j h1 h2 h3 hl hb
    obtain ⟨j, rfl⟩ : ∃ q, j = q + 1 := ⟨j - 1, by omega⟩
    have hi : i < s.size := by omega
    refine (hst _ _).trans ?_
    have hf := fun o' h1' h2' => ih (i + 1) o' j (by omega) (by omega) (by omega) h1' h2'
    generalize iterV (f18_L1 (fun X => @f28 X k) k K) j = rec at hf ⊢
    unfold f18_T1
    refine (bifT (decide_eq_true hi)).trans ?_
    refine (digit_eq _ _).trans ?_
    have hno : (dv (byt s i)).2 = false → dv ((Utf8.decode s i).1 : Int) = (0, false) := fun h => by
      by_cases ha : (s[i]'hi).toNat < 128
      · rw [decode_ascii s i hi ha, ← byt_at hi]
        by_cases q1 : 48 ≤ byt s i ∧ byt s i ≤ 57
        · rw [dv_num q1] at h; cases h
        by_cases q2 : 97 ≤ byt s i ∧ byt s i ≤ 102
        · rw [dv_low q2] at h; cases h
        by_cases q3 : 65 ≤ byt s i ∧ byt s i ≤ 70
        · rw [dv_up q3] at h; cases h
        exact dv_no q1 q2 q3
      · have hd := (decode_high s i hi (by omega)).1
        exact dv_no (by omega) (by omega) (by omega)
    cases hq : (dv (byt s i)).2 with
    | false =>
      rw [hno hq]
      refine (bifT rfl).trans ?_
      unfold pgo
      rw [hq, if_neg (by decide), zer8]
      rfl
    | true =>
      have hlt : byt s i < 128 := by
        rcases Classical.em (byt s i < 128) with h | h
        · exact h
        · rw [dv_no (by omega) (by omega) (by omega)] at hq; cases hq
      have hb2 := byt_at hi
      have e1 := decode_ascii s i hi (by omega)
      rw [e1]
      simp only [← hb2, hq]
      refine (bifF rfl).trans ?_
      have e3 : Int.tdiv (i : Int) 2 = ((i / 2 : Nat) : Int) := by rw [tdiv_eq (by omega)]; omega
      have e4 : IntKind.wrap .i64 ((i / 2 : Nat) : Int) = ((i / 2 : Nat) : Int) := wrap64N (by omega)
      have e5 : 0 + (0 + (i / 2) * 1) = i / 2 := by omega
      simp only [e3, e4, toNat_cast, e5]
      refine (grdT (decide_eq_true (by omega))).trans ?_
      refine (grdT (decide_eq_true (by omega))).trans ?_
      refine (bAt (by8_at (by omega)) _).trans ?_
      refine (grdT (isI_int _ _)).trans ?_
      refine (grdT (decide_eq_true (by omega))).trans ?_
      refine (grdT (decide_eq_true (by omega))).trans ?_
      refine (grdT (decide_eq_true (by rw [by8_length]; omega))).trans ?_
      simp only [toI_int]
      rw [or_nib (getD_byt hb _) (dv_lt _), by8_set]
      unfold pgo
      rw [if_pos hq]
      exact hf _ (by simp [hl]) (set_byt hb _ (dv_lt _))
theorem zer_length : zer.length = 32 := by simp [zer]
theorem zer_byt : Byt zer := fun b hb => by rw [List.eq_of_mem_replicate hb]; decide
theorem parse_eq {k : Nat} (hk : 70 < k) (K : List CV × Int → Option X) (s : ByteArray) : f18 k K s = K (by8 (parseR s).1, (parseR s).2) := by
  unfold f18 f18_A f18_T parseR
  by_cases h : s.size = 64
  · rw [if_pos h]
    refine (bifF (by rw [h]; rfl)).trans ?_
    rw [zer8]
    exact parse_go K h 64 0 zer k (by omega) (by omega) (by omega) zer_length zer_byt
  · rw [if_neg h]
    refine (bifT (bne_iff_ne.2 (by omega))).trans ?_
    rw [← zer8]
    rfl
end
end Go.Proofs.YtlaojkheenobaaaDoorD
