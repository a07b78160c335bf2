/- ShaHex: the document's Hex and Parse. -/
import Derived.Test.YtlaojkheenobaaaDoorPm
namespace Go.Proofs.YtlaojkheenobaaaDoorD
open Go Go.Proofs.YtlaojkheenobaaaDoorS Go.Proofs
set_option linter.unusedVariables false
set_option linter.unusedSimpArgs false
section
variable {X : Type}
theorem put_all {W R : List CV} (h : W.length = 32) (hr : R.length = 32) : List.take 0 R ++ W ++ List.drop 32 R = W := by
  rw [List.take_zero, List.nil_append, List.drop_of_length_le (by omega), List.append_nil]
theorem take_32 {W : List CV} (h : W.length = 32) : List.take 32 (List.drop 0 W) = W := by rw [List.drop_zero, take_all _ _ (by omega)]
theorem rep_length : (List.replicate 32 (CV.int .u8 0)).length = 32 := by simp
theorem add_nib {e v : Int} (he : 0 ≤ e ∧ e < 256) (hv : 0 ≤ v ∧ v < 16) : IntKind.wrap .u8 (IntKind.wrap .u8 (e * 16) + v) = e * 16 % 256 + v := by
  rw [wrapU8, wrapU8]; omega
theorem ref_J1 {k : Nat} {K : List CV × Int → Option X} (rec) {s : ByteArray} (i : Nat) (hi : i < 64) (R : List CV) {out : List Int} (hl : out.length = 32) (hb : Byt out) {v w : Int} (hv : 0 ≤ v ∧ v < 16) (hw : w = v) :
    f19_J1 k K rec (s, (i : Int), R, by8 out) w = rec (s, ((i + 1 : Nat) : Int), R, by8 (out.set (i / 2) (out.getD (i / 2) 0 * 16 % 256 + v))) := by
  subst hw
  unfold f19_J1
  have e3 : Int.tdiv (i : Int) 2 = ((i / 2 : Nat) : Int) := by rw [tdiv_eq (by omega)]; omega
  have e4 : IntKind.wrap .i64 ((i / 2 : Nat) : Int) = ((i / 2 : Nat) : Int) := wrap64N (by omega)
  have e5 : 0 + (0 + (i / 2) * 1) = i / 2 := by omega
  simp only [e3, e4, toNat_cast, e5]
  refine (grdT (decide_eq_true (by omega))).trans ?_
  refine (grdT (decide_eq_true (by omega))).trans ?_
  refine (bAt (by8_at (by omega)) _).trans ?_
  refine (grdT (isI_int _ _)).trans ?_
  refine (grdT (decide_eq_true (by omega))).trans ?_
  refine (grdT (decide_eq_true (by omega))).trans ?_
  refine (grdT (decide_eq_true (by rw [by8_length]; omega))).trans ?_
  simp only [toI_int]
  rw [add_nib (getD_byt hb _) hv, by8_set, wrap64_s (by omega)]
theorem ref_T1 {k : Nat} {K : List CV × Int → Option X} (rec) {s : ByteArray} (hs : s.size = 64) (i : Nat) (hi : i < 64) {out : List Int} (hl : out.length = 32) (hb : Byt out) :
    f19_T1 k K rec (s, (i : Int), List.replicate 32 (CV.int .u8 0), by8 out) = if (dv (byt s i)).2 then rec (s, ((i + 1 : Nat) : Int), List.replicate 32 (CV.int .u8 0), by8 (out.set (i / 2) (out.getD (i / 2) 0 * 16 % 256 + (dv (byt s i)).1))) else K (by8 zer, 20) := by
  have hd : s.data[i]? = some (s.data[i]'(by have : s.data.size = s.size := rfl; omega)) := Array.getElem?_eq_getElem _
  have hbt : byt s i = (((s.data[i]'(by have : s.data.size = s.size := rfl; omega)).toNat : Nat) : Int) := by unfold byt; rw [hd]; rfl
  generalize (s.data[i]'(by have : s.data.size = s.size := rfl; omega)) = b8 at hd hbt
  have h0 : 0 ≤ byt s i ∧ byt s i < 256 := by
    rw [hbt]
    have := b8.toNat_lt
    omega
  unfold f19_T1
  refine (bifT (decide_eq_true (by omega : (i : Int) < 64))).trans ?_
  refine (grdT (decide_eq_true (by omega : (0 : Int) ≤ (i : Int)))).trans ?_
  refine (bAt hd _).trans ?_
  simp only [← hbt, bif_dec]
  have hlt := dv_lt (byt s i)
  have herr : (grd (decide (32 ≤ (List.replicate 32 (CV.int .u8 0)).length)) (grd (decide (32 ≤ (List.take 0 (List.replicate 32 (CV.int .u8 0)) ++ List.replicate 32 (CV.int .u8 0) ++ List.drop 32 (List.replicate 32 (CV.int .u8 0))).length)) (K (List.take 32 (List.drop 0 (List.take 0 (List.replicate 32 (CV.int .u8 0)) ++ List.replicate 32 (CV.int .u8 0) ++ List.drop 32 (List.replicate 32 (CV.int .u8 0)))), 20)))) = K (by8 zer, 20) := rfl
  by_cases h1 : 48 ≤ byt s i ∧ byt s i ≤ 57
  · rw [if_pos (show byt s i ≥ 48 from h1.1), if_pos h1.2, dv_num h1, if_pos rfl]
    rw [dv_num h1] at hlt
    exact ref_J1 rec i hi _ hl hb hlt (by rw [wrapU8]; omega)
  by_cases h2 : 97 ≤ byt s i ∧ byt s i ≤ 102
  · rw [if_pos (show byt s i ≥ 48 by omega), if_neg (show ¬ byt s i ≤ 57 by omega), if_pos (show byt s i ≥ 97 from h2.1), if_pos h2.2, dv_low h2, if_pos rfl]
    rw [dv_low h2] at hlt
    exact ref_J1 rec i hi _ hl hb hlt (by rw [wrapU8, wrapU8]; omega)
  by_cases h3 : 65 ≤ byt s i ∧ byt s i ≤ 70
  · rw [if_pos (show byt s i ≥ 48 by omega), if_neg (show ¬ byt s i ≤ 57 by omega), if_neg (show ¬ byt s i ≥ 97 by omega), if_pos (show byt s i ≥ 65 from h3.1), if_pos h3.2, dv_up h3, if_pos rfl]
    rw [dv_up h3] at hlt
    exact ref_J1 rec i hi _ hl hb hlt (by rw [wrapU8, wrapU8]; omega)
  rw [dv_no h1 h2 h3, if_neg (show ¬ ((0 : Int), false).2 = true by decide)]
  simp only [herr]
  repeat (first | rfl | (split <;> try omega))
theorem rparse_go {k : Nat} (K : List CV × Int → Option X) {s : ByteArray} (hs : s.size = 64) : ∀ (n i : Nat) (out : List Int) (j : Nat), 64 - i = n → i ≤ 64 → n < j → out.length = 32 → Byt out →
    iterV (f19_L1 k K) j (s, (i : Int), List.replicate 32 (CV.int .u8 0), by8 out) = K (by8 (pgo s n i out).1, (pgo s n i out).2) := fun n => by
  have hst : ∀ (j : Nat) v, iterV (f19_L1 k K) (j + 1) v = f19_T1 k K (iterV (f19_L1 k K) j) v := fun _ _ => rfl
  induction n with
  | zero =>
    intro i out j h1 h2 h3 hl hb
    obtain ⟨j, rfl⟩ : ∃ q, j = q + 1 := ⟨j - 1, by omega⟩
    have hi : i = 64 := by omega
    subst hi
    refine (hst _ _).trans ?_
    unfold f19_T1
    have a32 : (by8 out).length = 32 := by rw [by8_length]; exact hl
    refine (bifF rfl).trans ?_
    refine (grdT (decide_eq_true (by omega : 32 ≤ (by8 out).length))).trans ?_
    simp only [take_32 a32, put_all a32 rep_length]
    refine (grdT (by rw [a32]; rfl)).trans ?_
    refine (grdT rfl).trans ?_
    exact grdT (decide_eq_true (by omega))
  | succ n ih =>
    intro i out j h1 h2 h3 hl hb
    obtain ⟨j, rfl⟩ : ∃ q, j = q + 1 := ⟨j - 1, by omega⟩
    refine (hst _ _).trans ?_
    refine (ref_T1 _ hs i (by omega) hl hb).trans ?_
    unfold pgo
    cases hq : (dv (byt s i)).2 with
    | false => rw [if_neg (by decide), if_neg (by decide)]
    | true =>
      rw [if_pos rfl, if_pos rfl]
      exact ih (i + 1) _ j (by omega) (by omega) (by omega) (by simp [hl]) (set_byt hb _ (dv_lt _))
theorem rparse_eq {k : Nat} (hk : 70 < k) (K : List CV × Int → Option X) (s : ByteArray) : f19 k K s = K (by8 (parseR s).1, (parseR s).2) := by
  unfold f19 f19_A f19_T parseR
  refine (grdT rfl).trans ?_
  by_cases h : s.size = 64
  · rw [if_pos h]
    refine (bifF (by rw [h]; rfl)).trans ?_
    exact rparse_go K h 64 0 zer k (by omega) (by omega) (by omega) zer_length zer_byt
  · rw [if_neg h]
    refine (bifT (bne_iff_ne.2 (by omega))).trans ?_
    rfl
theorem pgo_len {s : ByteArray} : ∀ (n i : Nat) (out : List Int), out.length = 32 → (pgo s n i out).1.length = 32
  | 0, i, out, h => h
  | n + 1, i, out, h => by
    unfold pgo
    split
    · exact pgo_len n (i + 1) _ (by simp [h])
    · exact zer_length
theorem parseR_len (s : ByteArray) : (parseR s).1.length = 32 := by
  unfold parseR
  split
  · exact pgo_len _ _ _ zer_length
  · exact zer_length
end
end Go.Proofs.YtlaojkheenobaaaDoorD
