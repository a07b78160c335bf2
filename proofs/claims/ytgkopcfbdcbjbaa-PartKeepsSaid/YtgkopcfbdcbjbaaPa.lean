/- part's methods over a flash, in plain words. -/
import Derived.Test.YtgkopcfbdcbjbaaW1
namespace Go.Proofs.YtgkopcfbdcbjbaaD
open Go Go.Proofs.YtgkopcfbdcbjbaaS Go.Proofs
set_option linter.unusedVariables false
set_option linter.unusedSimpArgs false
section
variable {X : Type}
/-- A part over a flash: where it begins, how many sectors, the flash. -/
def pl (f c : Nat) (B : List Int) (z : Nat) (W : List Int) (t : Nat) (l : Int) (d : Bool) : Int × Int × Nat × Int × Nat × Int × Int × Bool × List CV × List CV := ((f : Int), (c : Int), fl B z W t l d)
theorem mul_le_of {c n z L : Nat} (h : c ≤ n) (hL : n * z = L) : c * z ≤ L := hL ▸ Nat.mul_le_mul_right z h
theorem psize_eq {k : Nat} (K : Int × Int × Int × Nat × Int × Nat × Int × Int × Bool × List CV × List CV → Option X) (f c z : Nat) (l : Int) (B W : List Int) (t : Nat) (d : Bool) (hB : B.length ≤ 262144) (hz : W.length * z = B.length) (hc : f + c ≤ W.length) :
    f13 k K f c B.length z W.length t l d (by8 B) (by64 W) = K (((c * z : Nat) : Int), pl f c B z W t l d) := by
  have h1 : c * z ≤ B.length := mul_le_of (by omega) hz
  have e : IntKind.wrap .i64 ((c : Int) * (z : Int)) = ((c * z : Nat) : Int) := by
    rw [show (c : Int) * (z : Int) = ((c * z : Nat) : Int) by simp]
    exact wrap64 (by omega) (by omega)
  unfold f13 f13_A f13_T
  refine (sector_eq _ _ _ _ _ _ _).trans ?_
  simp only [fl, t8, t64, e]
  rfl
theorem pbase_eq {k : Nat} (K : Int × Int × Int × Nat × Int × Nat × Int × Int × Bool × List CV × List CV → Option X) (f c z : Nat) (l : Int) (B W : List Int) (t : Nat) (d : Bool) (hB : B.length ≤ 262144) (hz : W.length * z = B.length) (hc : f + c ≤ W.length) :
    f28 k K f c B.length z W.length t l d (by8 B) (by64 W) = K (((f * z : Nat) : Int), pl f c B z W t l d) := by
  have h1 : f * z ≤ B.length := mul_le_of (by omega) hz
  have e : IntKind.wrap .i64 ((f : Int) * (z : Int)) = ((f * z : Nat) : Int) := by
    rw [show (f : Int) * (z : Int) = ((f * z : Nat) : Int) by simp]
    exact wrap64 (by omega) (by omega)
  unfold f28 f28_A f28_T
  refine (sector_eq _ _ _ _ _ _ _).trans ?_
  simp only [fl, t8, t64, e]
  rfl
theorem pwithin_eq {k : Nat} (K : Bool × Int × Int × Nat × Int × Nat × Int × Int × Bool × List CV × List CV → Option X) (at_ n : Int) (f c z : Nat) (l : Int) (B W : List Int) (t : Nat) (d : Bool) (hB : B.length ≤ 262144) (hz : W.length * z = B.length) (hc : f + c ≤ W.length) :
    f37 k K at_ n f c B.length z W.length t l d (by8 B) (by64 W) = K (wiB (c * z) at_ n, pl f c B z W t l d) := by
  have h1 : c * z ≤ B.length := mul_le_of (by omega) hz
  unfold f37 f37_A f37_T
  simp only [t8, t64, bif_dec]
  by_cases h2 : at_ ≥ 0
  · rw [if_pos h2]
    by_cases h3 : n ≥ 0
    · rw [if_pos h3, psize_eq _ _ _ _ _ _ _ _ _ hB hz hc]
      simp only [pl, fl, t8, t64]
      by_cases h4 : at_ ≤ ((c * z : Nat) : Int)
      · rw [if_pos h4, psize_eq _ _ _ _ _ _ _ _ _ hB hz hc]
        simp only [pl, fl, t8, t64]
        rw [wrap64 (by omega) (by omega)]
        congr 2
        unfold wiB
        exact decide_eq_decide.mpr ⟨fun h => ⟨h2, h3, h4, h⟩, fun h => h.2.2.2⟩
      · rw [if_neg h4]
        congr 2
        unfold wiB
        exact (decide_eq_false (fun h => h4 h.2.2.1)).symm
    · rw [if_neg h3]
      unfold pl fl
      congr 2
      unfold wiB
      exact (decide_eq_false (fun h => h3 h.2.1)).symm
  · rw [if_neg h2]
    unfold pl fl
    congr 2
    unfold wiB
    exact (decide_eq_false (fun h => h2 h.1)).symm
/-- What part says of a place. -/
def fltP (L : Nat) (d : Bool) (at_ n : Int) : Int := if d = true then 30 else if wiB L at_ n = true then 0 else 1
theorem pfault_eq {k : Nat} (K : Int × Int × Int × Nat × Int × Nat × Int × Int × Bool × List CV × List CV → Option X) (at_ n : Int) (f c z : Nat) (l : Int) (B W : List Int) (t : Nat) (d : Bool) (hB : B.length ≤ 262144) (hz : W.length * z = B.length) (hc : f + c ≤ W.length) :
    f26 k K at_ n f c B.length z W.length t l d (by8 B) (by64 W) = K (fltP (c * z) d at_ n, pl f c B z W t l d) := by
  unfold f26 f26_A f26_T
  refine (down_eq _ _ _ _ _ _ _).trans ?_
  simp only [fl, t8, t64]
  cases d with
  | true => rfl
  | false =>
    simp only [cond_false]
    rw [pwithin_eq _ _ _ _ _ _ _ _ _ _ _ hB hz hc]
    simp only [pl, fl, t8, t64]
    unfold fltP
    cases wiB (c * z) at_ n <;> rfl
/-- An answer of the flash, as the part's. -/
def pr (f c : Nat) (r : Int × Nat × Int × Nat × Int × Int × Bool × List CV × List CV) : Int × Int × Int × Nat × Int × Nat × Int × Int × Bool × List CV × List CV := (r.1, (f : Int), (c : Int), r.2)
theorem wiB_at {L : Nat} {a n : Int} (h : wiB L a n = true) : 0 ≤ a ∧ 0 ≤ n ∧ a ≤ L ∧ n ≤ L - a := of_decide_eq_true h
theorem wiB_in {L f c z : Nat} {a n : Int} (h : wiB (c * z) a n = true) (hL : (f + c) * z ≤ L) : wiB L (((f * z : Nat) : Int) + a) n = true := by
  have h := wiB_at h
  rw [Nat.add_mul] at hL
  exact decide_eq_true ⟨by omega, by omega, by omega, by omega⟩
theorem ifun_k {Y : Type} {a b : Bool} (K : Y → Option X) (x y : Y) : (if a = b then K x else K y) = K (if a = b then x else y) := by split <;> rfl
theorem pwrite_eq {k : Nat} (K : Int × Int × Int × Nat × Int × Nat × Int × Int × Bool × List CV × List CV → Option X) (hk : 300000 < k) (at_ : Int) (xs : List Int) (f c z : Nat) (l : Int) (B W : List Int) (t : Nat) (d : Bool) (hB : B.length ≤ 262144) (hz : W.length * z = B.length) (hc : f + c ≤ W.length) (ht : t ≤ 1073741824) (hl : l < 9223372036854775808) :
    f8 k K at_ (by8 xs) f c B.length z W.length t l d (by8 B) (by64 W) = if d = true then K (30, pl f c B z W t l d) else if wiB (c * z) at_ xs.length = false then K (1, pl f c B z W t l d) else if clB B (f * z + at_.toNat) xs = false then K (31, pl f c B z W t l d) else K (pr f c (endR B (f * z + at_.toNat) xs z W t l)) := by
  have hm : (f + c) * z ≤ B.length := mul_le_of hc hz
  have hn : (f + c) * z = f * z + c * z := Nat.add_mul ..
  unfold f8 f8_A f8_T
  simp only [by8_length]
  rw [pfault_eq _ _ _ _ _ _ _ _ _ _ _ hB hz hc]
  simp only [pl, fl, t8, t64]
  unfold fltP
  cases d with
  | true => rfl
  | false =>
    simp only [Bool.false_eq_true, if_false]
    cases hw : wiB (c * z) at_ xs.length with
    | false => rfl
    | true =>
      have hwi := wiB_at hw
      have hwf := wiB_in hw hm
      simp only [Bool.true_eq_false, if_false, if_true]
      refine (pbase_eq _ _ _ _ _ _ _ _ _ hB hz hc).trans ?_
      simp only [pl, fl]
      rw [show IntKind.wrap .i64 (((f * z : Nat) : Int) + at_) = ((f * z : Nat) : Int) + at_ from wrap64 (by omega) (by omega)]
      rw [prog_eq _ hk _ _ _ _ _ _ _ _ hB ht hl]
      rw [hwf, show (((f * z : Nat) : Int) + at_).toNat = f * z + at_.toNat by omega]
      simp only [Bool.false_eq_true, Bool.true_eq_false, if_false, fl, t8, t64]
      cases clB B (f * z + at_.toNat) xs with
      | false => rfl
      | true =>
        simp only [Bool.true_eq_false, if_false]
        unfold endR pr
        split <;> simp only [fl, t8, t64]
theorem pread_eq {k : Nat} (K : Nat × Int × Int × Int × Nat × Int × Nat × Int × Int × Bool × List CV × List CV × List CV → Option X) (at_ n : Int) (f c z : Nat) (l : Int) (B W : List Int) (t : Nat) (d : Bool) (hB : B.length ≤ 262144) (hz : W.length * z = B.length) (hc : f + c ≤ W.length) :
    f10 k K at_ n f c B.length z W.length t l d (by8 B) (by64 W) = (fun v : List Int => K (v.length, fltP (c * z) d at_ n, (f : Int), (c : Int), B.length, (z : Int), W.length, (t : Int), l, d, by8 B, by64 W, by8 v)) (if fltP (c * z) d at_ n = 0 then (B.drop (f * z + at_.toNat)).take n.toNat else []) := by
  have hm : (f + c) * z ≤ B.length := mul_le_of hc hz
  have hn : (f + c) * z = f * z + c * z := Nat.add_mul ..
  unfold f10 f10_A f10_T
  refine (pfault_eq _ _ _ _ _ _ _ _ _ _ _ hB hz hc).trans ?_
  simp only [pl, fl, t8, t64]
  unfold fltP
  cases d with
  | true => rfl
  | false =>
    simp only [Bool.false_eq_true, if_false]
    cases hw : wiB (c * z) at_ n with
    | false => rfl
    | true =>
      have hwi := wiB_at hw
      have hwf := wiB_in hw hm
      simp only [if_true]
      refine (pbase_eq _ _ _ _ _ _ _ _ _ hB hz hc).trans ?_
      simp only [pl, fl]
      rw [show IntKind.wrap .i64 (((f * z : Nat) : Int) + at_) = ((f * z : Nat) : Int) + at_ from wrap64 (by omega) (by omega)]
      rw [read_eq _ _ _ _ _ _ _ _ _ (by omega)]
      have e : rdE B false (((f * z : Nat) : Int) + at_) n = 0 := by unfold rdE; rw [hwf]; rfl
      have ev : rdV B false (((f * z : Nat) : Int) + at_) n = (B.drop (f * z + at_.toNat)).take n.toNat := by
        unfold rdV; rw [if_pos e, show (((f * z : Nat) : Int) + at_).toNat = f * z + at_.toNat by omega]
      rw [e, ev]
      simp only [t8, t64]
end
end Go.Proofs.YtgkopcfbdcbjbaaD
