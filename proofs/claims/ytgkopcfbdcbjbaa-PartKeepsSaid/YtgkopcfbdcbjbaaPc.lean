/- PartApart. -/
import Derived.Test.YtgkopcfbdcbjbaaPb
namespace Go.Proofs.YtgkopcfbdcbjbaaD
open Go Go.Proofs.YtgkopcfbdcbjbaaS Go.Proofs
set_option linter.unusedVariables false
set_option linter.unusedSimpArgs false
section
variable {X : Type}
theorem clear_any {k : Nat} (hk : 300000 < k) (f c z : Nat) (hzz : z ≤ 4096) (B W : List Int) (t : Nat) (l : Int) (d : Bool) (hc : f + c ≤ W.length) (hW : W.length ≤ 64) (hz : W.length * z = B.length) (hB : B.length ≤ 262144) (ht : t ≤ 1073741824) (hl : l < 9223372036854775808) (K : Int × Int × Int × Nat × Int × Nat × Int × Int × Bool × List CV × List CV → Option X) :
    ∃ e B' W' t' l' d', W'.length = W.length ∧ t' ≤ 1073741824 ∧ l' < 9223372036854775808 ∧ Aside (f * z) ((f + c) * z) B B' ∧ (d = false → l < 0 → e = 0 ∧ d' = false ∧ l' = l ∧ ∀ j, f * z ≤ j → j < (f + c) * z → B'[j]? = some 255) ∧
      f9 k K (f : Int) (c : Int) B.length (z : Int) W.length (t : Int) l d (by8 B) (by64 W) = K (e, pl f c B' z W' t' l' d') := by
  exact clear_loop hk K f c z hzz k 0 B W t l d (by omega) (Nat.zero_le _) hc hW hz hB ht hl
/-- What part.New answers. -/
def nwP (n : Nat) (f c : Int) : Bool := decide (1 ≤ c ∧ 0 ≤ f ∧ f < n ∧ c ≤ n - f)
theorem pnew_eq {k : Nat} (K : Sum (Nat × Int × Nat × Int × Int × Bool × List CV × List CV) (Nat × Int × Nat × Int × Int × Bool × List CV × List CV × Int × Int) → Option X) (f c : Int) (z : Nat) (l : Int) (B W : List Int) (t : Nat) (d : Bool) (hB : B.length ≤ 262144) (hz : W.length * z = B.length) (hz0 : 0 < z) :
    f7 k K f c B.length z W.length t l d (by8 B) (by64 W) = if nwP W.length f c = true then K (.inr (B.length, (z : Int), W.length, (t : Int), l, d, by8 B, by64 W, f, c)) else K (.inl (fl B z W t l d)) := by
  have hn : W.length ≤ B.length := by rw [← hz]; exact Nat.le_mul_of_pos_right _ hz0
  have hd : IntKind.wrap .i64 (Int.tdiv (B.length : Int) (z : Int)) = (W.length : Int) := by
    rw [Int.tdiv_eq_ediv_of_nonneg (by omega), ← hz, show ((W.length * z : Nat) : Int) / (z : Int) = ((W.length * z / z : Nat) : Int) by simp, Nat.mul_div_cancel _ hz0]
    exact wrap64 (by omega) (by omega)
  unfold f7 f7_A f7_T
  refine (size_eq _ _ _ _ _ _ _).trans ?_
  simp only [fl]
  refine (sector_eq _ _ _ _ _ _ _).trans ?_
  simp only [fl, t8, t64, hd, bif_dec]
  have hzb : ((z : Int) != 0) = true := by
    have : (z : Int) ≠ 0 := by omega
    simpa using this
  rw [hzb]
  simp only [grd_true]
  unfold nwP
  by_cases h1 : c < 1
  · rw [if_pos h1, if_neg (by simp; omega)]
  · rw [if_neg h1]
    by_cases h2 : f < 0
    · rw [if_pos h2, if_neg (by simp; omega)]
    · rw [if_neg h2]
      by_cases h3 : f ≥ (W.length : Int)
      · rw [if_pos h3, if_neg (by simp; omega)]
      · rw [if_neg h3, wrap64 (by omega) (by omega)]
        by_cases h4 : c > (W.length : Int) - f
        · rw [if_pos h4, if_neg (by simp; omega)]
        · rw [if_neg h4, if_pos (by simp; omega)]
theorem alive_eq {k : Nat} (K : Bool → Option X) (hk : 400000 < k) : f5 k K = K true := by
  unfold f5 f5_A f5_T
  refine (new_eq _ hk 4 16).trans ?_
  obtain ⟨k, rfl⟩ : ∃ j, k = j + 80 := ⟨k - 80, by omega⟩
  clear hk
  kernel_rfl
theorem used_loop {k0 : Nat} (xs : List Int) (hx : xs.length ≤ 300000) : ∀ k n : Nat, n < k → n ≤ xs.length → ∃ m : Int, ((∀ j, j < n → xs[j]? = some 255) → m = 0) ∧ ∀ K : Int → Option X, iterV (f30_L1 k0 K) k (by8 xs, (n : Int)) = K m
  | 0, n, h, _ => by omega
  | k + 1, n, h, hn => by
    have ih := used_loop (k0 := k0) xs hx k
    by_cases h0 : n = 0
    · subst h0
      exact ⟨0, fun _ => rfl, fun K => rfl⟩
    · have hw : IntKind.wrap .i64 ((n : Int) - 1) = ((n - 1 : Nat) : Int) := by rw [wrap64 (by omega) (by omega)]; omega
      have hl : n - 1 < xs.length := by omega
      have step : ∀ K : Int → Option X, iterV (f30_L1 k0 K) (k + 1) (by8 xs, (n : Int)) = if xs[n - 1] = 255 then iterV (f30_L1 k0 K) k (by8 xs, ((n - 1 : Nat) : Int)) else K n := fun K => by
        show f30_L1 k0 K (iterV (f30_L1 k0 K) k) _ = _
        generalize iterV (f30_L1 k0 K) k = rc
        unfold f30_L1 f30_T1
        have hp : (n : Int) > 0 := by omega
        simp only [decide_eq_true hp, cond_true, hw, dec0, grd_true, Int.toNat_natCast, by8_get, List.getElem?_eq_getElem hl, Option.map_some, Option.bind_some, isI_int, toI_int]
        by_cases h2 : xs[n - 1] = 255
        · rw [h2, if_pos rfl]; rfl
        · rw [if_neg h2]
          have : (xs[n - 1] == 255) = false := by simpa using h2
          rw [this]; rfl
      by_cases h2 : xs[n - 1] = 255
      · obtain ⟨m, a, b⟩ := ih (n - 1) (by omega) (by omega)
        exact ⟨m, fun hh => a (fun j hj => hh j (by omega)), fun K => by rw [step, if_pos h2]; exact b K⟩
      · refine ⟨n, fun hh => ?_, fun K => by rw [step, if_neg h2]⟩
        have := hh (n - 1) (by omega)
        rw [List.getElem?_eq_getElem hl] at this
        exact absurd (Option.some.inj this) h2
theorem used_any {k : Nat} (hk : 300000 < k) (xs : List Int) (hx : xs.length ≤ 300000) : ∃ m : Int, ((∀ j, j < xs.length → xs[j]? = some 255) → m = 0) ∧ ∀ K : Int → Option X, f30 k K (by8 xs) = K m := by
  obtain ⟨m, a, b⟩ := used_loop (X := X) (k0 := k) xs hx k xs.length (by omega) (Nat.le_refl _)
  refine ⟨m, a, fun K => ?_⟩
  rw [← b K]
  unfold f30 f30_A f30_T
  simp only [by8_length]
theorem blank_any {k : Nat} (hk : 300000 < k) (f c z : Nat) (B W : List Int) (t : Nat) (l : Int) (hc : f + c ≤ W.length) (hz : W.length * z = B.length) (hB : B.length ≤ 262144) :
    ∃ m : Bool, ((∀ j, f * z ≤ j → j < (f + c) * z → B[j]? = some 255) → m = true) ∧ ∀ K : Bool × Int × Int × Int × Nat × Int × Nat × Int × Int × Bool × List CV × List CV → Option X, f12 k K 0 ((c * z : Nat) : Int) f c B.length z W.length t l false (by8 B) (by64 W) = K (m, 0, pl f c B z W t l false) := by
  have hm : (f + c) * z ≤ B.length := mul_le_of hc hz
  have hn : (f + c) * z = f * z + c * z := Nat.add_mul ..
  have hlen : ((B.drop (f * z + (0 : Int).toNat)).take ((c * z : Nat) : Int).toNat).length = c * z := by simp; omega
  have hfl : fltP (c * z) false 0 ((c * z : Nat) : Int) = 0 := by
    unfold fltP wiB
    rw [if_neg (by decide), decide_eq_true (by omega)]; rfl
  obtain ⟨m, a, b⟩ := used_any (X := X) hk ((B.drop (f * z + (0 : Int).toNat)).take ((c * z : Nat) : Int).toNat) (by omega)
  refine ⟨m == 0, fun h => ?_, fun K => ?_⟩
  · have : m = 0 := a (fun j hj => by
      rw [hlen] at hj
      rw [List.getElem?_take_of_lt (by omega), List.getElem?_drop]
      exact h _ (by omega) (by simp; omega))
    rw [this]; rfl
  · unfold f12 f12_A f12_T
    refine (pread_eq _ _ _ _ _ _ _ _ _ _ _ hB hz hc).trans ?_
    rw [hfl, if_pos rfl]
    refine (bifT rfl).trans ?_
    simp only [List.drop_zero]
    rw [take_all (by8 ((B.drop (f * z + (0 : Int).toNat)).take ((c * z : Nat) : Int).toNat)) _ (by rw [by8_length]; exact Nat.le_refl _)]
    refine (b _).trans ?_
    simp only [t8, t64]
    rfl
end
end Go.Proofs.YtgkopcfbdcbjbaaD
