/- part's New, Clear, Blank in plain words. -/
import Derived.Test.YtgkopcfbdcbjbaaPa
namespace Go.Proofs.YtgkopcfbdcbjbaaD
open Go Go.Proofs.YtgkopcfbdcbjbaaS Go.Proofs
set_option linter.unusedVariables false
set_option linter.unusedSimpArgs false
section
variable {X : Type}
/-- Nothing beyond a to b is turned. -/
def Aside (a b : Nat) (B B' : List Int) : Prop := B'.length = B.length ∧ ∀ j, (j < a ∨ b ≤ j) → B'[j]? = B[j]?
theorem Aside.rfl' (a b : Nat) (B : List Int) : Aside a b B B := ⟨rfl, fun _ _ => rfl⟩
theorem Aside.trans' {a b : Nat} {B C D : List Int} (h : Aside a b B C) (g : Aside a b C D) : Aside a b B D := ⟨g.1.trans h.1, fun j hj => (g.2 j hj).trans (h.2 j hj)⟩
theorem Aside.wide {a b a' b' : Nat} {B C : List Int} (h : Aside a b B C) (h1 : a' ≤ a) (h2 : b ≤ b') : Aside a' b' B C := ⟨h.1, fun j hj => h.2 j (by omega)⟩
theorem Aside.over {a b p : Nat} {B xs : List Int} (h1 : a ≤ p) (h2 : p + xs.length ≤ b) (h3 : p + xs.length ≤ B.length) : Aside a b B (over B p xs) :=
  ⟨over_len h3, fun j hj => by rw [over_get B p xs h3 j, if_neg (by omega)]⟩
theorem goes_le (l : Int) (n : Nat) : goes l n ≤ n := by unfold goes; split <;> omega
theorem leftL_lt {l : Int} {n : Nat} (hl : l < 9223372036854775808) : leftL l n < 9223372036854775808 := by unfold leftL; split <;> omega
theorem tmin_le (t n : Nat) : tmin t n ≤ 1073741824 := by unfold tmin; omega
/-- What a turning of bytes leaves. -/
theorem endR_any (B : List Int) (a : Nat) (ys : List Int) (z : Nat) (W : List Int) (t : Nat) (l : Int) (h : a + ys.length ≤ B.length) (hl : l < 9223372036854775808) : ∃ e B' t' l' d', t' ≤ 1073741824 ∧ l' < 9223372036854775808 ∧ Aside a (a + ys.length) B B' ∧ (l < 0 → e = 0 ∧ d' = false ∧ l' = l ∧ B' = over B a ys) ∧ endR B a ys z W t l = (e, fl B' z W t' l' d') := by
  unfold endR
  have hg := goes_le l ys.length
  by_cases h1 : goes l ys.length < ys.length
  · rw [if_pos h1]
    exact ⟨30, _, _, 0, true, tmin_le .., by omega, Aside.over (Nat.le_refl _) (by rw [List.length_take]; omega) (by rw [List.length_take]; omega), fun h0 => by unfold goes at h1; rw [if_pos h0] at h1; omega, rfl⟩
  · rw [if_neg h1]
    exact ⟨0, _, _, _, false, tmin_le .., leftL_lt hl, Aside.over (Nat.le_refl _) (Nat.le_refl _) h, fun h0 => ⟨rfl, rfl, by unfold leftL; rw [if_pos h0], rfl⟩, rfl⟩
theorem erase_any {k : Nat} (hk : 300000 < k) (s : Nat) (l : Int) (B W : List Int) (z t : Nat) (d : Bool) (hs : s < W.length) (hz : W.length * z = B.length) (hB : B.length ≤ 262144) (hzz : z ≤ 4096) (ht : t ≤ 1073741824) (hl : l < 9223372036854775808) :
    ∃ e B' W' t' l' d', W'.length = W.length ∧ t' ≤ 1073741824 ∧ l' < 9223372036854775808 ∧ Aside (s * z) (s * z + z) B B' ∧ (d = false → l < 0 → e = 0 ∧ d' = false ∧ l' = l ∧ B' = over B (s * z) (List.replicate z 255)) ∧ ∀ K : Int × Nat × Int × Nat × Int × Int × Bool × List CV × List CV → Option X, f29 k K (s : Int) B.length z W.length t l d (by8 B) (by64 W) = K (e, fl B' z W' t' l' d') := by
  cases d with
  | true => exact ⟨30, B, W, t, l, true, rfl, ht, hl, Aside.rfl' .., (fun h => absurd h (by decide)), (fun K => by unfold f29 f29_A f29_T; simp only [t8, t64]; rfl)⟩
  | false =>
    have hm : s * z + z ≤ B.length := by
      have := mul_le_of (c := s + 1) (by omega) hz
      rw [Nat.add_mul] at this; omega
    obtain ⟨e, B', t', l', d', h1, h2, h3, h4, h5⟩ := endR_any B (s * z) (List.replicate z 255) z (W.set s (wmin (W.getD s 0))) t l (by simpa using hm) hl
    rw [List.length_replicate] at h3
    refine ⟨e, B', W.set s (wmin (W.getD s 0)), t', l', d', List.length_set .., h1, h2, h3, fun _ => h4, fun K => ?_⟩
    rw [erase_eq _ hk _ _ _ _ _ _ hz hB hzz ht hl, if_neg (by omega), Int.toNat_natCast, h5]
theorem clear_loop {k0 : Nat} (hk0 : 300000 < k0) (K : Int × Int × Int × Nat × Int × Nat × Int × Int × Bool × List CV × List CV → Option X) (f c z : Nat) (hzz : z ≤ 4096) :
    ∀ (k i : Nat) (B W : List Int) (t : Nat) (l : Int) (d : Bool), c - i < k → i ≤ c → f + c ≤ W.length → W.length ≤ 64 → W.length * z = B.length → B.length ≤ 262144 → t ≤ 1073741824 → l < 9223372036854775808 →
    ∃ e B' W' t' l' d', W'.length = W.length ∧ t' ≤ 1073741824 ∧ l' < 9223372036854775808 ∧ Aside ((f + i) * z) ((f + c) * z) B B' ∧ (d = false → l < 0 → e = 0 ∧ d' = false ∧ l' = l ∧ ∀ j, (f + i) * z ≤ j → j < (f + c) * z → B'[j]? = some 255) ∧
      iterV (f9_L1 (fun X => @f29 X k0) k0 K) k ((c : Int), (i : Int), (f : Int), (c : Int), B.length, (z : Int), W.length, (t : Int), l, d, by8 B, by64 W) = K (e, pl f c B' z W' t' l' d')
  | 0, i, B, W, t, l, d, h, _, _, _, _, _, _, _ => by omega
  | k + 1, i, B, W, t, l, d, h, hi, hc, hW, hz, hB, ht, hl => by
    have ih := fun i B W t l d => clear_loop hk0 K f c z hzz k i B W t l d
    show ∃ e B' W' t' l' d', _ ∧ _ ∧ _ ∧ _ ∧ _ ∧ f9_L1 _ k0 K (iterV (f9_L1 (fun X => @f29 X k0) k0 K) k) _ = _
    generalize iterV (f9_L1 (fun X => @f29 X k0) k0 K) k = rc at ih ⊢
    unfold f9_L1 f9_T1
    by_cases h1 : i < c
    · have hw1 : IntKind.wrap .i64 ((f : Int) + (i : Int)) = ((f + i : Nat) : Int) := by rw [wrap64 (by omega) (by omega)]; simp
      have hw2 : IntKind.wrap .i64 ((i : Int) + 1) = ((i + 1 : Nat) : Int) := by rw [wrap64 (by omega) (by omega)]; simp
      have hm : (f + i) * z + z = (f + (i + 1)) * z := by rw [← Nat.add_assoc, Nat.add_mul (f + i) 1 z, Nat.one_mul]
      have hmc : (f + (i + 1)) * z ≤ (f + c) * z := Nat.mul_le_mul_right z (by omega)
      have hmB : (f + c) * z ≤ B.length := mul_le_of hc hz
      simp only [decLt, decide_eq_true h1, cond_true, hw1, hw2]
      obtain ⟨e, B1, W1, t1, l1, d1, g1, g2, g3, g4, g5, g6⟩ := erase_any (X := X) hk0 (f + i) l B W z t d (by omega) hz hB hzz ht hl
      rw [hm] at g4
      by_cases he : e = 0
      · subst he
        obtain ⟨e2, B2, W2, t2, l2, d2, k1, k2, k3, k4, k5, k6⟩ := ih (i + 1) B1 W1 t1 l1 d1 (by omega) (by omega) (by omega) (by omega) (by rw [g1, g4.1]; exact hz) (by rw [g4.1]; exact hB) g2 g3
        refine ⟨e2, B2, W2, t2, l2, d2, k1.trans g1, k2, k3, (g4.wide (Nat.le_refl _) hmc).trans' (k4.wide (by omega) (Nat.le_refl _)), fun h0 h2 => ?_, ?_⟩
        · obtain ⟨_, a1, a2, a3⟩ := g5 h0 h2
          obtain ⟨b0, b1, b2, b3⟩ := k5 a1 (by omega)
          refine ⟨b0, b1, b2.trans a2, fun j j1 j2 => ?_⟩
          by_cases hj : j < (f + (i + 1)) * z
          · rw [k4.2 j (Or.inl hj), a3, over_get _ _ _ (by simp; omega), if_pos (by simp; omega), List.getElem?_replicate, if_pos (by omega)]
          · exact b3 j (by omega) j2
        · refine (g6 _).trans ?_
          simp only [fl]
          exact k6
      · refine ⟨e, B1, W1, t1, l1, d1, g1, g2, g3, g4.wide (Nat.le_refl _) hmc, fun h0 h2 => absurd (g5 h0 h2).1 he, ?_⟩
        refine (g6 _).trans ?_
        have hb : (e != 0) = true := by simpa using he
        simp only [hb, cond_true, fl, t8, t64]
        rfl
    · simp only [decLt, decide_eq_false h1, cond_false, t8, t64]
      have : i = c := by omega
      subst this
      exact ⟨0, B, W, t, l, d, rfl, ht, hl, Aside.rfl' .., fun h0 _ => ⟨rfl, h0, rfl, fun j h2 h3 => by omega⟩, rfl⟩
end
end Go.Proofs.YtgkopcfbdcbjbaaD
