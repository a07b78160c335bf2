/- PartKeeps: what each step leaves. -/
import Derived.Test.YtgkopcfbdcbjbaaPd
namespace Go.Proofs.YtgkopcfbdcbjbaaD
open Go Go.Proofs.YtgkopcfbdcbjbaaS Go.Proofs
set_option linter.unusedVariables false
set_option linter.unusedSimpArgs false
section
variable {X : Type}
theorem pwrite_k {k : Nat} (hk : 300000 < k) (at_ : Int) (xs : List Int) (f c z : Nat) (l : Int) (B W : List Int) (t : Nat) (d : Bool) (hB : B.length ≤ 262144) (hz : W.length * z = B.length) (hc : f + c ≤ W.length) (ht : t ≤ 1073741824) (hl : l < 9223372036854775808) (K : Int × Int × Int × Nat × Int × Nat × Int × Int × Bool × List CV × List CV → Option X) (R : Option X)
    (h : ∀ e B' t' l' d', t' ≤ 1073741824 → l' < 9223372036854775808 → Aside (f * z) ((f + c) * z) B B' → K (e, pl f c B' z W t' l' d') = R) :
    f8 k K at_ (by8 xs) f c B.length z W.length t l d (by8 B) (by64 W) = R := by
  have hm : (f + c) * z ≤ B.length := mul_le_of hc hz
  have hn : (f + c) * z = f * z + c * z := Nat.add_mul ..
  rw [pwrite_eq _ hk _ _ _ _ _ _ _ _ _ _ hB hz hc ht hl]
  by_cases hd : d = true
  · rw [if_pos hd]; exact h 30 B t l d ht hl (Aside.rfl' ..)
  rw [if_neg hd]
  have hdf : d = false := by simpa using hd
  by_cases hw : wiB (c * z) at_ xs.length = false
  · rw [if_pos hw]; exact h 1 B t l d ht hl (Aside.rfl' ..)
  rw [if_neg hw]
  have hwt : wiB (c * z) at_ xs.length = true := by simpa using hw
  have hwi := wiB_at hwt
  by_cases hcb : clB B (f * z + at_.toNat) xs = false
  · rw [if_pos hcb]; exact h 31 B t l d ht hl (Aside.rfl' ..)
  rw [if_neg hcb]
  obtain ⟨e, B', t', l', d', h1, h2, h3, _, h5⟩ := endR_any B (f * z + at_.toNat) xs z W t l (by omega) hl
  rw [h5]
  exact h e B' t' l' d' h1 h2 (h3.wide (by omega) (by omega))
theorem clear_k2 {k : Nat} (hk : 300000 < k) (f c z : Nat) (hzz : z ≤ 4096) (B W : List Int) (t : Nat) (l : Int) (d : Bool) (hc : f + c ≤ W.length) (hW : W.length ≤ 64) (hz : W.length * z = B.length) (hB : B.length ≤ 262144) (ht : t ≤ 1073741824) (hl : l < 9223372036854775808) (K : Int × Int × Int × Nat × Int × Nat × Int × Int × Bool × List CV × List CV → Option X) (R : Option X)
    (h : ∀ e B' W' t' l' d', W'.length = W.length → t' ≤ 1073741824 → l' < 9223372036854775808 → Aside (f * z) ((f + c) * z) B B' → (d = false → l < 0 → e = 0 ∧ d' = false ∧ l' = l ∧ ∀ j, f * z ≤ j → j < (f + c) * z → B'[j]? = some 255) → K (e, pl f c B' z W' t' l' d') = R) :
    f9 k K (f : Int) (c : Int) B.length (z : Int) W.length (t : Int) l d (by8 B) (by64 W) = R := by
  obtain ⟨e, B', W', t', l', d', g1, g2, g3, g4, g5, g6⟩ := clear_any hk f c z hzz B W t l d hc hW hz hB ht hl K
  exact g6.trans (h e B' W' t' l' d' g1 g2 g3 g4 g5)
end
end Go.Proofs.YtgkopcfbdcbjbaaD
