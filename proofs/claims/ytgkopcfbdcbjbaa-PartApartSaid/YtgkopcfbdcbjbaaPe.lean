/- PartApart, the law. -/
import Derived.Test.YtgkopcfbdcbjbaaPd
namespace Go.Proofs.YtgkopcfbdcbjbaaD
open Go Go.Proofs.YtgkopcfbdcbjbaaS Go.Proofs
set_option linter.unusedVariables false
set_option linter.unusedSimpArgs false
section
variable {X : Type}
theorem clear_k {k : Nat} (hk : 300000 < k) (f c z : Nat) (hzz : z ≤ 4096) (B W : List Int) (t : Nat) (l : Int) (d : Bool) (hc : f + c ≤ W.length) (hW : W.length ≤ 64) (hz : W.length * z = B.length) (hB : B.length ≤ 262144) (ht : t ≤ 1073741824) (hl : l < 9223372036854775808) (K : Int × Int × Int × Nat × Int × Nat × Int × Int × Bool × List CV × List CV → Option X) (R : Option X)
    (h : ∀ e B' W' t' l' d', W'.length = W.length → t' ≤ 1073741824 → l' < 9223372036854775808 → Aside (f * z) ((f + c) * z) B B' → (d = false → l < 0 → e = 0 ∧ d' = false ∧ l' = l ∧ ∀ j, f * z ≤ j → j < (f + c) * z → B'[j]? = some 255) → K (e, pl f c B' z W' t' l' d') = R) :
    f9 k K (f : Int) (c : Int) B.length (z : Int) W.length (t : Int) l d (by8 B) (by64 W) = R := by
  obtain ⟨e, B', W', t', l', d', g1, g2, g3, g4, g5, g6⟩ := clear_any hk f c z hzz B W t l d hc hW hz hB ht hl K
  exact g6.trans (h e B' W' t' l' d' g1 g2 g3 g4 g5)
theorem elim_r {A B C : Type} (f : A → C) (g : B → C) (x : B) : Sum.elim f g (.inr x) = g x := rfl
theorem apart_eq {k : Nat} (K : Bool → Option X) (hk : 400000 < k) (x : Int) (xs bs : List Int) (cl : Bool) : f3 k K x (by8 xs) (by8 bs) cl = K true := by
  unfold f3 f3_A f3_T
  refine (alive_eq _ hk).trans ?_
  refine (bifF rfl).trans ?_
  by_cases h1 : x > 64
  · exact bifT (decide_eq_true h1)
  refine (bifF (decide_eq_false h1)).trans ?_
  by_cases h2 : (xs.length : Int) > 32
  · exact bifT (decide_eq_true (by rw [by8_length]; exact h2))
  refine (bifF (decide_eq_false (by rw [by8_length]; exact h2))).trans ?_
  by_cases h3 : (bs.length : Int) > 32
  · exact bifT (decide_eq_true (by rw [by8_length]; exact h3))
  refine (bifF (decide_eq_false (by rw [by8_length]; exact h3))).trans ?_
  obtain ⟨z, B, W, z1, z2, hW, hL, hcl, hN⟩ := new6 (X := X) hk x h1
  refine (hN _).trans ?_
  have hz : W.length * z = B.length := by rw [hW, hL]
  have hB : B.length ≤ 262144 := by omega
  have p1 := fun K => pnew_eq (X := X) (k := k) K 0 2 z (-1) B W 0 false hB hz (by omega)
  have n1 : nwP W.length 0 2 = true := decide_eq_true (by omega)
  have p2 := fun K => pnew_eq (X := X) (k := k) K 2 3 z (-1) B W 0 false hB hz (by omega)
  have n2 : nwP W.length 2 3 = true := decide_eq_true (by omega)
  simp only [if_pos n1] at p1
  simp only [if_pos n2] at p2
  refine (p1 _).trans ?_
  refine (elim_r _ _ _).trans ?_
  refine (p2 _).trans ?_
  refine (elim_r _ _ _).trans ?_
  refine (pw_ok (X := X) hk xs 0 2 z B W 0 hB hz (by omega) (by omega) (by omega) (hcl _ _) _).trans ?_
  refine (bifF rfl).trans ?_
  have hB1l : (over B (0 * z) xs).length = B.length := over_len (by omega)
  have hd1 := drop_over B (0 * z) (2 * z) xs (by omega) (by omega)
  have hp1 : (over B (0 * z) xs).take xs.length = xs := by simp [over]
  have ht1 : tmin 0 xs.length ≤ 1073741824 := by unfold tmin; omega
  generalize over B (0 * z) xs = B1 at hB1l hd1 hp1 ⊢
  generalize tmin 0 xs.length = t1 at ht1 ⊢
  refine (pw_ok (X := X) hk bs 2 3 z B1 W t1 (by omega) (by omega) (by omega) ht1 (by omega) ((clB_drop bs hd1).trans (hcl _ _)) _).trans ?_
  refine (bifF rfl).trans ?_
  have hB2l : (over B1 (2 * z) bs).length = B1.length := over_len (by omega)
  have hq2 : ((over B1 (2 * z) bs).drop (2 * z)).take bs.length = bs := by rw [over_drop _ _ _ (by omega)]; simp
  have hp2 : (over B1 (2 * z) bs).take xs.length = xs := by
    unfold over
    rw [List.append_assoc, List.take_append_of_le_length (by simp; omega), List.take_take, Nat.min_eq_left (by omega)]
    exact hp1
  have ht2 : tmin t1 bs.length ≤ 1073741824 := by unfold tmin; omega
  generalize over B1 (2 * z) bs = B2 at hB2l hq2 hp2 ⊢
  generalize tmin t1 bs.length = t2 at ht2 ⊢
  cases cl with
  | false =>
    refine (bifF rfl).trans ?_
    exact tail_eq K hk xs bs false z B2 W t2 _ rfl rfl (by omega) (by omega) z1 hW (by omega) (by omega) hq2 (fun _ => hp2) (fun h => absurd h (by decide))
  | true =>
    refine (bifT rfl).trans ?_
    have hz2 : W.length * z = B2.length := by omega
    refine clear_k (X := X) (k := k) (by omega) 0 2 z (by omega) B2 W t2 (-1) false (by omega) (by omega) hz2 (by omega) ht2 (by omega) _ _ ?_
    intro e B3 W3 t3 l3 d3 g1 g2 g3 g4 g5
    obtain ⟨a0, a1, a2, a3⟩ := g5 rfl (by decide)
    subst a0 a1 a2
    refine (bifF rfl).trans ?_
    refine tail_eq K hk xs bs true z B3 W3 t3 _ rfl rfl (by omega) (by omega) z1 (by omega) (by rw [g1, g4.1]; exact hz2) (by rw [g4.1]; omega) ?_ (fun h => absurd h (by decide)) (fun _ j hj => a3 j (by omega) (by omega))
    have hd3 : B3.drop (2 * z) = B2.drop (2 * z) := by
      apply List.ext_getElem?
      intro i
      rw [List.getElem?_drop, List.getElem?_drop, g4.2 _ (by omega)]
    rw [hd3]
    exact hq2
theorem law_apart (x0 : Int) (_ : (Lit.int .i64 x0).wf = true) (x1 : List Int) (_ : x1.length ≤ maxLen ∧ ∀ y ∈ x1, (Lit.int .u8 y).wf = true) (x2 : List Int) (_ : x2.length ≤ maxLen ∧ ∀ y ∈ x2, (Lit.int .u8 y).wf = true) (x3 : Bool) (_ : True) :
    ∃ k, ∀ K : Bool → Option Out, f3 k K x0 (x1.map fun y => .int .u8 y) (x2.map fun y => .int .u8 y) x3 = K true :=
  ⟨400001, fun K => apart_eq K (by omega) x0 x1 x2 x3⟩
end
end Go.Proofs.YtgkopcfbdcbjbaaD
