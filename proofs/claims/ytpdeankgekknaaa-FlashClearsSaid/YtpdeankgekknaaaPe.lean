/- A flash: a program, and an erase, that the power cuts. -/
import Derived.Test.YtpdeankgekknaaaPd
namespace Go.Proofs.YtpdeankgekknaaaD
open Go Go.Proofs.YtpdeankgekknaaaS Go.Proofs
set_option linter.unusedVariables false
set_option linter.unusedSimpArgs false
section
variable {X : Type}
theorem cut_eq {k : Nat} (K : Nat × Int × Nat × Int × Int × Bool × List CV × List CV → Option X) (n sec l : Int) (B W : List Int) (t : Nat) (d : Bool) : f17 k K n B.length sec W.length t l d (by8 B) (by64 W) = K (fl B sec W t (if (-1) > n then (-1) else n) d) := by
  unfold f17 f17_A f17_T
  simp only [t8, t64]; rfl
theorem restore_eq {k : Nat} (K : Nat × Int × Nat × Int × List CV × List CV → Option X) (sec l : Int) (B W : List Int) (t : Nat) (d : Bool) : f18 k K B.length sec W.length t l d (by8 B) (by64 W) = K (B.length, sec, W.length, (t : Int), by8 B, by64 W) := by
  unfold f18 f18_A f18_T
  simp only [t8, t64]
theorem wear_eq {k : Nat} (K : Int × Nat × Int × Nat × Int × Int × Bool × List CV × List CV → Option X) (s : Nat) (sec l : Int) (B W : List Int) (t : Nat) (d : Bool) (hs : s < W.length) : f23 k K (s : Int) B.length sec W.length t l d (by8 B) (by64 W) = K (W[s], fl B sec W t l d) := by
  unfold f23 f23_A f23_T
  have hg : (by64 W)[s]? = some (.int .i64 W[s]) := by simp [by64, List.getElem?_eq_getElem hs]
  refine (bifF (decide_eq_false (by omega))).trans ?_
  refine (bifF (decide_eq_false (by omega))).trans ?_
  simp only [t8, t64]
  simp only [dec0, grd_true, Int.toNat_natCast, Nat.zero_add, decLt, hs, decide_true, hg, Option.bind_some, isI_int, toI_int]
  rfl
/-- What is laid into a flash. -/
def laid (B ws : List Int) : List Int := ws.take (min ws.length B.length) ++ B.drop (min ws.length B.length)
theorem laid_len (B ws : List Int) : (laid B ws).length = B.length := by simp [laid]; omega
theorem load_eq {k : Nat} (K : Nat × Int × Nat × Int × List CV × List CV → Option X) (ws : List Int) (sec l : Int) (B W : List Int) (t : Nat) (d : Bool) : f21 k K (by8 ws) B.length sec W.length t l d (by8 B) (by64 W) = K ((laid B ws).length, sec, W.length, (t : Int), by8 (laid B ws), by64 W) := by
  unfold f21 f21_A f21_T
  refine (grdT (decide_eq_true (by rw [by8_length]; omega))).trans ?_
  have e : List.take 0 (by8 B) ++ List.take (min (by8 ws).length B.length) (by8 ws) ++ List.drop (0 + min (by8 ws).length B.length) (by8 B) = by8 (laid B ws) := by
    rw [by8_length, List.take_zero, List.nil_append, Nat.zero_add, ← by8_take, ← by8_drop, ← by8_append]; rfl
  simp only [e]
  have h := restore_eq (k := k) (X := X) (fun u1 => K (u1.1, u1.2.1, u1.2.2.1, u1.2.2.2.1, List.take (0 + u1.1) u1.2.2.2.2.1, List.take (0 + u1.2.2.1) u1.2.2.2.2.2)) sec l (laid B ws) W t d
  rw [laid_len] at h
  refine h.trans ?_
  have := t8 (laid B ws)
  rw [laid_len] at this
  simp only [t64, this, laid_len]
theorem over_get (B : List Int) (a : Nat) (xs : List Int) (h : a + xs.length ≤ B.length) (i : Nat) : (over B a xs)[i]? = if a ≤ i ∧ i < a + xs.length then xs[i - a]? else B[i]? := by
  unfold over
  have hl : (B.take a).length = a := by simp; omega
  by_cases h1 : i < a
  · rw [if_neg (by omega), List.append_assoc, List.getElem?_append_left (by omega), List.getElem?_take_of_lt h1]
  · by_cases h2 : i < a + xs.length
    · rw [if_pos ⟨by omega, h2⟩, List.append_assoc, List.getElem?_append_right (by omega), hl, List.getElem?_append_left (by omega)]
    · rw [if_neg (by omega), List.getElem?_append_right (by simp; omega), List.getElem?_drop]
      congr 1
      simp; omega
/-- What of a flash is turned. -/
structure Made (B C : List Int) (a : Int) (xs : List Int) (N : Nat) (e : Int) (d : Bool) : Prop where
  len : C.length = B.length
  down : d = (e == 30)
  get : ∀ i, i < B.length → C[i]? = if (a ≤ i ∧ i - a < xs.length ∧ i - a < N ∧ 0 ≤ a) ∧ (e = 0 ∨ e = 30) then xs[(i - a).toNat]? else B[i]?
theorem endR_made (B : List Int) (a : Nat) (xs : List Int) (sec : Int) (W : List Int) (t N : Nat) (h : a + xs.length ≤ B.length) :
    ∃ C e l' t' d, endR B a xs sec W t N = (e, fl C sec W t' l' d) ∧ Made B C a xs N e d ∧ (e = 30 ↔ N < xs.length) ∧ (e = 0 ∨ e = 30) ∧ t' ≤ 1073741824 := by
  have hg : goes (N : Int) xs.length = min xs.length N := by unfold goes; rw [if_neg (by omega)]; simp
  unfold endR
  rw [hg]
  by_cases hN : min xs.length N < xs.length
  · rw [if_pos hN]
    have hm : min xs.length N = N := by omega
    rw [hm]
    have htl : (xs.take N).length = N := by rw [List.length_take]; omega
    refine ⟨_, 30, _, _, true, rfl, ⟨over_len (by omega), rfl, fun i hi => ?_⟩, by omega, .inr rfl, Nat.min_le_right _ _⟩
    rw [over_get _ _ _ (by omega), htl]
    by_cases hc : a ≤ i ∧ i < a + N
    · rw [if_pos hc, if_pos ⟨by omega, .inr rfl⟩, List.getElem?_take_of_lt (by omega)]
      congr 1; omega
    · rw [if_neg hc, if_neg (fun q => hc (by omega))]
  · rw [if_neg hN]
    refine ⟨_, 0, _, _, false, rfl, ⟨over_len h, rfl, fun i hi => ?_⟩, by omega, .inl rfl, Nat.min_le_right _ _⟩
    rw [over_get _ _ _ h]
    by_cases hc : a ≤ i ∧ i < a + xs.length
    · rw [if_pos hc, if_pos ⟨by omega, .inl rfl⟩]
      congr 1; omega
    · rw [if_neg hc, if_neg (fun q => hc (by omega))]
theorem prog_made {k : Nat} (at_ : Int) (xs : List Int) (sec : Int) (B W : List Int) (t N : Nat) (hk : 300000 < k) (hB : B.length ≤ 262144) (ht : t ≤ 1073741824) (hN : N < 128) :
    ∃ C e l' t' d, Made B C at_ xs N e d ∧ t' ≤ 1073741824 ∧ ∀ (Y : Type) (K : Int × Nat × Int × Nat × Int × Int × Bool × List CV × List CV → Option Y), f16 k K at_ (by8 xs) B.length sec W.length t N false (by8 B) (by64 W) = K (e, fl C sec W t' l' d) := by
  have no : ∀ e : Int, e = 1 ∨ e = 31 → Made B B at_ xs N e false := fun e he => ⟨rfl, by rcases he with rfl | rfl <;> rfl, fun i hi => by rw [if_neg (fun q => by rcases he with rfl | rfl <;> rcases q.2 with h | h <;> cases h)]⟩
  cases hw : wiB B.length at_ xs.length with
  | false =>
    refine ⟨B, 1, N, t, false, no 1 (.inl rfl), ht, fun Y K => (prog_eq K hk at_ xs sec N B W t false hB ht (by omega)).trans ?_⟩
    rw [if_neg (by decide), if_pos hw]
  | true =>
    obtain ⟨g1, g2, g3, g4⟩ := of_decide_eq_true hw
    cases hc : clB B at_.toNat xs with
    | false =>
      refine ⟨B, 31, N, t, false, no 31 (.inr rfl), ht, fun Y K => (prog_eq K hk at_ xs sec N B W t false hB ht (by omega)).trans ?_⟩
      rw [if_neg (by decide), if_neg (by rw [hw]; decide), if_pos hc]
    | true =>
      obtain ⟨a, rfl⟩ : ∃ n : Nat, at_ = n := ⟨at_.toNat, by omega⟩
      obtain ⟨C, e, l', t', d, h1, h2, h3, h4, h5⟩ := endR_made B a xs sec W t N (by omega)
      refine ⟨C, e, l', t', d, h2, h5, fun Y K => (prog_eq K hk (a : Int) xs sec N B W t false hB ht (by omega)).trans ?_⟩
      rw [if_neg (by decide), if_neg (by rw [hw]; decide), if_neg (by rw [hc]; decide), Int.toNat_natCast, h1]
theorem maskN (x : Int) (n : Nat) (hn : n < 62) : ∃ r : Nat, r < 2 ^ n ∧ bop .and .i64 x ((2 ^ n - 1 : Nat) : Int) = r := by
  rw [bop_mask64 x n hn]
  have hp : 0 < 2 ^ n := Nat.two_pow_pos n
  have h1 := Int.emod_lt_of_pos x (show (0 : Int) < ((2 ^ n : Nat) : Int) by omega)
  have h2 := Int.emod_nonneg x (show ((2 ^ n : Nat) : Int) ≠ 0 by omega)
  exact ⟨(x % ((2 ^ n : Nat) : Int)).toNat, by omega, by omega⟩
end
end Go.Proofs.YtpdeankgekknaaaD
