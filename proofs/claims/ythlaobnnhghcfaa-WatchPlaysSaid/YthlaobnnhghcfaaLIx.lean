/- The first such element; what is left without such ones: loops that search, loops that take away. -/
import Derived.Test.YthlaobnnhghcfaaPM
namespace Go.Proofs.YthlaobnnhghcfaaD
open Go Go.Proofs.YthlaobnnhghcfaaS Go.Proofs
set_option linter.unusedVariables false
set_option linter.unusedSimpArgs false
section
variable {X V α : Type}
/-- The place of the first such, from a place on. -/
def ixf (p : α → Bool) : Nat → List α → Option Nat
  | _, [] => none
  | i, a :: l => if p a = true then some i else ixf p (i + 1) l
theorem ixf_some {p : α → Bool} : ∀ {l : List α} {i j : Nat}, ixf p i l = some j → i ≤ j ∧ j < i + l.length ∧ (∃ a, l[j - i]? = some a ∧ p a = true) ∧ ∀ q, i ≤ q → q < j → ∀ a, l[q - i]? = some a → p a = false
  | [], i, j, h => by cases h
  | a :: l, i, j, h => by
    unfold ixf at h
    split at h
    · cases h; exact ⟨Nat.le_refl _, by simp, ⟨a, by simp, by assumption⟩, fun q h1 h2 => by omega⟩
    · rename_i hpa
      obtain ⟨h1, h4, ⟨b, h2, h3⟩, h5⟩ := ixf_some h
      refine ⟨by omega, by simp only [List.length_cons]; omega, ⟨b, ?_, h3⟩, fun q hq1 hq2 c hc => ?_⟩
      · rw [show j - i = (j - (i + 1)) + 1 by omega]
        simpa using h2
      · rcases Nat.eq_or_lt_of_le hq1 with e | e
        · subst e
          simp at hc
          subst hc
          simpa using hpa
        · refine h5 q (by omega) hq2 c ?_
          rw [show q - i = (q - (i + 1)) + 1 by omega] at hc
          simpa using hc
theorem ixf_none {p : α → Bool} : ∀ {l : List α} {i : Nat}, ixf p i l = none → ∀ a ∈ l, p a = false
  | [], i, h, a, ha => by simp at ha
  | b :: l, i, h, a, ha => by
    unfold ixf at h
    split at h
    · cases h
    · rename_i hb
      rcases List.mem_cons.1 ha with rfl | ha
      · simpa using hb
      · exact ixf_none h a ha
def ixI : Option Nat → Int
  | none => -1
  | some j => j
/-- A loop that searches. -/
theorem ixLoop {T : (V → Option X) → V → Option X} (S : Nat → V) (p : α → Bool) (l : List α) (K : Int → Option X)
    (hstep : ∀ (i : Nat) rec (h : i < l.length), T rec (S i) = bif p l[i] then K i else rec (S (i + 1))) (hend : ∀ rec, T rec (S l.length) = K (-1))
    (k i : Nat) (hi : i ≤ l.length) (hk : l.length - i < k) : iterV T k (S i) = K (ixI (ixf p i (l.drop i))) := by
  refine iterV_spec S (fun i => K (ixI (ixf p i (l.drop i)))) l.length (fun i rec h hr => ?_) (fun rec => ?_) k i hi hk
  · rw [hstep i rec h, hr, List.drop_eq_getElem_cons h]
    conv => rhs; unfold ixf
    cases p l[i] <;> rfl
  · rw [hend, List.drop_length]; rfl
theorem ixLoop0 {T : (V → Option X) → V → Option X} (S : Nat → V) (p : α → Bool) (l : List α) (K : Int → Option X)
    (hstep : ∀ (i : Nat) rec (h : i < l.length), T rec (S i) = bif p l[i] then K i else rec (S (i + 1))) (hend : ∀ rec, T rec (S l.length) = K (-1))
    (k : Nat) (hk : l.length < k) : iterV T k (S 0) = K (ixI (ixf p 0 l)) := by
  have := ixLoop S p l K hstep hend k 0 (Nat.zero_le _) (by omega)
  rwa [List.drop_zero] at this
theorem ixf_filter {p : α → Bool} : ∀ {l : List α} {i j : Nat}, ixf p i l = some j → (l.take (j - i + 1)).filter (fun a => !p a) = l.take (j - i)
  | [], i, j, h => by cases h
  | a :: l, i, j, h => by
    have h0 := h
    unfold ixf at h
    split at h
    · rename_i hp
      cases h
      simp [hp]
    · rename_i hp
      obtain ⟨h1, _⟩ := ixf_some h
      have := ixf_filter h
      rw [show j - i + 1 = (j - (i + 1) + 1) + 1 by omega, List.take_succ_cons, List.filter_cons_of_pos (by simp [hp]), this, show j - i = (j - (i + 1)) + 1 by omega, List.take_succ_cons]
/-- A loop that takes away what is such. -/
theorem dfLoop {T : (V → Option X) → V → Option X} (S : Nat → Nat → List CV → V) (p : α → Bool) (cv : α → CV) (l : List α) (K : Nat × List CV → Option X)
    (hstep : ∀ (i j : Nat) (row : List CV) rec (h : j < l.length), i < j → row.length = l.length → row[j]? = some (cv l[j]) → T rec (S i j row) = bif !p l[j] then rec (S (i + 1) (j + 1) (row.set i (cv l[j]))) else rec (S i (j + 1) row))
    (hend : ∀ (i : Nat) (row : List CV) rec, i ≤ l.length → row.length = l.length → T rec (S i l.length row) = K (i, row.take i)) :
    ∀ (k i j : Nat) (row : List CV), j ≤ l.length → l.length - j < k → i < j → row.length = l.length → row.drop j = (l.drop j).map cv → row.take i = ((l.take j).filter fun a => !p a).map cv →
      iterV T k (S i j row) = K ((l.filter fun a => !p a).length, (l.filter fun a => !p a).map cv)
  | 0, i, j, row, _, hk, _, _, _, _ => absurd hk (Nat.not_lt_zero _)
  | k + 1, i, j, row, hj, hk, hij, hlen, hdrop, htake => by
    show T (iterV T k) (S i j row) = _
    have hi : i = ((l.take j).filter fun a => !p a).length := by
      have := congrArg List.length htake
      simp only [List.length_take, List.length_map] at this
      omega
    rcases Nat.lt_or_ge j l.length with h | h
    · have hr : row[j]? = some (cv l[j]) := by
        have := congrArg (·[0]?) hdrop
        simp only [List.getElem?_drop, Nat.add_zero, List.getElem?_map, List.getElem?_eq_getElem h, Option.map_some] at this
        exact this
      have hd1 : row.drop (j + 1) = (l.drop (j + 1)).map cv := by
        have := congrArg (List.drop 1) hdrop
        rwa [List.drop_drop, ← List.map_drop, List.drop_drop] at this
      rw [hstep i j row _ h hij hlen hr]
      have ht : l.take (j + 1) = l.take j ++ [l[j]] := by rw [List.take_append_getElem h]
      cases hp : p l[j] with
      | true =>
        show iterV T k (S i (j + 1) row) = _
        refine dfLoop S p cv l K hstep hend k i (j + 1) row h (by omega) (by omega) hlen hd1 ?_
        rw [ht, List.filter_append, htake]
        simp [hp]
      | false =>
        show iterV T k (S (i + 1) (j + 1) (row.set i (cv l[j]))) = _
        refine dfLoop S p cv l K hstep hend k (i + 1) (j + 1) _ h (by omega) (by omega) (by rw [List.length_set]; exact hlen) ?_ ?_
        · rw [List.drop_set_of_lt (by omega)]; exact hd1
        · rw [ht, List.filter_append, List.map_append, ← htake, List.take_set_succ_aux (by omega)]
          simp [hp]
    · have : j = l.length := by omega
      subst this
      rw [hend i row _ (by omega) hlen, htake, hi]
      rw [List.take_length]
where
  List.take_set_succ_aux {row : List CV} {i : Nat} {x : CV} (h : i < row.length) : (row.set i x).take (i + 1) = row.take i ++ [x] := by
    rw [List.take_succ_eq_append_getElem (by rw [List.length_set]; exact h)]
    simp [List.take_set_of_le]
end
end Go.Proofs.YthlaobnnhghcfaaD
