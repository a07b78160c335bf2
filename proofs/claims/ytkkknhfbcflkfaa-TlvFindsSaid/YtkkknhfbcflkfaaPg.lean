/- Bytes as lists: the two answers. -/
import Derived.Test.YtkkknhfbcflkfaaPf
namespace Go.Proofs.YtkkknhfbcflkfaaD
open Go Go.Proofs.YtkkknhfbcflkfaaS Go.Proofs
set_option linter.unusedVariables false
set_option linter.unusedSimpArgs false
section
variable {X : Type}
/-- What is read behind what is there. -/
def RK (K : Nat × Int × Int × List CV → Option X) (A : List CV) (r : Int × Int × TS) : Option X := bif (r.1 != 0) then K (0, r.1, r.2.1, []) else K (A.length + r.2.2.len, 0, r.2.1, A ++ r.2.2.row)
theorem ln_bnd {c : Int} {b : List Int} (hb : Byt (c :: b)) : 0 ≤ ln c b ∧ ln c b < 16777216 := by
  have hc := hb c List.mem_cons_self
  have hbb : Byt b := fun x hx => hb x (List.mem_cons_of_mem _ hx)
  obtain ⟨l1, l2⟩ := lens_eq hc
  unfold ln
  split
  · exact num_bnd ((hbb.drop _).take _) (by rw [List.length_take]; omega)
  · omega
def elv (a id : Int) (v : List Int) (ks : TS) : CV := .agg [.int .i64 a, .int .i64 id, .slc none (by8 v), .slc (some 4) ks.row]
theorem rdT_cons (f : Nat) (c : Int) (b : List Int) (p n : Int) : rdT (f + 1) (c :: b) p n =
    if inK (c / 64) p = false ∨ b.length < ids c + lens c then (20, n, .nil)
    else if n - 1 < 0 then (3, n - 1, .nil)
    else if ln c b > ((b.drop (ids c + lens c)).length : Int) then (20, n - 1, .nil)
    else
      match (if hold (c / 64) = true then rdT f ((b.drop (ids c + lens c)).take (ln c b).toNat) (c / 64) (n - 1) else (0, n - 1, .nil)) with
      | (e, n1, ks) => if e ≠ 0 then (e, n1, .nil) else
        match rdT f ((b.drop (ids c + lens c)).drop (ln c b).toNat) p n1 with
        | (e2, n2, r) => if e2 ≠ 0 then (e2, n2, .nil) else (0, n2, .cons (c / 64) (num (b.take (ids c))) (if hold (c / 64) = true then [] else (b.drop (ids c + lens c)).take (ln c b).toNat) ks r) := by
  conv => lhs; unfold rdT
  by_cases h1 : inK (c / 64) p = false
  · rw [if_pos h1, if_pos (.inl h1)]
  · rw [if_neg h1]
    by_cases h2 : b.length < ids c + lens c
    · rw [if_pos h2, if_pos (.inr h2)]
    · rw [if_neg h2, if_neg (show ¬ (inK (c / 64) p = false ∨ b.length < ids c + lens c) from fun h => h.elim h1 h2)]
      rfl
theorem rdT_left : ∀ (f : Nat) (b : List Int) (p n : Int), n ≤ 64 → (rdT f b p n).2.1 ≤ n ∧ (0 ≤ n → -1 ≤ (rdT f b p n).2.1 ∧ ((rdT f b p n).1 = 0 → 0 ≤ (rdT f b p n).2.1))
  | 0, b, p, n, h => ⟨Int.le_refl _, fun h0 => ⟨by show -1 ≤ n; omega, fun e => by simp [rdT] at e⟩⟩
  | f + 1, [], p, n, h => ⟨Int.le_refl _, fun h0 => ⟨by show -1 ≤ n; omega, fun _ => h0⟩⟩
  | f + 1, c :: b, p, n, h => by
    rw [rdT_cons]
    split
    · exact ⟨Int.le_refl _, fun h0 => ⟨by show -1 ≤ n; omega, fun _ => h0⟩⟩
    split
    · next h1 => exact ⟨by show n - 1 ≤ n; omega, fun h0 => ⟨by show -1 ≤ n - 1; omega, fun e => by cases e⟩⟩
    split
    · exact ⟨by show n - 1 ≤ n; omega, fun h0 => ⟨by show -1 ≤ n - 1; omega, fun e => by cases e⟩⟩
    next h1 _ =>
    have key : (if hold (c / 64) = true then rdT f ((b.drop (ids c + lens c)).take (ln c b).toNat) (c / 64) (n - 1) else (0, n - 1, .nil)).2.1 ≤ n - 1 ∧ -1 ≤ (if hold (c / 64) = true then rdT f ((b.drop (ids c + lens c)).take (ln c b).toNat) (c / 64) (n - 1) else (0, n - 1, .nil)).2.1 ∧ ((if hold (c / 64) = true then rdT f ((b.drop (ids c + lens c)).take (ln c b).toNat) (c / 64) (n - 1) else (0, n - 1, .nil)).1 = 0 → 0 ≤ (if hold (c / 64) = true then rdT f ((b.drop (ids c + lens c)).take (ln c b).toNat) (c / 64) (n - 1) else (0, n - 1, .nil)).2.1) := by
      split
      · have := rdT_left f ((b.drop (ids c + lens c)).take (ln c b).toNat) (c / 64) (n - 1) (by omega)
        have := this.2 (by omega)
        exact ⟨(rdT_left f _ _ (n - 1) (by omega)).1, this⟩
      · exact ⟨Int.le_refl _, by show -1 ≤ n - 1; omega, fun _ => by show 0 ≤ n - 1; omega⟩
    generalize (if hold (c / 64) = true then rdT f ((b.drop (ids c + lens c)).take (ln c b).toNat) (c / 64) (n - 1) else (0, n - 1, .nil)) = q at key ⊢
    obtain ⟨e, n1, ks⟩ := q
    dsimp only at key ⊢
    split
    · next he => exact ⟨by show n1 ≤ n; omega, fun h0 => ⟨key.2.1, fun h => absurd h he⟩⟩
    · next he =>
      have he : e = 0 := by simpa using he
      have k3 := key.2.2 he
      have := rdT_left f ((b.drop (ids c + lens c)).drop (ln c b).toNat) p n1 (by omega)
      generalize rdT f ((b.drop (ids c + lens c)).drop (ln c b).toNat) p n1 = q2 at this ⊢
      obtain ⟨e2, n2, r⟩ := q2
      dsimp only at this ⊢
      have t2 := this.2 k3
      split
      · next he2 => exact ⟨by show n2 ≤ n; omega, fun h0 => ⟨t2.1, fun h => absurd h he2⟩⟩
      · next he2 => exact ⟨by show n2 ≤ n; omega, fun h0 => ⟨t2.1, fun _ => t2.2 (by simpa using he2)⟩⟩
abbrev RI (k : Nat) : f40_R := fun X => @f40 X k
theorem tk1 (e : CV) : List.take 1 (List.drop 0 [e]) = [e] := rfl
theorem read_loop : ∀ (f : Nat) (b : List Int) (p n : Int) (A : List CV) (k kk : Nat) (K : Nat × Int × Int × List CV → Option X), b.length < f → b.length + 200 < k → b.length < kk → Byt b → 0 ≤ n → n ≤ 64 → A.length + b.length ≤ 10000000000 →
    iterV (f28_L1 (RI k) (fun X => @f34 X k) (fun X => @f41 X k) (f28_r k) k K) kk (by8 b, p, A.length, A, n) = RK K A (rdT f b p n)
  | 0, b, p, n, A, k, kk, K, hf, _, _, _, _, _, _ => absurd hf (Nat.not_lt_zero _)
  | f + 1, [], p, n, A, k, kk, K, hf, hk, hkk, hb, h0, h1, hA => by
    obtain ⟨kk, rfl⟩ : ∃ j, kk = j + 1 := ⟨kk - 1, by omega⟩
    refine (iterV_one _ _ _).trans ?_
    unfold f28_L1 f28_T1
    dsimp only
    refine (bifF rfl).trans ?_
    rw [Nat.zero_add, List.take_length]
    show _ = K (A.length + 0, 0, n, A ++ [])
    rw [List.append_nil, Nat.add_zero]
  | f + 1, c :: b, p, n, A, k, kk, K, hf, hk, hkk, hb, h0, h1, hA => by
    obtain ⟨kk, rfl⟩ : ∃ j, kk = j + 1 := ⟨kk - 1, by omega⟩
    simp only [List.length_cons] at hf hk hkk hA
    have hc := hb c List.mem_cons_self
    have hbb : Byt b := fun x hx => hb x (List.mem_cons_of_mem _ hx)
    obtain ⟨i1, i2, i3⟩ := ids_eq hc
    obtain ⟨l1, l2⟩ := lens_eq hc
    have hln := ln_bnd hb
    refine (iterV_one _ _ _).trans ?_
    have ih := fun (b' : List Int) (n : Int) (A : List CV) => read_loop f b' p n A k kk K
    generalize hrec : iterV (f28_L1 (RI k) (fun X => @f34 X k) (fun X => @f41 X k) (f28_r k) k K) kk = rec at *
    have hit := fun {X : Type} (K : OutI → Option X) => item_eq (k := k) K c b p hb (by omega) (by omega)
    rw [rdT_cons]
    unfold f28_L1 f28_T1
    dsimp only
    refine (bifT (decide_eq_true (by simp [by8]))).trans ?_
    by_cases c1 : inK (c / 64) p = false ∨ b.length < ids c + lens c
    · rw [if_pos c1]
      obtain ⟨i, m, rest, h⟩ := (hit (fun _ => (none : Option X))).1 c1
      refine (h _).trans ?_
      exact bifT rfl
    rw [if_neg c1]
    have c1a : inK (c / 64) p = true := by
      cases q : inK (c / 64) p with
      | true => rfl
      | false => exact absurd (.inl q) c1
    have c1b : ids c + lens c ≤ b.length := Nat.not_lt.1 fun q => c1 (.inr q)
    refine ((hit _).2 c1a c1b).trans ?_
    refine (bifF rfl).trans ?_
    rw [wrap64 (n := n - 1) (by omega) (by omega)]
    by_cases c2 : n - 1 < 0
    · rw [if_pos c2]
      exact bifT (decide_eq_true c2)
    rw [if_neg c2]
    refine (bifF (decide_eq_false c2)).trans ?_
    dsimp only
    have hrl : (by8 (b.drop (ids c + lens c))).length = (b.drop (ids c + lens c)).length := by8_length _
    by_cases c3 : ln c b > ((b.drop (ids c + lens c)).length : Int)
    · rw [if_pos c3]
      exact bifT (decide_eq_true (by rw [hrl]; exact c3))
    rw [if_neg c3]
    refine (bifF (decide_eq_false (by rw [hrl]; exact c3))).trans ?_
    have hdl : (b.drop (ids c + lens c)).length ≤ b.length := by rw [List.length_drop]; omega
    have hrest : Byt (b.drop (ids c + lens c)) := hbb.drop _
    -- behind an element
    have tl : ∀ (v : List Int) (ks : TS) (n1 : Int), 0 ≤ n1 → n1 ≤ 64 →
        rec (by8 ((b.drop (ids c + lens c)).drop (ln c b).toNat), p, (A ++ [elv (c / 64) (num (b.take (ids c))) v ks]).length, A ++ [elv (c / 64) (num (b.take (ids c))) v ks], n1) =
          RK K A (match rdT f ((b.drop (ids c + lens c)).drop (ln c b).toNat) p n1 with
            | (e2, n2, r) => if e2 ≠ 0 then (e2, n2, .nil) else (0, n2, .cons (c / 64) (num (b.take (ids c))) v ks r)) := fun v ks n1 q0 q1 => by
      have hl2 : ((b.drop (ids c + lens c)).drop (ln c b).toNat).length ≤ b.length := by rw [List.length_drop]; omega
      refine (ih _ n1 _ (by omega) (by omega) (by omega) (hrest.drop _) q0 q1 (by rw [List.length_append, List.length_singleton]; omega)).trans ?_
      unfold RK
      generalize rdT f ((b.drop (ids c + lens c)).drop (ln c b).toNat) p n1 = q
      obtain ⟨e2, n2, r⟩ := q
      dsimp only
      by_cases he : e2 = 0
      · subst he
        rw [if_neg (show ¬ ((0 : Int) ≠ 0) by simp)]
        refine (bifF rfl).trans ?_
        refine Eq.trans ?_ (bifF rfl).symm
        rw [List.length_append, List.length_singleton, List.append_assoc]
        simp only [TS.len, TS.row, List.singleton_append, elv]
        rw [show A.length + 1 + r.len = A.length + (r.len + 1) by omega]
      · rw [if_pos he]
        have hb : (e2 != 0) = true := by simpa using he
        exact (bifT hb).trans (bifT hb).symm
    have J : ∀ (v : List Int) (ks : TS) (n1 : Int) (V W : List CV) (lv lk : Nat), List.take lv (List.drop 0 V) = by8 v → List.take lk (List.drop 0 W) = ks.row → 0 ≤ n1 → n1 ≤ 64 →
        f28_J1 (RI k) (fun X => @f34 X k) (fun X => @f41 X k) (f28_r k) k K rec (c / 64, num (b.take (ids c)), ln c b, by8 (b.drop (ids c + lens c)), true, [], []) (by8 (c :: b), p, A.length, A, n) (lv, lk, V, W, n1) =
          RK K A (match rdT f ((b.drop (ids c + lens c)).drop (ln c b).toNat) p n1 with
            | (e2, n2, r) => if e2 ≠ 0 then (e2, n2, .nil) else (0, n2, .cons (c / 64) (num (b.take (ids c))) v ks r)) := fun v ks n1 V W lv lk hV hW q0 q1 => by
      unfold f28_J1
      dsimp only
      rw [hV, hW, tk1]
      refine (grdT (decide_eq_true (by simp; omega))).trans ?_
      refine (grdT (decide_eq_true hln.1)).trans ?_
      refine (grdT (decide_eq_true (by rw [hrl]; omega))).trans ?_
      refine (grdT (decide_eq_true (Int.le_refl _))).trans ?_
      rw [List.take_length, by8_drop, by8_length, List.take_of_length_le (by rw [by8_length, List.length_drop]; exact Nat.le_refl _)]
      have := tl v ks n1 q0 q1
      rw [List.length_append] at this
      exact this
    refine (holds_eq _ (c / 64)).trans ?_
    cases c5 : hold (c / 64) with
    | false =>
      refine (bifF rfl).trans ?_
      refine (grdT (decide_eq_true hln.1)).trans ?_
      refine (grdT (decide_eq_true (by rw [hrl]; omega))).trans ?_
      rw [Nat.sub_zero, List.drop_zero, by8_take]
      refine (clone_eq _ _ (by rw [by8_length, List.length_take]; omega)).trans ?_
      rw [by8_length]
      refine (J ((b.drop (ids c + lens c)).take (ln c b).toNat) .nil (n - 1) _ _ _ _ (d8 _) rfl (by omega) (by omega)).trans ?_
      rfl
    | true =>
      refine (bifT rfl).trans ?_
      rw [show (if true = true then rdT f ((b.drop (ids c + lens c)).take (ln c b).toNat) (c / 64) (n - 1) else (0, n - 1, TS.nil)) = rdT f ((b.drop (ids c + lens c)).take (ln c b).toNat) (c / 64) (n - 1) from rfl]
      refine (grdT (decide_eq_true hln.1)).trans ?_
      refine (grdT (decide_eq_true (by rw [hrl]; omega))).trans ?_
      rw [Nat.sub_zero, List.drop_zero, by8_take]
      have hl2 : ((b.drop (ids c + lens c)).take (ln c b).toNat).length ≤ b.length := by rw [List.length_take]; omega
      obtain ⟨k', rfl⟩ : ∃ j, k = j + 1 := ⟨k - 1, by omega⟩
      refine (read_loop f ((b.drop (ids c + lens c)).take (ln c b).toNat) (c / 64) (n - 1) [] k' k' _ (by omega) (by omega) (by omega) (hrest.take _) (by omega) (by omega) (by simp; omega)).trans ?_
      have hleft := rdT_left f ((b.drop (ids c + lens c)).take (ln c b).toNat) (c / 64) (n - 1) (by omega)
      conv => lhs; unfold RK
      generalize rdT f ((b.drop (ids c + lens c)).take (ln c b).toNat) (c / 64) (n - 1) = q at hleft ⊢
      obtain ⟨e, n1, ks⟩ := q
      dsimp only at hleft ⊢
      by_cases he : e = 0
      · subst he
        refine (bifF rfl).trans ?_
        refine (bifF rfl).trans ?_
        rw [if_neg (show ¬ ((0 : Int) ≠ 0) by simp)]
        exact J [] ks n1 _ _ _ _ rfl (by rw [List.drop_zero, List.length_nil, Nat.zero_add, List.nil_append, ← row_len, List.take_length]) ((hleft.2 (by omega)).2 rfl) (by omega)
      · have hbn : (e != 0) = true := by simpa using he
        refine (bifT hbn).trans ?_
        refine (bifT hbn).trans ?_
        rw [if_pos he]
        exact (bifT hbn).symm
theorem readT_eq {k : Nat} (K : Nat × Int × List CV → Option X) (b : List Int) (hb : Byt b) (hl : b.length ≤ 1000000000) (hk : b.length + 300 < k) :
    f16 k K (by8 b) = (let r := rdT (b.length + 1) b (-1) 64; bif (r.1 != 0) then K (0, r.1, []) else K (r.2.2.len, 0, r.2.2.row)) := by
  unfold f16 f16_A f16_T
  obtain ⟨k, rfl⟩ : ∃ j, k = j + 1 := ⟨k - 1, by omega⟩
  refine (read_loop (b.length + 1) b (-1) 64 [] k k _ (by omega) (by omega) (by omega) hb (by omega) (by omega) (by simp; omega)).trans ?_
  unfold RK
  generalize rdT (b.length + 1) b (-1) 64 = r
  obtain ⟨e, n1, ks⟩ := r
  dsimp only
  cases h : e != 0 with
  | true => rfl
  | false =>
    show K _ = K _
    rw [List.length_nil, Nat.zero_add, Nat.zero_add, List.nil_append, ← row_len, List.take_length]
end
end Go.Proofs.YtkkknhfbcflkfaaD
