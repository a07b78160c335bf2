/- The message of bytes: in plain words. -/
import Derived.Test.YtlgdoglffddjfaaLMsgV
namespace Go.Proofs.YtlgdoglffddjfaaD
open Go Go.Proofs.YtlgdoglffddjfaaS Go.Proofs
set_option linter.unusedVariables false
set_option linter.unusedSimpArgs false
section
variable {X : Type}
def ms0 : Ms := ⟨0, 0, 0, [], [], []⟩
abbrev OutR := Int × Int × Int × Nat × Nat × Nat × Int × List CV × List CV × List CV
def ResR (K : OutR → Option X) (r : Int × Ms) : Option X := K (r.2.kind, r.2.code, r.2.id, r.2.tok.length, r.2.opts.length, r.2.body.length, r.1, by8 r.2.tok, ops r.2.opts, by8 r.2.body)
/-- A token's size. -/
def tk (b : List Int) : Nat := (gt b 0 % 16).toNat
def NoHead (b : List Int) : Prop := b.length < 4 ∨ gt b 0 / 64 ≠ 1
def BadHead (b : List Int) : Prop := tk b > 8 ∨ used (gt b 1) = false ∨ (gt b 1 = 0 ∧ b.length ≠ 4) ∨ b.length < 4 + tk b
def msB (b : List Int) (os : List Op) (rest : List Int) : Ms := ⟨gt b 0 / 16 % 4, gt b 1, gt b 2 * 256 + gt b 3, (b.drop 4).take (tk b), os, rest.drop 1⟩
open Classical in
noncomputable def msgR (k : Nat) (b : List Int) : Int × Ms :=
  if NoHead b then (20, ms0) else if BadHead b then (20, ms0) else
  if (rd k (b.drop (4 + tk b)) 0 [] 0).1 ≠ 0 then ((rd k (b.drop (4 + tk b)) 0 [] 0).1, ms0) else
  if ((b.drop (4 + tk b)).drop (rd k (b.drop (4 + tk b)) 0 [] 0).2.1).length = 1 then (20, ms0) else
  if ((b.drop (4 + tk b)).drop (rd k (b.drop (4 + tk b)) 0 [] 0).2.1).length > 1201 then (2, ms0) else
  (0, msB b (rd k (b.drop (4 + tk b)) 0 [] 0).2.2 ((b.drop (4 + tk b)).drop (rd k (b.drop (4 + tk b)) 0 [] 0).2.1))
theorem and15 {c : Int} (h : 0 ≤ c) (h2 : c < 256) : bop .and .u8 c 15 = c % 16 := by
  obtain ⟨n, rfl⟩ := Int.eq_ofNat_of_zero_le h
  have : ∀ n : Nat, n < 256 → bop .and .u8 (n : Int) 15 = (n : Int) % 16 := by decide +kernel
  exact this n (by omega)
theorem and192 {c : Int} (h : 0 ≤ c) (h2 : c < 256) : (bop .and .u8 c 192 == 64) = decide (c / 64 = 1) := by
  obtain ⟨n, rfl⟩ := Int.eq_ofNat_of_zero_le h
  have : ∀ n : Nat, n < 256 → (bop .and .u8 (n : Int) 192 == 64) = decide ((n : Int) / 64 = 1) := by decide +kernel
  exact this n (by omega)
theorem and48 {c : Int} (h : 0 ≤ c) (h2 : c < 256) : IntKind.wrap .i64 (Int.tdiv (IntKind.wrap .i64 (bop .and .u8 c 48)) 16) = c / 16 % 4 := by
  obtain ⟨n, rfl⟩ := Int.eq_ofNat_of_zero_le h
  have : ∀ n : Nat, n < 256 → IntKind.wrap .i64 (Int.tdiv (IntKind.wrap .i64 (bop .and .u8 (n : Int) 48)) 16) = (n : Int) / 16 % 4 := by decide +kernel
  exact this n (by omega)
theorem or_byte {a b : Int} (ha : 0 ≤ a) (ha2 : a < 256) (hb : 0 ≤ b) (hb2 : b < 256) : bop .or .i64 (IntKind.wrap .i64 (a * 2 ^ 8)) b = a * 256 + b := by
  obtain ⟨x, rfl⟩ := Int.eq_ofNat_of_zero_le ha
  obtain ⟨y, rfl⟩ := Int.eq_ofNat_of_zero_le hb
  rw [wrap64 (by omega) (by omega)]
  rw [show ((x : Int) * 2 ^ 8) = ((x * 2 ^ 8 : Nat) : Int) from by omega]
  rw [bop_or64 (by omega) (by omega), or_add (by omega)]
  omega
theorem toI8 (n : Int) : CV.toI (CV.int .u8 n) = n := rfl
theorem sniff_no {k : Nat} (K : Int × Int × Bool → Option X) (b : List Int) (hb : Byt b) (h : NoHead b) : f16 k K (by8 b) = K (0, 0, false) := by
  have g := gtB hb 0
  unfold f16 f16_A f16_T
  rw [by8_length]
  by_cases h4 : b.length < 4
  · exact bifT (decide_eq_true (by omega))
  refine (bifF (decide_eq_false (by omega))).trans ?_
  refine (bAt (gtE (by omega)) _).trans ?_
  refine (grdT rfl).trans ?_
  rw [toI8, fdiv_eq _ (by decide)]
  exact bifT (bne_iff_ne.2 fun e => h.elim h4 (fun h => h e))
theorem sniff_yes {k : Nat} (K : Int × Int × Bool → Option X) (b : List Int) (hb : Byt b) (h : ¬ NoHead b) : f16 k K (by8 b) = K (gt b 0 / 16 % 4, gt b 2 * 256 + gt b 3, true) := by
  have g := gtB hb 0
  have g2 := gtB hb 2
  have g3 := gtB hb 3
  have h4 : ¬ b.length < 4 := fun e => h (.inl e)
  have h1 : gt b 0 / 64 = 1 := Classical.byContradiction fun e => h (.inr e)
  unfold f16 f16_A f16_T
  rw [by8_length]
  refine (bifF (decide_eq_false (by omega))).trans ?_
  refine (bAt (gtE (by omega)) _).trans ?_
  refine (grdT rfl).trans ?_
  rw [toI8, fdiv_eq _ (by decide)]
  refine (bifF (by rw [show (2 : Int) ^ 6 = 64 from rfl, h1]; rfl)).trans ?_
  refine (bAt (gtE (by omega)) _).trans ?_
  refine (grdT rfl).trans ?_
  refine (bAt (gtE (by omega)) _).trans ?_
  refine (grdT rfl).trans ?_
  refine (bAt (gtE (by omega)) _).trans ?_
  refine (grdT rfl).trans ?_
  rw [toI8, toI8, toI8, fdiv_eq _ (by decide), show (2 : Int) ^ 4 = 16 from rfl, wrap64 (n := gt b 0 / 16) (by omega) (by omega), wrap64 (n := gt b 2) (by omega) (by omega), wrap64 (n := gt b 3) (by omega) (by omega), or_byte g2.1 g2.2 g3.1 g3.2, show bop .and .i64 (gt b 0 / 16) 3 = gt b 0 / 16 % 4 from bop_mask64 _ 2 (by decide)]
theorem rd_bnd {b : List Int} (hb : Byt b) : ∀ (kk : Nat) (last : Int) (acc : List Op) (a : Nat), a ≤ b.length → b.length - a < kk → 0 ≤ last → acc.length ≤ 24 → ((rd kk b last acc a).1 = 0 → a ≤ (rd kk b last acc a).2.1 ∧ (rd kk b last acc a).2.1 ≤ b.length ∧ (rd kk b last acc a).2.2.length ≤ 24)
  | 0, _, _, _, _, h, _, _ => absurd h (Nat.not_lt_zero _)
  | kk + 1, last, acc, a, ha, h, h0, hc => fun e => by
    unfold rd at e ⊢
    split at e
    · next hg =>
      rw [if_pos hg]
      split at e
      · next he => have := rdO_err he; omega
      · next num q n he =>
        have bd := rdO_bnd hb hg.1 h0 he
        have := rd_bnd hb kk num (acc ++ [(num, (b.drop q).take n.toNat)]) (q + n.toNat) (by omega) (by omega) (by omega) (by simp; omega) e
        omega
    · next hg =>
      rw [if_neg hg]
      exact ⟨Nat.le_refl _, ha, hc⟩
theorem body_eq {k : Nat} (K : Nat × Int × List CV → Option X) (r : List Int) (hl : r.length ≤ 1000000) : f39 k K (by8 r) = if r.length = 1 then K (0, 20, []) else if r.length > 1201 then K (0, 2, []) else K ((r.drop 1).length, 0, by8 (r.drop 1)) := by
  unfold f39 f39_A f39_T
  rw [by8_length]
  by_cases h0 : r.length = 0
  · have : r = [] := List.length_eq_zero_iff.1 h0
    subst this; rfl
  refine (bifF (beq_eq_false_iff_ne.2 (by omega))).trans ?_
  by_cases h1 : r.length = 1
  · rw [if_pos h1]; exact bifT (beq_iff_eq.2 (by omega))
  rw [if_neg h1]
  refine (bifF (beq_eq_false_iff_ne.2 (by omega))).trans ?_
  rw [wrap64 (n := (r.length : Int) - 1) (by omega) (by omega)]
  by_cases h2 : r.length > 1201
  · rw [if_pos h2]; exact bifT (decide_eq_true (by omega))
  rw [if_neg h2]
  refine (bifF (decide_eq_false (by omega))).trans ?_
  refine (grdT (decide_eq_true (by omega))).trans ?_
  refine (grdT (decide_eq_true (by omega))).trans ?_
  rw [by8_drop, by8_take, show List.take (r.length - 1) (List.drop 1 r) = r.drop 1 from take_all _ _ (by rw [List.length_drop]; exact Nat.le_refl _)]
  refine (clone_eq _ _ (by rw [by8_length, List.length_drop]; omega)).trans ?_
  rw [by8_length, t8]
theorem drops {b : List Int} (n : Nat) : List.take (b.length - n) (List.drop n b) = b.drop n := take_all _ _ (by rw [List.length_drop]; exact Nat.le_refl _)
theorem msgR_no {k : Nat} {b : List Int} (h : NoHead b) : msgR k b = (20, ms0) := by unfold msgR; rw [if_pos h]
theorem msgR_bad {k : Nat} {b : List Int} (h : ¬ NoHead b) (h2 : BadHead b) : msgR k b = (20, ms0) := by unfold msgR; rw [if_neg h, if_pos h2]
theorem j1_eq {k : Nat} (K : OutR → Option X) (b : List Int) (hb : Byt b) (hk : 1000000 < k) (hl : b.length ≤ 100000) (h : ¬ NoHead b) (h2 : ¬ BadHead b) :
    f14_J1 (fun X => @f16 X k) (fun X => @f30 X k) (fun X => @f37 X k) (fun X => @f38 X k) (fun X => @f39 X k) k K (CV.int .u8 (gt b 1)) (gt b 0 / 16 % 4, gt b 2 * 256 + gt b 3, true) (by8 b) (tk b : Int) = ResR K (msgR k b) := by
  have hd := h2
  unfold BadHead at hd
  have hN : ¬ b.length < 4 := fun e => h (.inl e)
  have g1 := gtB hb 1
  have hlen : 4 + tk b ≤ b.length := by omega
  unfold f14_J1
  rw [wrap64 (n := 4 + (tk b : Int)) (by omega) (by omega), by8_length, show (4 : Int) + (tk b : Int) = ((4 + tk b : Nat) : Int) from by push_cast; rfl, Int.toNat_natCast]
  refine (grdT (decide_eq_true (by omega))).trans ?_
  refine (grdT (decide_eq_true (by omega))).trans ?_
  rw [show 4 + tk b - 4 = tk b from by omega, by8_drop, by8_take, by8_drop, by8_take, drops]
  refine (clone_eq _ _ (by rw [by8_length, List.length_take, List.length_drop]; omega)).trans ?_
  refine (grdT (dec0 _)).trans ?_
  refine (grdT (decide_eq_true (by omega))).trans ?_
  refine (grdT (decide_eq_true (by omega))).trans ?_
  refine (optR_eq _ _ (hb.drop _) (by rw [List.length_drop]; omega) hk).trans ?_
  unfold msgR rdK
  rw [if_neg h, if_neg h2]
  have bd := rd_bnd (hb.drop (4 + tk b)) k 0 [] 0 (Nat.zero_le _) (by rw [List.length_drop]; omega) (Int.le_refl _) (by simp)
  generalize rd k (b.drop (4 + tk b)) 0 [] 0 = r at bd ⊢
  obtain ⟨e, p, os⟩ := r
  dsimp only at bd ⊢
  by_cases he : e ≠ 0
  · rw [if_pos he]; exact bifT (bne_iff_ne.2 he)
  · rw [if_neg he]
    have he : e = 0 := Classical.byContradiction he
    refine (bifF (by rw [he]; rfl)).trans ?_
    have bd := bd he
    rw [by8_length, Int.toNat_natCast, by8_drop, show List.take ((List.drop (4 + tk b) b).length - p) (by8 (List.drop p (List.drop (4 + tk b) b))) = by8 (List.drop p (List.drop (4 + tk b) b)) from by rw [by8_take, drops]]
    refine (grdT (dec0 _)).trans ?_
    refine (grdT (decide_eq_true (by omega))).trans ?_
    refine (grdT (decide_eq_true (by omega))).trans ?_
    refine (body_eq _ _ (by rw [List.length_drop, List.length_drop]; omega)).trans ?_
    split
    · rfl
    · split
      · rfl
      · refine (bifF rfl).trans ?_
        dsimp only
        rw [t8, by8_length, t8, Nat.zero_add, tO, toI8, wrap64 (n := gt b 1) (by omega) (by omega)]
        rfl
theorem read_eq {k : Nat} (K : OutR → Option X) (b : List Int) (hb : Byt b) (hk : 1000000 < k) (hl : b.length ≤ 100000) : f14 k K (by8 b) = ResR K (msgR k b) := by
  unfold f14 f14_A f14_T
  by_cases h : NoHead b
  · refine (sniff_no _ b hb h).trans ?_
    rw [msgR_no h]
    exact bifT rfl
  · refine (sniff_yes _ b hb h).trans ?_
    refine (bifF rfl).trans ?_
    have hN : ¬ b.length < 4 := fun e => h (.inl e)
    have g0 := gtB hb 0
    have g1 := gtB hb 1
    refine (bAt (gtE (by omega)) _).trans ?_
    refine (grdT rfl).trans ?_
    refine (bAt (gtE (by omega)) _).trans ?_
    refine (grdT rfl).trans ?_
    have ht : IntKind.wrap .i64 (gt b 0 % 16) = (tk b : Int) := by rw [wrap64 (by omega) (by omega)]; unfold tk; omega
    simp only [toI8, and15 g0.1 g0.2, ht, wrap64 (n := gt b 1) (by omega) (by omega), by8_length]
    rw [wrap64 (n := 4 + (tk b : Int)) (by unfold tk; omega) (by unfold tk; omega)]
    by_cases c1 : tk b > 8
    · rw [msgR_bad h (.inl c1)]
      exact bifT (decide_eq_true (by omega))
    refine (bifF (decide_eq_false (by omega))).trans ?_
    refine (used_eq _ _ (by omega) (by omega)).trans ?_
    cases c2 : used (gt b 1) with
    | false =>
      rw [msgR_bad h (.inr (.inl c2))]
      exact bifT rfl
    | true =>
      refine (bifF rfl).trans ?_
      by_cases c3 : gt b 1 = 0
      · refine (bifT (beq_iff_eq.2 c3)).trans ?_
        by_cases c4 : b.length = 4
        · refine (bifF (decide_eq_false (by omega))).trans ?_
          by_cases c5 : b.length < 4 + tk b
          · rw [msgR_bad h (.inr (.inr (.inr c5)))]
            exact bifT (decide_eq_true (by omega))
          · refine (bifF (decide_eq_false (by omega))).trans ?_
            refine j1_eq K b hb hk hl h (fun e => ?_)
            unfold BadHead at e
            rw [c2] at e
            rcases e with e | e | e | e
            · exact c1 e
            · cases e
            · exact e.2 c4
            · exact c5 e
        · rw [msgR_bad h (.inr (.inr (.inl ⟨c3, c4⟩)))]
          exact bifT (decide_eq_true (by omega))
      · refine (bifF (beq_eq_false_iff_ne.2 c3)).trans ?_
        by_cases c5 : b.length < 4 + tk b
        · rw [msgR_bad h (.inr (.inr (.inr c5)))]
          exact bifT (decide_eq_true (by omega))
        · refine (bifF (decide_eq_false (by omega))).trans ?_
          refine j1_eq K b hb hk hl h (fun e => ?_)
          unfold BadHead at e
          rw [c2] at e
          rcases e with e | e | e | e
          · exact c1 e
          · cases e
          · exact c3 e.1
          · exact c5 e
theorem rj2_eq {k : Nat} (K : OutR → Option X) (b : List Int) (hb : Byt b) (hk : 1000000 < k) (hl : b.length ≤ 100000) (h : ¬ NoHead b) (h2 : ¬ BadHead b) :
    f15_J2 (fun X => @f34 X k) (fun X => @f40 X k) (fun X => @f41 X k) k K (CV.int .u8 (gt b 0)) (by8 b) () = ResR K (msgR k b) := by
  have hd := h2
  unfold BadHead at hd
  have hN : ¬ b.length < 4 := fun e => h (.inl e)
  have g0 := gtB hb 0
  have g1 := gtB hb 1
  have g2 := gtB hb 2
  have g3 := gtB hb 3
  have hlen : 4 + tk b ≤ b.length := by omega
  unfold f15_J2
  refine (bAt (gtE (by omega)) _).trans ?_
  refine (grdT rfl).trans ?_
  refine (bAt (gtE (by omega)) _).trans ?_
  refine (grdT rfl).trans ?_
  refine (bAt (gtE (by omega)) _).trans ?_
  refine (grdT rfl).trans ?_
  refine (bAt (gtE (by omega)) _).trans ?_
  refine (grdT rfl).trans ?_
  have ht : IntKind.wrap .i64 (Int.tmod (gt b 0) 16) = (tk b : Int) := by rw [tmod_eq g0.1, wrap64 (by omega) (by omega)]; unfold tk; omega
  have ht4 : IntKind.wrap .i64 (4 + (tk b : Int)) = ((4 + tk b : Nat) : Int) := by rw [wrap64 (by omega) (by omega)]; push_cast; rfl
  simp only [toI8, ht, ht4, by8_length, Int.toNat_natCast, by8_drop, by8_take, drops]
  refine (grdT (decide_eq_true (by omega))).trans ?_
  refine (grdT (decide_eq_true (by omega))).trans ?_
  rw [show 4 + tk b - 4 = tk b from by omega]
  refine (copy_eq _ _ (by rw [List.length_take, List.length_drop]; omega) (by rw [List.length_take, List.length_drop]; omega)).trans ?_
  refine (grdT (dec0 _)).trans ?_
  refine (grdT (decide_eq_true (by omega))).trans ?_
  refine (grdT (decide_eq_true (by omega))).trans ?_
  refine (refR_eq _ _ (hb.drop _) (by rw [List.length_drop]; omega) hk).trans ?_
  unfold msgR rdK
  rw [if_neg h, if_neg h2]
  have bd := rd_bnd (hb.drop (4 + tk b)) k 0 [] 0 (Nat.zero_le _) (by rw [List.length_drop]; omega) (Int.le_refl _) (by simp)
  generalize rd k (b.drop (4 + tk b)) 0 [] 0 = r at bd ⊢
  obtain ⟨e, p, os⟩ := r
  dsimp only at bd ⊢
  by_cases he : e ≠ 0
  · rw [if_pos he]; exact bifT (bne_iff_ne.2 he)
  · rw [if_neg he]
    have he : e = 0 := Classical.byContradiction he
    refine (bifF (by rw [he]; rfl)).trans ?_
    have bd := bd he
    rw [List.length_drop] at bd
    have hp : IntKind.wrap .i64 (((4 + tk b : Nat) : Int) + (p : Int)) = ((4 + tk b + p : Nat) : Int) := by rw [wrap64 (by omega) (by omega)]; push_cast; rfl
    simp only [hp, Int.toNat_natCast, by8_drop, by8_take, drops, by8_length]
    refine (grdT (dec0 _)).trans ?_
    refine (grdT (decide_eq_true (by omega))).trans ?_
    refine (grdT (decide_eq_true (by omega))).trans ?_
    rw [show (b.drop (4 + tk b)).drop p = b.drop (4 + tk b + p) from List.drop_drop ..]
    have hrl : (b.drop (4 + tk b + p)).length ≤ 100000 := by rw [List.length_drop]; omega
    generalize b.drop (4 + tk b + p) = rest at hrl ⊢
    by_cases c1 : rest.length = 1
    · rw [if_pos c1]; exact bifT (beq_iff_eq.2 (by omega))
    rw [if_neg c1]
    refine (bifF (beq_eq_false_iff_ne.2 (by omega))).trans ?_
    by_cases c2 : rest.length > 1201
    · rw [if_pos c2]; exact bifT (decide_eq_true (by omega))
    rw [if_neg c2]
    refine (bifF (decide_eq_false (by omega))).trans ?_
    have hJ : ∀ body : List Int, f15_J1 (fun X => @f34 X k) (fun X => @f40 X k) (fun X => @f41 X k) k K (CV.int .u8 (gt b 2)) (CV.int .u8 (gt b 3)) (CV.int .u8 (gt b 0)) (CV.int .u8 (gt b 1)) ((List.take (tk b) (List.drop 4 b)).length, by8 (List.take (tk b) (List.drop 4 b))) (os.length, (p : Int), e, ops os) (body.length, by8 body) = K (gt b 0 / 16 % 4, gt b 1, gt b 2 * 256 + gt b 3, (List.take (tk b) (List.drop 4 b)).length, os.length, body.length, 0, by8 (List.take (tk b) (List.drop 4 b)), ops os, by8 body) := fun body => by
      unfold f15_J1
      rw [toI8, toI8, toI8, toI8, tdiv_eq g0.1, u8_small (n := gt b 0 / 16) (by omega) (by omega), wrap64 (n := gt b 0 / 16) (by omega) (by omega), tmod_eq (by omega), wrap64 (n := gt b 1) (by omega) (by omega), wrap64 (n := gt b 2) (by omega) (by omega), wrap64 (n := gt b 3) (by omega) (by omega), wrap64 (n := gt b 2 * 256) (by omega) (by omega), wrap64 (n := gt b 2 * 256 + gt b 3) (by omega) (by omega)]
      dsimp only
      rw [t8, t8, Nat.zero_add, tO]
    by_cases c3 : rest.length = 0
    · have : rest = [] := List.length_eq_zero_iff.1 c3
      subst this
      refine (bifF (decide_eq_false (by simp))).trans ?_
      exact hJ []
    · refine (bifT (decide_eq_true (by omega))).trans ?_
      refine (grdT (decide_eq_true (by omega))).trans ?_
      refine (grdT (decide_eq_true (by omega))).trans ?_
      refine (copy_eq _ _ (by rw [List.length_drop]; omega) (by rw [List.length_drop]; omega)).trans ?_
      exact hJ (rest.drop 1)
theorem refRead_eq {k : Nat} (K : OutR → Option X) (b : List Int) (hb : Byt b) (hk : 1000000 < k) (hl : b.length ≤ 100000) : f15 k K (by8 b) = ResR K (msgR k b) := by
  unfold f15 f15_A f15_T
  rw [by8_length]
  have g0 := gtB hb 0
  have g1 := gtB hb 1
  by_cases hN : b.length < 4
  · rw [msgR_no (.inl hN)]
    exact bifT (decide_eq_true (by omega))
  refine (bifF (decide_eq_false (by omega))).trans ?_
  refine (bAt (gtE (by omega)) _).trans ?_
  refine (grdT rfl).trans ?_
  rw [toI8, tdiv_eq g0.1, u8_small (n := gt b 0 / 64) (by omega) (by omega)]
  by_cases h1 : gt b 0 / 64 = 1
  · refine (bifF (by rw [h1]; rfl)).trans ?_
    have h : ¬ NoHead b := fun e => e.elim hN (fun e => e h1)
    refine (bAt (gtE (by omega)) _).trans ?_
    refine (grdT rfl).trans ?_
    have ht : IntKind.wrap .i64 (Int.tmod (gt b 0) 16) = (tk b : Int) := by rw [tmod_eq g0.1, wrap64 (by omega) (by omega)]; unfold tk; omega
    have h4 : IntKind.wrap .i64 ((b.length : Int) - 4) = (b.length : Int) - 4 := wrap64 (by omega) (by omega)
    simp only [toI8, ht, h4]
    by_cases c1 : tk b > 8
    · rw [msgR_bad h (.inl c1)]
      exact bifT (decide_eq_true (by omega))
    refine (bifF (decide_eq_false (by omega))).trans ?_
    refine (bAt (gtE (by omega)) _).trans ?_
    refine (grdT rfl).trans ?_
    rw [toI8, wrap64 (n := gt b 1) (by omega) (by omega)]
    refine (usedR_eq _ _ (by omega) (by omega)).trans ?_
    cases c2 : used (gt b 1) with
    | false =>
      rw [msgR_bad h (.inr (.inl c2))]
      exact bifT rfl
    | true =>
      refine (bifF rfl).trans ?_
      refine (bAt (gtE (by omega)) _).trans ?_
      refine (grdT rfl).trans ?_
      rw [toI8]
      by_cases c3 : gt b 1 = 0
      · refine (bifT (beq_iff_eq.2 c3)).trans ?_
        by_cases c4 : b.length = 4
        · refine (bifF (by rw [c4]; rfl)).trans ?_
          by_cases c5 : b.length < 4 + tk b
          · rw [msgR_bad h (.inr (.inr (.inr c5)))]
            exact bifT (decide_eq_true (by omega))
          · refine (bifF (decide_eq_false (by omega))).trans ?_
            refine rj2_eq K b hb hk hl h (fun e => ?_)
            unfold BadHead at e
            rw [c2] at e
            rcases e with e | e | e | e
            · exact c1 e
            · cases e
            · exact e.2 c4
            · exact c5 e
        · rw [msgR_bad h (.inr (.inr (.inl ⟨c3, c4⟩)))]
          exact bifT (bne_iff_ne.2 (by omega))
      · refine (bifF (beq_eq_false_iff_ne.2 c3)).trans ?_
        by_cases c5 : b.length < 4 + tk b
        · rw [msgR_bad h (.inr (.inr (.inr c5)))]
          exact bifT (decide_eq_true (by omega))
        · refine (bifF (decide_eq_false (by omega))).trans ?_
          refine rj2_eq K b hb hk hl h (fun e => ?_)
          unfold BadHead at e
          rw [c2] at e
          rcases e with e | e | e | e
          · exact c1 e
          · cases e
          · exact c3 e.1
          · exact c5 e
  · rw [msgR_no (.inr h1)]
    exact bifT (bne_iff_ne.2 h1)
end
end Go.Proofs.YtlgdoglffddjfaaD
