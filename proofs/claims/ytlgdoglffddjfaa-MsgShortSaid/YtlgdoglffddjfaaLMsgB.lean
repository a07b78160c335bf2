/- The message of bytes: in plain words. -/
import Derived.Test.YtlgdoglffddjfaaLMsgV
import Derived.Test.YtlgdoglffddjfaaLEqual
namespace Go.Proofs.YtlgdoglffddjfaaD
open Go Go.Proofs.YtlgdoglffddjfaaS Go.Proofs
set_option linter.unusedVariables false
set_option linter.unusedSimpArgs false
section
variable {X : Type}
def ms0 : Ms := ⟨0, 0, 0, [], [], []⟩
abbrev OutR := Int × Int × Int × Nat × Nat × Nat × Int × List CV × List CV × List CV
def ResR (K : OutR → Option X) (r : Int × Ms) : Option X := K (r.2.kind, r.2.code, r.2.id, r.2.tok.length, r.2.opts.length, r.2.body.length, r.1, by8 r.2.tok, ops r.2.opts, by8 r.2.body)
/-- A token's size. -/
def tk (b : List Int) : Nat := (gt b 0 % 16).toNat
def NoHead (b : List Int) : Prop := b.length < 4 ∨ gt b 0 / 64 ≠ 1
def BadHead (b : List Int) : Prop := tk b > 8 ∨ used (gt b 1) = false ∨ (gt b 1 = 0 ∧ b.length ≠ 4) ∨ b.length < 4 + tk b
def msB (b : List Int) (os : List Op) (rest : List Int) : Ms := ⟨gt b 0 / 16 % 4, gt b 1, gt b 2 * 256 + gt b 3, (b.drop 4).take (tk b), os, rest.drop 1⟩
open Classical in
noncomputable def msgR (k : Nat) (b : List Int) : Int × Ms :=
  if NoHead b then (20, ms0) else if BadHead b then (20, ms0) else
  if (rd k (b.drop (4 + tk b)) 0 [] 0).1 ≠ 0 then ((rd k (b.drop (4 + tk b)) 0 [] 0).1, ms0) else
  if ((b.drop (4 + tk b)).drop (rd k (b.drop (4 + tk b)) 0 [] 0).2.1).length = 1 then (20, ms0) else
  if ((b.drop (4 + tk b)).drop (rd k (b.drop (4 + tk b)) 0 [] 0).2.1).length > 1201 then (2, ms0) else
  (0, msB b (rd k (b.drop (4 + tk b)) 0 [] 0).2.2 ((b.drop (4 + tk b)).drop (rd k (b.drop (4 + tk b)) 0 [] 0).2.1))
theorem and15 {c : Int} (h : 0 ≤ c) (h2 : c < 256) : bop .and .u8 c 15 = c % 16 := by
  obtain ⟨n, rfl⟩ := Int.eq_ofNat_of_zero_le h
  have : ∀ n : Nat, n < 256 → bop .and .u8 (n : Int) 15 = (n : Int) % 16 := by decide +kernel
  exact this n (by omega)
theorem and192 {c : Int} (h : 0 ≤ c) (h2 : c < 256) : (bop .and .u8 c 192 == 64) = decide (c / 64 = 1) := by
  obtain ⟨n, rfl⟩ := Int.eq_ofNat_of_zero_le h
  have : ∀ n : Nat, n < 256 → (bop .and .u8 (n : Int) 192 == 64) = decide ((n : Int) / 64 = 1) := by decide +kernel
  exact this n (by omega)
theorem and48 {c : Int} (h : 0 ≤ c) (h2 : c < 256) : IntKind.wrap .i64 (Int.tdiv (IntKind.wrap .i64 (bop .and .u8 c 48)) 16) = c / 16 % 4 := by
  obtain ⟨n, rfl⟩ := Int.eq_ofNat_of_zero_le h
  have : ∀ n : Nat, n < 256 → IntKind.wrap .i64 (Int.tdiv (IntKind.wrap .i64 (bop .and .u8 (n : Int) 48)) 16) = (n : Int) / 16 % 4 := by decide +kernel
  exact this n (by omega)
theorem or_byte {a b : Int} (ha : 0 ≤ a) (ha2 : a < 256) (hb : 0 ≤ b) (hb2 : b < 256) : bop .or .i64 (IntKind.wrap .i64 (a * 2 ^ 8)) b = a * 256 + b := by
  obtain ⟨x, rfl⟩ := Int.eq_ofNat_of_zero_le ha
  obtain ⟨y, rfl⟩ := Int.eq_ofNat_of_zero_le hb
  rw [wrap64 (by omega) (by omega)]
  rw [show ((x : Int) * 2 ^ 8) = ((x * 2 ^ 8 : Nat) : Int) from by omega]
  rw [bop_or64 (by omega) (by omega), or_add (by omega)]
  omega
theorem toI8 (n : Int) : CV.toI (CV.int .u8 n) = n := rfl
theorem sniff_no {k : Nat} (K : Int × Int × Bool → Option X) (b : List Int) (hb : Byt b) (h : NoHead b) : f16 k K (by8 b) = K (0, 0, false) := by
  have g := gtB hb 0
  unfold f16 f16_A f16_T
  rw [by8_length]
  by_cases h4 : b.length < 4
  · exact bifT (decide_eq_true (by omega))
  refine (bifF (decide_eq_false (by omega))).trans ?_
  refine (bAt (gtE (by omega)) _).trans ?_
  refine (grdT rfl).trans ?_
  rw [toI8, fdiv_eq _ (by decide)]
  exact bifT (bne_iff_ne.2 fun e => h.elim h4 (fun h => h e))
theorem sniff_yes {k : Nat} (K : Int × Int × Bool → Option X) (b : List Int) (hb : Byt b) (h : ¬ NoHead b) : f16 k K (by8 b) = K (gt b 0 / 16 % 4, gt b 2 * 256 + gt b 3, true) := by
  have g := gtB hb 0
  have g2 := gtB hb 2
  have g3 := gtB hb 3
  have h4 : ¬ b.length < 4 := fun e => h (.inl e)
  have h1 : gt b 0 / 64 = 1 := Classical.byContradiction fun e => h (.inr e)
  unfold f16 f16_A f16_T
  rw [by8_length]
  refine (bifF (decide_eq_false (by omega))).trans ?_
  refine (bAt (gtE (by omega)) _).trans ?_
  refine (grdT rfl).trans ?_
  rw [toI8, fdiv_eq _ (by decide)]
  refine (bifF (by rw [show (2 : Int) ^ 6 = 64 from rfl, h1]; rfl)).trans ?_
  refine (bAt (gtE (by omega)) _).trans ?_
  refine (grdT rfl).trans ?_
  refine (bAt (gtE (by omega)) _).trans ?_
  refine (grdT rfl).trans ?_
  refine (bAt (gtE (by omega)) _).trans ?_
  refine (grdT rfl).trans ?_
  rw [toI8, toI8, toI8, fdiv_eq _ (by decide), show (2 : Int) ^ 4 = 16 from rfl, wrap64 (n := gt b 0 / 16) (by omega) (by omega), wrap64 (n := gt b 2) (by omega) (by omega), wrap64 (n := gt b 3) (by omega) (by omega), or_byte g2.1 g2.2 g3.1 g3.2, show bop .and .i64 (gt b 0 / 16) 3 = gt b 0 / 16 % 4 from bop_mask64 _ 2 (by decide)]
theorem rd_bnd {b : List Int} (hb : Byt b) : ∀ (kk : Nat) (last : Int) (acc : List Op) (a : Nat), a ≤ b.length → b.length - a < kk → 0 ≤ last → acc.length ≤ 24 → ((rd kk b last acc a).1 = 0 → a ≤ (rd kk b last acc a).2.1 ∧ (rd kk b last acc a).2.1 ≤ b.length ∧ (rd kk b last acc a).2.2.length ≤ 24)
  | 0, _, _, _, _, h, _, _ => absurd h (Nat.not_lt_zero _)
  | kk + 1, last, acc, a, ha, h, h0, hc => fun e => by
    unfold rd at e ⊢
    split at e
    · next hg =>
      rw [if_pos hg]
      split at e
      · next he => have := rdO_err he; omega
      · next num q n he =>
        have bd := rdO_bnd hb hg.1 h0 he
        have := rd_bnd hb kk num (acc ++ [(num, (b.drop q).take n.toNat)]) (q + n.toNat) (by omega) (by omega) (by omega) (by simp; omega) e
        omega
    · next hg =>
      rw [if_neg hg]
      exact ⟨Nat.le_refl _, ha, hc⟩
theorem body_eq {k : Nat} (K : Nat × Int × List CV → Option X) (r : List Int) (hl : r.length ≤ 1000000) : f39 k K (by8 r) = if r.length = 1 then K (0, 20, []) else if r.length > 1201 then K (0, 2, []) else K ((r.drop 1).length, 0, by8 (r.drop 1)) := by
  unfold f39 f39_A f39_T
  rw [by8_length]
  by_cases h0 : r.length = 0
  · have : r = [] := List.length_eq_zero_iff.1 h0
    subst this; rfl
  refine (bifF (beq_eq_false_iff_ne.2 (by omega))).trans ?_
  by_cases h1 : r.length = 1
  · rw [if_pos h1]; exact bifT (beq_iff_eq.2 (by omega))
  rw [if_neg h1]
  refine (bifF (beq_eq_false_iff_ne.2 (by omega))).trans ?_
  rw [wrap64 (n := (r.length : Int) - 1) (by omega) (by omega)]
  by_cases h2 : r.length > 1201
  · rw [if_pos h2]; exact bifT (decide_eq_true (by omega))
  rw [if_neg h2]
  refine (bifF (decide_eq_false (by omega))).trans ?_
  refine (grdT (decide_eq_true (by omega))).trans ?_
  refine (grdT (decide_eq_true (by omega))).trans ?_
  rw [by8_drop, by8_take, show List.take (r.length - 1) (List.drop 1 r) = r.drop 1 from take_all _ _ (by rw [List.length_drop]; exact Nat.le_refl _)]
  refine (clone_eq _ _ (by rw [by8_length, List.length_drop]; omega)).trans ?_
  rw [by8_length, t8]
theorem drops {b : List Int} (n : Nat) : List.take (b.length - n) (List.drop n b) = b.drop n := take_all _ _ (by rw [List.length_drop]; exact Nat.le_refl _)
theorem msgR_no {k : Nat} {b : List Int} (h : NoHead b) : msgR k b = (20, ms0) := by unfold msgR; rw [if_pos h]
theorem msgR_bad {k : Nat} {b : List Int} (h : ¬ NoHead b) (h2 : BadHead b) : msgR k b = (20, ms0) := by unfold msgR; rw [if_neg h, if_pos h2]
theorem j1_eq {k : Nat} (K : OutR → Option X) (b : List Int) (hb : Byt b) (hk : 1000000 < k) (hl : b.length ≤ 100000) (h : ¬ NoHead b) (h2 : ¬ BadHead b) :
    f14_J1 (fun X => @f16 X k) (fun X => @f30 X k) (fun X => @f37 X k) (fun X => @f38 X k) (fun X => @f39 X k) k K (CV.int .u8 (gt b 1)) (gt b 0 / 16 % 4, gt b 2 * 256 + gt b 3, true) (by8 b) (tk b : Int) = ResR K (msgR k b) := by
  have hd := h2
  unfold BadHead at hd
  have hN : ¬ b.length < 4 := fun e => h (.inl e)
  have g1 := gtB hb 1
  have hlen : 4 + tk b ≤ b.length := by omega
  unfold f14_J1
  rw [wrap64 (n := 4 + (tk b : Int)) (by omega) (by omega), by8_length, show (4 : Int) + (tk b : Int) = ((4 + tk b : Nat) : Int) from by push_cast; rfl, Int.toNat_natCast]
  refine (grdT (decide_eq_true (by omega))).trans ?_
  refine (grdT (decide_eq_true (by omega))).trans ?_
  rw [show 4 + tk b - 4 = tk b from by omega, by8_drop, by8_take, by8_drop, by8_take, drops]
  refine (clone_eq _ _ (by rw [by8_length, List.length_take, List.length_drop]; omega)).trans ?_
  refine (grdT (dec0 _)).trans ?_
  refine (grdT (decide_eq_true (by omega))).trans ?_
  refine (grdT (decide_eq_true (by omega))).trans ?_
  refine (optR_eq _ _ (hb.drop _) (by rw [List.length_drop]; omega) hk).trans ?_
  unfold msgR rdK
  rw [if_neg h, if_neg h2]
  have bd := rd_bnd (hb.drop (4 + tk b)) k 0 [] 0 (Nat.zero_le _) (by rw [List.length_drop]; omega) (Int.le_refl _) (by simp)
  generalize rd k (b.drop (4 + tk b)) 0 [] 0 = r at bd ⊢
  obtain ⟨e, p, os⟩ := r
  dsimp only at bd ⊢
  by_cases he : e ≠ 0
  · rw [if_pos he]; exact bifT (bne_iff_ne.2 he)
  · rw [if_neg he]
    have he : e = 0 := Classical.byContradiction he
    refine (bifF (by rw [he]; rfl)).trans ?_
    have bd := bd he
    rw [by8_length, Int.toNat_natCast, by8_drop, show List.take ((List.drop (4 + tk b) b).length - p) (by8 (List.drop p (List.drop (4 + tk b) b))) = by8 (List.drop p (List.drop (4 + tk b) b)) from by rw [by8_take, drops]]
    refine (grdT (dec0 _)).trans ?_
    refine (grdT (decide_eq_true (by omega))).trans ?_
    refine (grdT (decide_eq_true (by omega))).trans ?_
    refine (body_eq _ _ (by rw [List.length_drop, List.length_drop]; omega)).trans ?_
    split
    · rfl
    · split
      · rfl
      · refine (bifF rfl).trans ?_
        dsimp only
        rw [t8, by8_length, t8, Nat.zero_add, tO, toI8, wrap64 (n := gt b 1) (by omega) (by omega)]
        rfl
theorem read_eq {k : Nat} (K : OutR → Option X) (b : List Int) (hb : Byt b) (hk : 1000000 < k) (hl : b.length ≤ 100000) : f14 k K (by8 b) = ResR K (msgR k b) := by
  unfold f14 f14_A f14_T
  by_cases h : NoHead b
  · refine (sniff_no _ b hb h).trans ?_
    rw [msgR_no h]
    exact bifT rfl
  · refine (sniff_yes _ b hb h).trans ?_
    refine (bifF rfl).trans ?_
    have hN : ¬ b.length < 4 := fun e => h (.inl e)
    have g0 := gtB hb 0
    have g1 := gtB hb 1
    refine (bAt (gtE (by omega)) _).trans ?_
    refine (grdT rfl).trans ?_
    refine (bAt (gtE (by omega)) _).trans ?_
    refine (grdT rfl).trans ?_
    have ht : IntKind.wrap .i64 (gt b 0 % 16) = (tk b : Int) := by rw [wrap64 (by omega) (by omega)]; unfold tk; omega
    simp only [toI8, and15 g0.1 g0.2, ht, wrap64 (n := gt b 1) (by omega) (by omega), by8_length]
    rw [wrap64 (n := 4 + (tk b : Int)) (by unfold tk; omega) (by unfold tk; omega)]
    by_cases c1 : tk b > 8
    · rw [msgR_bad h (.inl c1)]
      exact bifT (decide_eq_true (by omega))
    refine (bifF (decide_eq_false (by omega))).trans ?_
    refine (used_eq _ _ (by omega) (by omega)).trans ?_
    cases c2 : used (gt b 1) with
    | false =>
      rw [msgR_bad h (.inr (.inl c2))]
      exact bifT rfl
    | true =>
      refine (bifF rfl).trans ?_
      by_cases c3 : gt b 1 = 0
      · refine (bifT (beq_iff_eq.2 c3)).trans ?_
        by_cases c4 : b.length = 4
        · refine (bifF (decide_eq_false (by omega))).trans ?_
          by_cases c5 : b.length < 4 + tk b
          · rw [msgR_bad h (.inr (.inr (.inr c5)))]
            exact bifT (decide_eq_true (by omega))
          · refine (bifF (decide_eq_false (by omega))).trans ?_
            refine j1_eq K b hb hk hl h (fun e => ?_)
            unfold BadHead at e
            rw [c2] at e
            rcases e with e | e | e | e
            · exact c1 e
            · cases e
            · exact e.2 c4
            · exact c5 e
        · rw [msgR_bad h (.inr (.inr (.inl ⟨c3, c4⟩)))]
          exact bifT (decide_eq_true (by omega))
      · refine (bifF (beq_eq_false_iff_ne.2 c3)).trans ?_
        by_cases c5 : b.length < 4 + tk b
        · rw [msgR_bad h (.inr (.inr (.inr c5)))]
          exact bifT (decide_eq_true (by omega))
        · refine (bifF (decide_eq_false (by omega))).trans ?_
          refine j1_eq K b hb hk hl h (fun e => ?_)
          unfold BadHead at e
          rw [c2] at e
          rcases e with e | e | e | e
          · exact c1 e
          · cases e
          · exact c3 e.1
          · exact c5 e
theorem rj2_eq {k : Nat} (K : OutR → Option X) (b : List Int) (hb : Byt b) (hk : 1000000 < k) (hl : b.length ≤ 100000) (h : ¬ NoHead b) (h2 : ¬ BadHead b) :
    f15_J2 (fun X => @f34 X k) (fun X => @f40 X k) (fun X => @f41 X k) k K (CV.int .u8 (gt b 0)) (by8 b) () = ResR K (msgR k b) := by
  have hd := h2
  unfold BadHead at hd
  have hN : ¬ b.length < 4 := fun e => h (.inl e)
  have g0 := gtB hb 0
  have g1 := gtB hb 1
  have g2 := gtB hb 2
  have g3 := gtB hb 3
  have hlen : 4 + tk b ≤ b.length := by omega
  unfold f15_J2
  refine (bAt (gtE (by omega)) _).trans ?_
  refine (grdT rfl).trans ?_
  refine (bAt (gtE (by omega)) _).trans ?_
  refine (grdT rfl).trans ?_
  refine (bAt (gtE (by omega)) _).trans ?_
  refine (grdT rfl).trans ?_
  refine (bAt (gtE (by omega)) _).trans ?_
  refine (grdT rfl).trans ?_
  have ht : IntKind.wrap .i64 (Int.tmod (gt b 0) 16) = (tk b : Int) := by rw [tmod_eq g0.1, wrap64 (by omega) (by omega)]; unfold tk; omega
  have ht4 : IntKind.wrap .i64 (4 + (tk b : Int)) = ((4 + tk b : Nat) : Int) := by rw [wrap64 (by omega) (by omega)]; push_cast; rfl
  simp only [toI8, ht, ht4, by8_length, Int.toNat_natCast, by8_drop, by8_take, drops]
  refine (grdT (decide_eq_true (by omega))).trans ?_
  refine (grdT (decide_eq_true (by omega))).trans ?_
  rw [show 4 + tk b - 4 = tk b from by omega]
  refine (copy_eq _ _ (by rw [List.length_take, List.length_drop]; omega) (by rw [List.length_take, List.length_drop]; omega)).trans ?_
  refine (grdT (dec0 _)).trans ?_
  refine (grdT (decide_eq_true (by omega))).trans ?_
  refine (grdT (decide_eq_true (by omega))).trans ?_
  refine (refR_eq _ _ (hb.drop _) (by rw [List.length_drop]; omega) hk).trans ?_
  unfold msgR rdK
  rw [if_neg h, if_neg h2]
  have bd := rd_bnd (hb.drop (4 + tk b)) k 0 [] 0 (Nat.zero_le _) (by rw [List.length_drop]; omega) (Int.le_refl _) (by simp)
  generalize rd k (b.drop (4 + tk b)) 0 [] 0 = r at bd ⊢
  obtain ⟨e, p, os⟩ := r
  dsimp only at bd ⊢
  by_cases he : e ≠ 0
  · rw [if_pos he]; exact bifT (bne_iff_ne.2 he)
  · rw [if_neg he]
    have he : e = 0 := Classical.byContradiction he
    refine (bifF (by rw [he]; rfl)).trans ?_
    have bd := bd he
    rw [List.length_drop] at bd
    have hp : IntKind.wrap .i64 (((4 + tk b : Nat) : Int) + (p : Int)) = ((4 + tk b + p : Nat) : Int) := by rw [wrap64 (by omega) (by omega)]; push_cast; rfl
    simp only [hp, Int.toNat_natCast, by8_drop, by8_take, drops, by8_length]
    refine (grdT (dec0 _)).trans ?_
    refine (grdT (decide_eq_true (by omega))).trans ?_
    refine (grdT (decide_eq_true (by omega))).trans ?_
    rw [show (b.drop (4 + tk b)).drop p = b.drop (4 + tk b + p) from List.drop_drop ..]
    have hrl : (b.drop (4 + tk b + p)).length ≤ 100000 := by rw [List.length_drop]; omega
    generalize b.drop (4 + tk b + p) = rest at hrl ⊢
    by_cases c1 : rest.length = 1
    · rw [if_pos c1]; exact bifT (beq_iff_eq.2 (by omega))
    rw [if_neg c1]
    refine (bifF (beq_eq_false_iff_ne.2 (by omega))).trans ?_
    by_cases c2 : rest.length > 1201
    · rw [if_pos c2]; exact bifT (decide_eq_true (by omega))
    rw [if_neg c2]
    refine (bifF (decide_eq_false (by omega))).trans ?_
    have hJ : ∀ body : List Int, f15_J1 (fun X => @f34 X k) (fun X => @f40 X k) (fun X => @f41 X k) k K (CV.int .u8 (gt b 2)) (CV.int .u8 (gt b 3)) (CV.int .u8 (gt b 0)) (CV.int .u8 (gt b 1)) ((List.take (tk b) (List.drop 4 b)).length, by8 (List.take (tk b) (List.drop 4 b))) (os.length, (p : Int), e, ops os) (body.length, by8 body) = K (gt b 0 / 16 % 4, gt b 1, gt b 2 * 256 + gt b 3, (List.take (tk b) (List.drop 4 b)).length, os.length, body.length, 0, by8 (List.take (tk b) (List.drop 4 b)), ops os, by8 body) := fun body => by
      unfold f15_J1
      rw [toI8, toI8, toI8, toI8, tdiv_eq g0.1, u8_small (n := gt b 0 / 16) (by omega) (by omega), wrap64 (n := gt b 0 / 16) (by omega) (by omega), tmod_eq (by omega), wrap64 (n := gt b 1) (by omega) (by omega), wrap64 (n := gt b 2) (by omega) (by omega), wrap64 (n := gt b 3) (by omega) (by omega), wrap64 (n := gt b 2 * 256) (by omega) (by omega), wrap64 (n := gt b 2 * 256 + gt b 3) (by omega) (by omega)]
      dsimp only
      rw [t8, t8, Nat.zero_add, tO]
    by_cases c3 : rest.length = 0
    · have : rest = [] := List.length_eq_zero_iff.1 c3
      subst this
      refine (bifF (decide_eq_false (by simp))).trans ?_
      exact hJ []
    · refine (bifT (decide_eq_true (by omega))).trans ?_
      refine (grdT (decide_eq_true (by omega))).trans ?_
      refine (grdT (decide_eq_true (by omega))).trans ?_
      refine (copy_eq _ _ (by rw [List.length_drop]; omega) (by rw [List.length_drop]; omega)).trans ?_
      exact hJ (rest.drop 1)
theorem refRead_eq {k : Nat} (K : OutR → Option X) (b : List Int) (hb : Byt b) (hk : 1000000 < k) (hl : b.length ≤ 100000) : f15 k K (by8 b) = ResR K (msgR k b) := by
  unfold f15 f15_A f15_T
  rw [by8_length]
  have g0 := gtB hb 0
  have g1 := gtB hb 1
  by_cases hN : b.length < 4
  · rw [msgR_no (.inl hN)]
    exact bifT (decide_eq_true (by omega))
  refine (bifF (decide_eq_false (by omega))).trans ?_
  refine (bAt (gtE (by omega)) _).trans ?_
  refine (grdT rfl).trans ?_
  rw [toI8, tdiv_eq g0.1, u8_small (n := gt b 0 / 64) (by omega) (by omega)]
  by_cases h1 : gt b 0 / 64 = 1
  · refine (bifF (by rw [h1]; rfl)).trans ?_
    have h : ¬ NoHead b := fun e => e.elim hN (fun e => e h1)
    refine (bAt (gtE (by omega)) _).trans ?_
    refine (grdT rfl).trans ?_
    have ht : IntKind.wrap .i64 (Int.tmod (gt b 0) 16) = (tk b : Int) := by rw [tmod_eq g0.1, wrap64 (by omega) (by omega)]; unfold tk; omega
    have h4 : IntKind.wrap .i64 ((b.length : Int) - 4) = (b.length : Int) - 4 := wrap64 (by omega) (by omega)
    simp only [toI8, ht, h4]
    by_cases c1 : tk b > 8
    · rw [msgR_bad h (.inl c1)]
      exact bifT (decide_eq_true (by omega))
    refine (bifF (decide_eq_false (by omega))).trans ?_
    refine (bAt (gtE (by omega)) _).trans ?_
    refine (grdT rfl).trans ?_
    rw [toI8, wrap64 (n := gt b 1) (by omega) (by omega)]
    refine (usedR_eq _ _ (by omega) (by omega)).trans ?_
    cases c2 : used (gt b 1) with
    | false =>
      rw [msgR_bad h (.inr (.inl c2))]
      exact bifT rfl
    | true =>
      refine (bifF rfl).trans ?_
      refine (bAt (gtE (by omega)) _).trans ?_
      refine (grdT rfl).trans ?_
      rw [toI8]
      by_cases c3 : gt b 1 = 0
      · refine (bifT (beq_iff_eq.2 c3)).trans ?_
        by_cases c4 : b.length = 4
        · refine (bifF (by rw [c4]; rfl)).trans ?_
          by_cases c5 : b.length < 4 + tk b
          · rw [msgR_bad h (.inr (.inr (.inr c5)))]
            exact bifT (decide_eq_true (by omega))
          · refine (bifF (decide_eq_false (by omega))).trans ?_
            refine rj2_eq K b hb hk hl h (fun e => ?_)
            unfold BadHead at e
            rw [c2] at e
            rcases e with e | e | e | e
            · exact c1 e
            · cases e
            · exact e.2 c4
            · exact c5 e
        · rw [msgR_bad h (.inr (.inr (.inl ⟨c3, c4⟩)))]
          exact bifT (bne_iff_ne.2 (by omega))
      · refine (bifF (beq_eq_false_iff_ne.2 c3)).trans ?_
        by_cases c5 : b.length < 4 + tk b
        · rw [msgR_bad h (.inr (.inr (.inr c5)))]
          exact bifT (decide_eq_true (by omega))
        · refine (bifF (decide_eq_false (by omega))).trans ?_
          refine rj2_eq K b hb hk hl h (fun e => ?_)
          unfold BadHead at e
          rw [c2] at e
          rcases e with e | e | e | e
          · exact c1 e
          · cases e
          · exact c3 e.1
          · exact c5 e
  · rw [msgR_no (.inr h1)]
    exact bifT (bne_iff_ne.2 h1)
end
end Go.Proofs.YtlgdoglffddjfaaD
/- Messages that are the same; who asks, who answers: in plain words. -/
namespace Go.Proofs.YtlgdoglffddjfaaD
open Go Go.Proofs.YtlgdoglffddjfaaS Go.Proofs
set_option linter.unusedVariables false
set_option linter.unusedSimpArgs false
section
variable {X : Type}
noncomputable instance : DecidableEq Ms := fun a b => Classical.propDecidable _
def Sm (m : Ms) : Prop := m.tok.length ≤ 100000 ∧ m.body.length ≤ 100000 ∧ m.opts.length ≤ 100000 ∧ ∀ o ∈ m.opts, o.2.length ≤ 100000
def BytO (l : List Op) : Prop := ∀ o ∈ l, Byt o.2
def BytM (m : Ms) : Prop := Byt m.tok ∧ Byt m.body ∧ BytO m.opts
theorem refSameO_eq {k : Nat} (K : Bool → Option X) (a b : List Op) (hk : 1000000 < k) (ha : a.length ≤ 100000) (hv : ∀ o ∈ a, o.2.length ≤ 100000) : f29 k K (ops a) (ops b) = K (decide (a = b)) := by
  unfold f29 f29_A f29_T
  rw [ops_length, ops_length]
  by_cases hl : a.length = b.length
  · refine (bifF (by rw [hl]; exact bne_self_eq_false _)).trans ?_
    refine iterV_spec (T := f29_L1 (fun X => @f13 X k) k K) (fun i => (ops a, ops b, (i : Int))) (fun i => K (decide (a.drop i = b.drop i))) a.length (fun i rec h hr => ?_) (fun rec => ?_) k 0 (Nat.zero_le _) (by omega)
    · have hb : i < b.length := by omega
      unfold f29_L1 f29_T1
      dsimp only
      refine (bifT (decide_eq_true (by rw [ops_length]; omega))).trans ?_
      rw [Int.toNat_natCast]
      refine (grdT (dec0 _)).trans ?_
      refine (bAt (ops_nth a i h) _).trans ?_
      refine (bAt (opv0 _) _).trans ?_
      refine (grdT rfl).trans ?_
      refine (grdT (dec0 _)).trans ?_
      refine (bAt (ops_nth b i hb) _).trans ?_
      refine (bAt (opv0 _) _).trans ?_
      refine (grdT rfl).trans ?_
      rw [show CV.toI (CV.int .i64 a[i].1) = a[i].1 from rfl, show CV.toI (CV.int .i64 b[i].1) = b[i].1 from rfl]
      rw [List.drop_eq_getElem_cons h, List.drop_eq_getElem_cons hb]
      by_cases h1 : a[i].1 = b[i].1
      · refine (bifF (by rw [h1]; exact bne_self_eq_false _)).trans ?_
        refine (grdT (dec0 _)).trans ?_
        refine (bAt (ops_nth a i h) _).trans ?_
        refine (bAt (opv1 _) _).trans ?_
        refine (grdT rfl).trans ?_
        refine (grdT (dec0 _)).trans ?_
        refine (bAt (ops_nth b i hb) _).trans ?_
        refine (bAt (opv1 _) _).trans ?_
        refine (grdT rfl).trans ?_
        have := hv _ (List.getElem_mem h)
        refine (same_eq _ a[i].2 b[i].2 (by omega) (by omega)).trans ?_
        by_cases h2 : a[i].2 = b[i].2
        · refine (bifF (by rw [decide_eq_true h2]; rfl)).trans ?_
          rw [wrap64_s (by omega), hr]
          exact congrArg K (decide_eq_decide.2 ⟨fun e => by rw [e, show a[i] = b[i] from Prod.ext h1 h2], fun e => (List.cons.inj e).2⟩)
        · refine (bifT (by rw [decide_eq_false h2]; rfl)).trans ?_
          rw [decide_eq_false fun e => h2 (congrArg Prod.snd (List.cons.inj e).1)]
      · refine (bifT (bne_iff_ne.2 h1)).trans ?_
        rw [decide_eq_false fun e => h1 (congrArg Prod.fst (List.cons.inj e).1)]
    · unfold f29_L1 f29_T1
      dsimp only
      refine (bifF (decide_eq_false (by rw [ops_length]; omega))).trans ?_
      rw [List.drop_length, hl, List.drop_length, decide_eq_true rfl]
  · refine (bifT (bne_iff_ne.2 (by omega))).trans ?_
    rw [decide_eq_false fun e => hl (by rw [e])]
theorem msameL (a b : Ms) (P : Bool → Option X) : (bif a.kind == b.kind then bif a.code == b.code then bif a.id == b.id then bif decide (a.tok = b.tok) then bif decide (a.opts = b.opts) then P (decide (a.body = b.body)) else P false else P false else P false else P false else P false) = P (decide (a = b)) := by
  obtain ⟨a1, a2, a3, a4, a5, a6⟩ := a
  obtain ⟨b1, b2, b3, b4, b5, b6⟩ := b
  dsimp only
  by_cases h1 : a1 = b1
  · refine (bifT (beq_iff_eq.2 h1)).trans ?_
    by_cases h2 : a2 = b2
    · refine (bifT (beq_iff_eq.2 h2)).trans ?_
      by_cases h3 : a3 = b3
      · refine (bifT (beq_iff_eq.2 h3)).trans ?_
        by_cases h4 : a4 = b4
        · refine (bifT (decide_eq_true h4)).trans ?_
          by_cases h5 : a5 = b5
          · refine (bifT (decide_eq_true h5)).trans ?_
            exact congrArg P (decide_eq_decide.2 ⟨fun e => by rw [h1, h2, h3, h4, h5, e], fun e => by cases e; rfl⟩)
          · refine (bifF (decide_eq_false h5)).trans ?_
            rw [decide_eq_false fun e => h5 (by cases e; rfl)]
        · refine (bifF (decide_eq_false h4)).trans ?_
          rw [decide_eq_false fun e => h4 (by cases e; rfl)]
      · refine (bifF (beq_eq_false_iff_ne.2 h3)).trans ?_
        rw [decide_eq_false fun e => h3 (by cases e; rfl)]
    · refine (bifF (beq_eq_false_iff_ne.2 h2)).trans ?_
      rw [decide_eq_false fun e => h2 (by cases e; rfl)]
  · refine (bifF (beq_eq_false_iff_ne.2 h1)).trans ?_
    rw [decide_eq_false fun e => h1 (by cases e; rfl)]
theorem refSame_eq {k : Nat} (K : Bool → Option X) (a b : Ms) (hk : 1000000 < k) (ha : Sm a) : f17 k K a.cv b.cv = K (decide (a = b)) := by
  have e : f17 k K a.cv b.cv = (bif a.kind == b.kind then bif a.code == b.code then bif a.id == b.id then f13 k (fun u1 => bif u1 then f29 k (fun u2 => bif u2 then f13 k K (by8 a.body) (by8 b.body) else K false) (ops a.opts) (ops b.opts) else K false) (by8 a.tok) (by8 b.tok) else K false else K false else K false) := by kernel_rfl
  rw [e, same_eq _ _ _ (by have := ha.1; omega) (by have := ha.1; omega), refSameO_eq _ _ _ hk ha.2.2.1 ha.2.2.2, same_eq _ _ _ (by have := ha.2.1; omega) (by have := ha.2.1; omega)]
  exact msameL a b K
theorem sameO_eq {k : Nat} (K : Bool → Option X) (a b : List Op) (hk : 1000000 < k) (ha : a.length ≤ 100000) (ba : BytO a) (bb : BytO b) : f46 k K (ops a) (ops b) = K (decide (a = b)) := by
  unfold f46 f46_A f46_T
  rw [ops_length, ops_length]
  by_cases hl : a.length = b.length
  · refine (bifF (by rw [hl]; exact bne_self_eq_false _)).trans ?_
    refine iterV_spec (T := f46_L1 (fun X => @f44 X k) k K) (fun i => (ops b, ops a, (a.length : Int), (i : Int))) (fun i => K (decide (a.drop i = b.drop i))) a.length (fun i rec h hr => ?_) (fun rec => ?_) k 0 (Nat.zero_le _) (by omega)
    · have hb : i < b.length := by omega
      unfold f46_L1 f46_T1
      dsimp only
      refine (bifT (decide_eq_true (by omega))).trans ?_
      rw [Int.toNat_natCast]
      refine (grdT (dec0 _)).trans ?_
      refine (bAt (ops_nth a i h) _).trans ?_
      refine (grdT rfl).trans ?_
      refine (grdT rfl).trans ?_
      refine (grdT rfl).trans ?_
      refine (grdT (dec0 _)).trans ?_
      refine (bAt (ops_nth b i hb) _).trans ?_
      refine (grdT rfl).trans ?_
      refine (grdT rfl).trans ?_
      refine (grdT rfl).trans ?_
      have e : ∀ K' : Bool → Option X, f44 k K' (opv a[i]) (opv b[i]) = (bif a[i].1 == b[i].1 then f45 k K' (by8 a[i].2) (by8 b[i].2) else K' false) := fun K' => by
        generalize a[i] = x
        generalize b[i] = y
        kernel_rfl
      refine (e _).trans ?_
      rw [bytesEqual_eq _ _ _ (ba _ (List.getElem_mem h)) (bb _ (List.getElem_mem hb))]
      rw [List.drop_eq_getElem_cons h, List.drop_eq_getElem_cons hb]
      by_cases h1 : a[i].1 = b[i].1
      · refine (bifT (beq_iff_eq.2 h1)).trans ?_
        by_cases h2 : a[i].2 = b[i].2
        · refine (bifF (by rw [decide_eq_true h2]; rfl)).trans ?_
          rw [wrap64_s (by omega), hr]
          exact congrArg K (decide_eq_decide.2 ⟨fun e => by rw [e, show a[i] = b[i] from Prod.ext h1 h2], fun e => (List.cons.inj e).2⟩)
        · refine (bifT (by rw [decide_eq_false h2]; rfl)).trans ?_
          rw [decide_eq_false fun e => h2 (congrArg Prod.snd (List.cons.inj e).1)]
      · refine (bifF (beq_eq_false_iff_ne.2 h1)).trans ?_
        refine (bifT rfl).trans ?_
        rw [decide_eq_false fun e => h1 (congrArg Prod.fst (List.cons.inj e).1)]
    · unfold f46_L1 f46_T1
      dsimp only
      refine (bifF (decide_eq_false (by omega))).trans ?_
      rw [List.drop_length, hl, List.drop_length, decide_eq_true rfl]
  · refine (bifT (bne_iff_ne.2 (by omega))).trans ?_
    rw [decide_eq_false fun e => hl (by rw [e])]
theorem msgSame_eq {k : Nat} (K : Bool → Option X) (a b : Ms) (hk : 1000000 < k) (ha : a.opts.length ≤ 100000) (ba : BytM a) (bb : BytM b) : f27 k K a.cv b.cv = K (decide (a = b)) := by
  have e : f27 k K a.cv b.cv = (bif a.kind == b.kind then bif a.code == b.code then bif a.id == b.id then f45 k (fun u1 => bif u1 then f46 k (fun u2 => bif u2 then f45 k K (by8 a.body) (by8 b.body) else K false) (ops a.opts) (ops b.opts) else K false) (by8 a.tok) (by8 b.tok) else K false else K false else K false) := by kernel_rfl
  rw [e, bytesEqual_eq _ _ _ ba.1 bb.1, sameO_eq _ _ _ hk ha ba.2.2 bb.2.2, bytesEqual_eq _ _ _ ba.2.1 bb.2.1]
  exact msameL a b K
def asks (c : Int) : Bool := decide (1 ≤ c ∧ c ≤ 31)
def answ (c : Int) : Bool := decide (64 ≤ c ∧ c ≤ 95 ∨ 128 ≤ c ∧ c ≤ 191)
theorem request_eq {k : Nat} (K : Bool → Option X) (m : Ms) : f23 k K m.cv = K (asks m.code) := by
  have e : f23 k K m.cv = (bif Int.fdiv m.code 32 == 0 then K (m.code != 0) else K false) := by kernel_rfl
  rw [e, fdiv_eq _ (by decide)]
  unfold asks
  by_cases h : m.code / 32 = 0
  · refine (bifT (beq_iff_eq.2 h)).trans (congrArg K ?_)
    by_cases h0 : m.code = 0
    · rw [h0]; rfl
    · rw [bne_iff_ne.2 h0, decide_eq_true (by omega)]
  · refine (bifF (beq_eq_false_iff_ne.2 h)).trans ?_
    rw [decide_eq_false (by omega)]
theorem answer_eq {k : Nat} (K : Bool → Option X) (m : Ms) : f25 k K m.cv = K (answ m.code) := by
  have e : f25 k K m.cv = (bif Int.fdiv m.code 32 == 2 then K true else bif Int.fdiv m.code 32 == 4 then K true else K (Int.fdiv m.code 32 == 5)) := by kernel_rfl
  rw [e, fdiv_eq _ (by decide)]
  unfold answ
  by_cases h : m.code / 32 = 2
  · refine (bifT (beq_iff_eq.2 h)).trans ?_
    rw [decide_eq_true (by omega)]
  · refine (bifF (beq_eq_false_iff_ne.2 h)).trans ?_
    by_cases h4 : m.code / 32 = 4
    · refine (bifT (beq_iff_eq.2 h4)).trans ?_
      rw [decide_eq_true (by omega)]
    · refine (bifF (beq_eq_false_iff_ne.2 h4)).trans (congrArg K ?_)
      by_cases h5 : m.code / 32 = 5
      · rw [beq_iff_eq.2 h5, decide_eq_true (by omega)]
      · rw [beq_eq_false_iff_ne.2 h5, decide_eq_false (by omega)]
/-- What is read is small, and bytes. -/
theorem rd_vals {b : List Int} (hb : Byt b) (N : Nat) (hN : b.length ≤ N) : ∀ (kk : Nat) (last : Int) (acc : List Op) (a : Nat), (∀ o ∈ acc, o.2.length ≤ N ∧ Byt o.2) → ∀ o ∈ (rd kk b last acc a).2.2, o.2.length ≤ N ∧ Byt o.2
  | 0, _, _, _, _ => fun o ho => by simp [rd] at ho
  | kk + 1, last, acc, a, h => by
    unfold rd
    split
    · split
      · exact fun o ho => by simp at ho
      · next num q n he =>
        refine rd_vals hb N hN kk num _ _ fun o ho => ?_
        rcases List.mem_append.1 ho with ho | ho
        · exact h o ho
        · rw [List.mem_singleton.1 ho]
          refine ⟨?_, (hb.drop q).take _⟩
          show (List.take n.toNat (List.drop q b)).length ≤ N
          rw [List.length_take, List.length_drop]; omega
    · exact h
theorem ms0_sm : Sm ms0 := ⟨by simp [ms0], by simp [ms0], by simp [ms0], fun o ho => by simp [ms0] at ho⟩
theorem ms0_byt : BytM ms0 := ⟨Byt.nil, Byt.nil, fun o ho => by simp [ms0] at ho⟩
theorem msgR_sm {k : Nat} {b : List Int} (hb : Byt b) (hl : b.length ≤ 100000) (hk : 1000000 < k) : Sm (msgR k b).2 ∧ BytM (msgR k b).2 := by
  unfold msgR
  split
  · exact ⟨ms0_sm, ms0_byt⟩
  split
  · exact ⟨ms0_sm, ms0_byt⟩
  split
  · exact ⟨ms0_sm, ms0_byt⟩
  split
  · exact ⟨ms0_sm, ms0_byt⟩
  split
  · exact ⟨ms0_sm, ms0_byt⟩
  next he _ _ =>
  have he := Classical.byContradiction he
  have bd := rd_bnd (hb.drop (4 + tk b)) k 0 [] 0 (Nat.zero_le _) (by rw [List.length_drop]; omega) (Int.le_refl _) (by simp) he
  have vs := rd_vals (hb.drop (4 + tk b)) 100000 (by rw [List.length_drop]; omega) k 0 [] 0 (fun o ho => by simp at ho)
  refine ⟨⟨?_, ?_, ?_, fun o ho => (vs o ho).1⟩, ⟨(hb.drop _).take _, ((hb.drop _).drop _).drop _, fun o ho => (vs o ho).2⟩⟩
  · show (List.take _ _).length ≤ _
    rw [List.length_take, List.length_drop]; omega
  · show (List.drop 1 _).length ≤ _
    rw [List.length_drop, List.length_drop, List.length_drop]; omega
  · show (rd k (b.drop (4 + tk b)) 0 [] 0).2.2.length ≤ _
    omega
theorem cvR (m : Ms) : CV.agg [.int .i64 m.kind, .int .i64 m.code, .int .i64 m.id, .slc none (List.take m.tok.length (List.drop 0 (by8 m.tok))), .slc (some 2) (List.take m.opts.length (List.drop 0 (ops m.opts))), .slc none (List.take m.body.length (List.drop 0 (by8 m.body)))] = m.cv := by
  rw [d8, d8, dO]; rfl
end
end Go.Proofs.YtlgdoglffddjfaaD
/- What is written is read; what is read of a beginning: in plain words. -/
namespace Go.Proofs.YtlgdoglffddjfaaD
open Go Go.Proofs.YtlgdoglffddjfaaS Go.Proofs
set_option linter.unusedVariables false
set_option linter.unusedSimpArgs false
section
variable {X : Type}
theorem gt_app (P : List Int) (x : Int) (R : List Int) : gt (P ++ x :: R) P.length = x := by
  unfold gt; simp
theorem gt_app1 (P : List Int) (x y : Int) (R : List Int) : gt (P ++ x :: y :: R) (P.length + 1) = y := by
  unfold gt; simp
theorem rdNum_tell (P R : List Int) (n : Int) (h0 : 0 ≤ n) (h1 : n ≤ 65535) : rdNum (P ++ (tellN n).2 ++ R) P.length (tellN n).1 = some (n, P.length + (tellN n).2.length) := by
  unfold tellN
  by_cases h : n < 13
  · rw [if_pos h]
    unfold rdNum
    dsimp only
    rw [if_pos h]; rfl
  · rw [if_neg h]
    by_cases h' : n < 269
    · rw [if_pos h']
      unfold rdNum
      dsimp only
      rw [if_neg (by decide), if_pos rfl, if_pos (by simp)]
      have : gt (P ++ [n - 13] ++ R) P.length = n - 13 := by
        rw [List.append_assoc]; exact gt_app P _ R
      rw [this, show 13 + (n - 13) = n from by omega]; rfl
    · rw [if_neg h']
      unfold rdNum
      dsimp only
      rw [if_neg (by decide), if_neg (by decide), if_pos (by simp)]
      have e1 : gt (P ++ [(n - 269) / 256, (n - 269) % 256] ++ R) P.length = (n - 269) / 256 := by
        rw [List.append_assoc]; exact gt_app P _ _
      have e2 : gt (P ++ [(n - 269) / 256, (n - 269) % 256] ++ R) (P.length + 1) = (n - 269) % 256 := by
        rw [List.append_assoc]; exact gt_app1 P _ _ R
      rw [e1, e2, show 269 + (n - 269) / 256 * 256 + (n - 269) % 256 = n from by omega]; rfl
/-- Where an option's bytes stand. -/
def valAt (P : List Int) (last : Int) (o : Op) : Nat := P.length + 1 + (tellN (o.1 - last)).2.length + (tellN (o.2.length : Int)).2.length
theorem chunk_at (P : List Int) (last : Int) (o : Op) : valAt P last o + o.2.length = (P ++ chunk last o).length := by
  unfold valAt chunk
  simp only [List.length_append, List.length_singleton]
  omega
theorem hd_bnd (last : Int) (o : Op) (h : last ≤ o.1) : 0 ≤ hd last o ∧ hd last o < 239 ∧ hd last o / 16 = (tellN (o.1 - last)).1 ∧ hd last o % 16 = (tellN (o.2.length : Int)).1 ∧ (tellN (o.1 - last)).1 ≤ 14 ∧ (tellN (o.2.length : Int)).1 ≤ 14 := by
  have h1 := tell_bnd (o.1 - last) (by omega)
  have h2 := tell_bnd (o.2.length : Int) (by omega)
  unfold hd
  omega
theorem gt_hd (P : List Int) (last : Int) (o : Op) (R : List Int) : gt (P ++ chunk last o ++ R) P.length = hd last o := by
  unfold chunk
  rw [show P ++ ([hd last o] ++ (tellN (o.1 - last)).2 ++ (tellN (o.2.length : Int)).2 ++ o.2) ++ R = P ++ hd last o :: ((tellN (o.1 - last)).2 ++ (tellN (o.2.length : Int)).2 ++ o.2 ++ R) from by simp]
  exact gt_app P _ _
theorem rdO_enc (P R : List Int) (last : Int) (o : Op) (cnt : Nat) (h0 : 0 ≤ last) (h1 : last ≤ o.1) (h2 : o.1 ≤ 65535) (h3 : o.2.length ≤ 300) (hc : cnt < 24) :
    rdO (P ++ chunk last o ++ R) last cnt P.length = .inr (o.1, valAt P last o, (o.2.length : Int)) := by
  have hb := hd_bnd last o h1
  unfold rdO
  rw [gt_hd, hb.2.2.1, hb.2.2.2.1]
  rw [if_neg (by omega)]
  have e1 : P ++ chunk last o ++ R = (P ++ [hd last o]) ++ (tellN (o.1 - last)).2 ++ ((tellN (o.2.length : Int)).2 ++ o.2 ++ R) := by unfold chunk; simp
  have e2 : P ++ chunk last o ++ R = (P ++ [hd last o] ++ (tellN (o.1 - last)).2) ++ (tellN (o.2.length : Int)).2 ++ (o.2 ++ R) := by unfold chunk; simp
  have l1 : (P ++ [hd last o]).length = P.length + 1 := by simp
  have l2 : (P ++ [hd last o] ++ (tellN (o.1 - last)).2).length = P.length + 1 + (tellN (o.1 - last)).2.length := by simp; omega
  have n1 := rdNum_tell (P ++ [hd last o]) ((tellN (o.2.length : Int)).2 ++ o.2 ++ R) (o.1 - last) (by omega) (by omega)
  rw [← e1, l1] at n1
  have n2 := rdNum_tell (P ++ [hd last o] ++ (tellN (o.1 - last)).2) (o.2 ++ R) (o.2.length : Int) (by omega) (by omega)
  rw [← e2, l2] at n2
  rw [n1]
  dsimp only
  rw [n2]
  dsimp only
  have hlen : (P ++ chunk last o ++ R).length = valAt P last o + o.2.length + R.length := by rw [chunk_at, List.length_append]
  rw [if_neg (by omega), if_neg (by omega), if_neg (by omega), if_neg (by rw [hlen]; unfold valAt; omega)]
  rw [show last + (o.1 - last) = o.1 from by omega]; rfl
theorem val_take (P R : List Int) (last : Int) (o : Op) : ((P ++ chunk last o ++ R).drop (valAt P last o)).take o.2.length = o.2 := by
  have e : P ++ chunk last o ++ R = (P ++ [hd last o] ++ (tellN (o.1 - last)).2 ++ (tellN (o.2.length : Int)).2) ++ (o.2 ++ R) := by unfold chunk; simp
  have l : (P ++ [hd last o] ++ (tellN (o.1 - last)).2 ++ (tellN (o.2.length : Int)).2).length = valAt P last o := by unfold valAt; simp; omega
  rw [e, ← l, List.drop_left, List.take_left]
/-- Nothing stands behind the options, or a mark. -/
def Tl (T : List Int) : Prop := T = [] ∨ ∃ r, T = 255 :: r
theorem rd_enc : ∀ (kk : Nat) (B : List Op) (P : List Int) (last : Int) (acc : List Op) (T : List Int), B.length < kk → Okk last B → acc.length + B.length ≤ 24 → Tl T →
    rd kk (P ++ enc last B ++ T) last acc P.length = (0, (P ++ enc last B).length, acc ++ B)
  | 0, B, _, _, _, _, h, _, _, _ => absurd h (Nat.not_lt_zero _)
  | kk + 1, [], P, last, acc, T, h, _, hc, hT => by
    unfold rd
    rw [show enc last [] = [] from rfl, List.append_nil, List.append_nil]
    rw [if_neg]
    rintro ⟨h1, h2⟩
    rcases hT with rfl | ⟨r, rfl⟩
    · simp at h1
    · exact h2 (gt_app P 255 r)
  | kk + 1, o :: B, P, last, acc, T, h, hok, hc, hT => by
    obtain ⟨h0, h1, h2, h3, hok⟩ := hok
    simp only [List.length_cons] at h hc
    have e : P ++ enc last (o :: B) ++ T = P ++ chunk last o ++ (enc o.1 B ++ T) := by simp [enc]
    have e2 : P ++ enc last (o :: B) = P ++ chunk last o ++ enc o.1 B := by simp [enc]
    have hb := hd_bnd last o h1
    have cl := chunk_len last o h1
    unfold rd
    rw [e, gt_hd, if_pos ⟨by simp; omega, by omega⟩, rdO_enc P _ last o acc.length h0 h1 h2 h3 (by omega)]
    dsimp only
    rw [Int.toNat_natCast, val_take, chunk_at, ← List.append_assoc, e2]
    rw [rd_enc kk B (P ++ chunk last o) o.1 (acc ++ [o]) T (by omega) hok (by simp; omega) hT, List.append_assoc acc]; rfl
/-- Beginnings. -/
theorem gt_take {f : List Int} {c i : Nat} (h : i < c) : gt (f.take c) i = gt f i := by
  unfold gt
  rw [List.getElem?_take_of_lt h]
theorem rdNum_mono {f : List Int} {c a : Nat} {n : Int} {r : Int × Nat} (hc : c ≤ f.length) (h : rdNum (f.take c) a n = some r) : rdNum f a n = some r := by
  have hl : (f.take c).length = c := by rw [List.length_take]; omega
  unfold rdNum at h ⊢
  rw [hl] at h
  split at h
  · next h1 => rw [if_pos h1]; exact h
  · next h1 =>
    rw [if_neg h1]
    split at h
    · next h2 =>
      rw [if_pos h2]
      split at h
      · next h3 => rw [if_pos (by omega), ← gt_take h3]; exact h
      · cases h
    · next h2 =>
      rw [if_neg h2]
      split at h
      · next h3 => rw [if_pos (by omega), ← gt_take (f := f) (c := c) (i := a) (by omega), ← gt_take (f := f) (c := c) (i := a + 1) (by omega)]; exact h
      · cases h
theorem rdO_mono {f : List Int} {c cnt a : Nat} {last : Int} {r : Int × Nat × Int} (hc : c ≤ f.length) (ha : a < c) (h : rdO (f.take c) last cnt a = .inr r) : rdO f last cnt a = .inr r := by
  have hl : (f.take c).length = c := by rw [List.length_take]; omega
  unfold rdO at h ⊢
  rw [gt_take ha, hl] at h
  split at h
  · cases h
  next h1 =>
  rw [if_neg h1]
  split at h
  · cases h
  next d p e1 =>
  rw [rdNum_mono hc e1]
  dsimp only
  split at h
  · cases h
  next n q e2 =>
  rw [rdNum_mono hc e2]
  dsimp only
  split at h
  · cases h
  next h3 =>
  rw [if_neg h3]
  split at h
  · cases h
  next h4 =>
  rw [if_neg h4]
  split at h
  · cases h
  next h5 =>
  rw [if_neg h5]
  split at h
  · cases h
  next h6 =>
  rw [if_neg (by omega)]
  exact h
/-- What is read of a beginning: nothing, or the first options. -/
theorem rd_trunc : ∀ (kk : Nat) (B : List Op) (P : List Int) (last : Int) (acc : List Op) (T : List Int) (c : Nat), Byt (P ++ enc last B ++ T) → B.length < kk → Okk last B → acc.length + B.length ≤ 24 → Tl T → P.length ≤ c → c ≤ (P ++ enc last B ++ T).length →
    (rd kk ((P ++ enc last B ++ T).take c) last acc P.length).1 ≠ 0 ∨ (∃ j, j < B.length ∧ rd kk ((P ++ enc last B ++ T).take c) last acc P.length = (0, c, acc ++ B.take j)) ∨ ((P ++ enc last B).length ≤ c ∧ rd kk ((P ++ enc last B ++ T).take c) last acc P.length = (0, (P ++ enc last B).length, acc ++ B))
  | 0, B, _, _, _, _, _, _, h, _, _, _, _, _ => absurd h (Nat.not_lt_zero _)
  | kk + 1, [], P, last, acc, T, c, hby, h, _, hc, hT, hP, hcl => by
    refine .inr (.inr ?_)
    rw [show enc last [] = [] from rfl, List.append_nil] at hcl ⊢
    refine ⟨hP, ?_⟩
    unfold rd
    rw [if_neg, List.append_nil]
    rintro ⟨h1, h2⟩
    rw [List.length_take] at h1
    rw [gt_take (by omega)] at h2
    rcases hT with rfl | ⟨r, rfl⟩
    · rw [List.append_nil] at hcl; omega
    · exact h2 (gt_app P 255 r)
  | kk + 1, o :: B, P, last, acc, T, c, hby, h, hok, hc, hT, hP, hcl => by
    obtain ⟨h0, h1, h2, h3, hok⟩ := hok
    simp only [List.length_cons] at h hc
    have e : P ++ enc last (o :: B) ++ T = P ++ chunk last o ++ (enc o.1 B ++ T) := by simp [enc]
    have e2 : P ++ enc last (o :: B) = P ++ chunk last o ++ enc o.1 B := by simp [enc]
    have e3 : P ++ chunk last o ++ (enc o.1 B ++ T) = P ++ chunk last o ++ enc o.1 B ++ T := by simp
    have hl : ((P ++ enc last (o :: B) ++ T).take c).length = c := by rw [List.length_take]; omega
    rcases Nat.eq_or_lt_of_le hP with hPc | hPc
    · refine .inr (.inl ⟨0, by simp, ?_⟩)
      unfold rd
      rw [if_neg (by rw [hl]; omega), List.take_zero, List.append_nil, hPc]
    have hb := hd_bnd last o h1
    unfold rd
    rw [if_pos ⟨by rw [hl]; exact hPc, by rw [gt_take hPc, e, gt_hd]; omega⟩]
    cases hr : rdO ((P ++ enc last (o :: B) ++ T).take c) last acc.length P.length with
    | inl er =>
      refine .inl ?_
      obtain ⟨e', q⟩ := er
      have := rdO_err hr
      show e' ≠ 0
      omega
    | inr r =>
      have hm := rdO_mono hcl hPc hr
      have hq := hr
      rw [e, rdO_enc P _ last o acc.length h0 h1 h2 h3 (by omega)] at hm
      cases hm
      have bd := rdO_bnd (hby.take c) (by rw [hl]; exact hPc) h0 hq
      rw [hl] at bd
      dsimp only
      rw [Int.toNat_natCast]
      have hca := chunk_at P last o
      have hcc : (P ++ chunk last o).length ≤ c := by omega
      have hv : (((P ++ enc last (o :: B) ++ T).take c).drop (valAt P last o)).take o.2.length = o.2 := by
        rw [List.drop_take, List.take_take, Nat.min_eq_left (by omega), e, val_take]
      rw [hv, hca, e, e3]
      rw [e, e3] at hcl hby
      have ih := rd_trunc kk B (P ++ chunk last o) o.1 (acc ++ [o]) T c hby (by omega) hok (by simp; omega) hT hcc hcl
      rcases ih with ih | ⟨j, hj, ih⟩ | ⟨hle, ih⟩
      · exact .inl ih
      · refine .inr (.inl ⟨j + 1, by simp; omega, ?_⟩)
        rw [ih, List.take_succ_cons, List.append_assoc]; rfl
      · refine .inr (.inr ⟨by rw [e2]; exact hle, ?_⟩)
        rw [ih, e2, List.append_assoc acc]; rfl
/-- Bytes. -/
theorem tell_byt (n : Int) (h0 : 0 ≤ n) (h1 : n ≤ 65535) : Byt (tellN n).2 := by
  unfold tellN
  split
  · exact Byt.nil
  · split
    · exact Byt.cons (by omega) Byt.nil
    · exact Byt.cons (by omega) (Byt.cons (by omega) Byt.nil)
theorem enc_byt : ∀ (l : List Op) (last : Int), Okk last l → BytO l → Byt (enc last l)
  | [], _, _, _ => Byt.nil
  | o :: l, last, h, hb => by
    obtain ⟨h0, h1, h2, h3, hok⟩ := h
    have hh := hd_bnd last o h1
    unfold enc chunk
    refine Byt.app (Byt.app (Byt.app (Byt.app (Byt.cons (by omega) Byt.nil) (tell_byt _ (by omega) (by omega))) (tell_byt _ (by omega) (by omega))) (hb o List.mem_cons_self)) (enc_byt l o.1 hok fun p hp => hb p (List.mem_cons_of_mem _ hp))
theorem isort_byt {l : List Op} (h : BytO l) : BytO (isort l) := fun o ho => h o (isort_mem.1 ho)
end
end Go.Proofs.YtlgdoglffddjfaaD
