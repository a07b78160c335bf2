/- A flash: bytes that are programmed, and programmed once more. -/
import Derived.Test.YtpdeankgekknaaaPc
import Derived.Test.YtpdeankgekknaaaLSame
namespace Go.Proofs.YtpdeankgekknaaaD
open Go Go.Proofs.YtpdeankgekknaaaS Go.Proofs
set_option linter.unusedVariables false
set_option linter.unusedSimpArgs false
section
variable {X : Type}
/-- Would no bit have to be set? -/
def clB (B : List Int) (a : Nat) (xs : List Int) : Bool := (xs.zip (B.drop a)).all fun p => bop .andNot .u8 p.1 p.2 == 0
theorem clears_eq {k : Nat} (K : Bool × Nat × Int × Nat × Int × Int × Bool × List CV × List CV → Option X) (a : Nat) (xs : List Int) (sec l : Int) (B W : List Int) (t : Nat) (d : Bool) (hB : B.length ≤ 300000) (ha : a + xs.length ≤ B.length) (hk : 300000 < k) :
    f28 k K (a : Int) (by8 xs) B.length sec W.length t l d (by8 B) (by64 W) = K (clB B a xs, fl B sec W t l d) := by
  unfold f28 f28_A f28_T
  have key := iterV_spec (T := f28_L1 k K) (fun i => ((a : Int), by8 xs, (xs.length : Int), (i : Int), B.length, sec, W.length, (t : Int), l, d, by8 B, by64 W)) (fun i => K (clB B (a + i) (xs.drop i), fl B sec W t l d)) xs.length (fun i rec hi hr => by
    unfold f28_L1 f28_T1
    have hb : a + i < B.length := by omega
    have e1 : IntKind.wrap .i64 ((a : Int) + (i : Int)) = ((a + i : Nat) : Int) := by rw [wrap64 (by omega) (by omega)]; simp
    simp only [decLt, decide_eq_true hi, cond_true, dec0, grd_true, Int.toNat_natCast, e1, by8_get, List.getElem?_eq_getElem hi, List.getElem?_eq_getElem hb, Nat.zero_add, Option.map_some, Option.bind_some, isI_int, toI_int, hb, decide_true]
    have e2 : clB B (a + i) (xs.drop i) = ((bop .andNot .u8 xs[i] B[a + i] == 0) && clB B (a + (i + 1)) (xs.drop (i + 1))) := by
      unfold clB
      rw [List.drop_eq_getElem_cons hi, List.drop_eq_getElem_cons hb, List.zip_cons_cons, List.all_cons]
      rfl
    rw [e2]
    cases h : bop .andNot .u8 xs[i] B[a + i] == 0 with
    | true =>
      rw [show (bop .andNot .u8 xs[i] B[a + i] != 0) = false by unfold bne; rw [h]; rfl]
      simp only [cond_false, Bool.true_and]
      rw [← hr]
      refine congrArg rec (Prod.ext rfl (Prod.ext rfl (Prod.ext rfl (Prod.ext ?_ rfl))))
      exact wrap64_s (by omega)
    | false =>
      rw [show (bop .andNot .u8 xs[i] B[a + i] != 0) = true by unfold bne; rw [h]; rfl]
      simp only [cond_true, Bool.false_and, take_all (by8 B) B.length (by simp [by8_length]), take_all (by64 W) W.length (by simp [by64_length])]
      rfl) (fun rec => by
    unfold f28_L1 f28_T1
    simp only [decLt, Nat.lt_irrefl, decide_false, cond_false, t8, t64]
    refine congrArg K (Prod.ext ?_ rfl)
    unfold clB
    rw [List.drop_eq_nil_of_le (Nat.le_refl _)]
    rfl) k 0 (Nat.zero_le _) (by omega)
  refine Eq.trans ?_ key
  refine congrArg _ (Prod.ext rfl (Prod.ext rfl (Prod.ext ?_ rfl)))
  show ((by8 xs).length : Int) = _
  rw [by8_length]
theorem prog_loop {k0 : Nat} (K : Int × Nat × Int × Nat × Int × Int × Bool × List CV × List CV → Option X) (B W : List Int) (a : Nat) (xs : List Int) (sec : Int) (hz : a + xs.length ≤ B.length) (hB : B.length ≤ 300000) (t : Nat) (ht : t ≤ 1073741824) (l : Int) (hl : l < 9223372036854775808) :
    ∀ (k i : Nat), xs.length - i < k → i ≤ xs.length → i ≤ goes l xs.length → iterV (f16_L1 (fun X => @f25 X k0) (fun X => @f28 X k0) (fun X => @f27 X k0) k0 K) k ((a : Int), by8 xs, (xs.length : Int), (i : Int), (over B a (xs.take i)).length, sec, W.length, ((tmin t i : Nat) : Int), (if l < 0 then l else l - i), false, by8 (over B a (xs.take i)), by64 W) = K (endR B a xs sec W t l)
  | 0, i, h, _, _ => by omega
  | k + 1, i, h, hi, hg => by
    have ih := fun i h1 h2 h3 => prog_loop (k0 := k0) K B W a xs sec hz hB t ht l hl k i h1 h2 h3
    show f16_L1 _ _ _ k0 K (iterV (f16_L1 (fun X => @f25 X k0) (fun X => @f28 X k0) (fun X => @f27 X k0) k0 K) k) _ = _
    generalize iterV (f16_L1 (fun X => @f25 X k0) (fun X => @f28 X k0) (fun X => @f27 X k0) k0 K) k = rc at ih ⊢
    unfold f16_L1 f16_T1
    have htl : (xs.take i).length = i := by rw [List.length_take]; omega
    have hol : (over B a (xs.take i)).length = B.length := over_len (by omega)
    have htm : tmin t i ≤ 1073741824 := Nat.min_le_right _ _
    by_cases hlt : i < xs.length
    · simp only [decLt, decide_eq_true hlt, cond_true, dec0, grd_true, Int.toNat_natCast, by8_get, List.getElem?_eq_getElem hlt, Option.map_some, Option.bind_some, isI_int, toI_int]
      have e1 : IntKind.wrap .i64 ((a : Int) + (i : Int)) = ((a + i : Nat) : Int) := by rw [wrap64 (by omega) (by omega)]; simp
      rw [e1]
      refine (turn_eq _ (a + i) xs[i] _ _ _ W (tmin t i) false (by omega) htm (by split <;> omega)).trans ?_
      by_cases h0 : (if l < 0 then l else l - (i : Int)) = 0
      · rw [if_pos h0]
        have hl0 : ¬ l < 0 := fun e => by rw [if_pos e] at h0; omega
        rw [if_neg hl0] at h0
        have hgo : goes l xs.length = i := by unfold goes; rw [if_neg hl0]; omega
        simp only [fl, Bool.not_false, cond_true, t8, t64]
        unfold endR
        rw [hgo, if_pos hlt, if_neg hl0, h0]
        rfl
      · rw [if_neg h0]
        simp only [fl, Bool.not_true, cond_false]
        have hset : (over B a (xs.take i)).set (a + i) xs[i] = over B a (xs.take (i + 1)) := by
          have := over_set (B := B) (a := a) (xs := xs.take i) (x := xs[i]) (by omega)
          rw [htl] at this
          rw [this, List.take_append_getElem hlt]
        rw [hset]
        have hg2 : i + 1 ≤ goes l xs.length := by
          unfold goes at hg ⊢
          by_cases hl0 : l < 0
          · rw [if_pos hl0]; omega
          · rw [if_neg hl0] at h0 hg ⊢; omega
        rw [← ih (i + 1) (by omega) (by omega) hg2]
        refine congrArg rc (Prod.ext rfl (Prod.ext rfl (Prod.ext rfl (Prod.ext ?_ (Prod.ext rfl (Prod.ext rfl (Prod.ext rfl (Prod.ext ?_ (Prod.ext ?_ rfl)))))))))
        · exact wrap64_s (by omega)
        · exact congrArg (fun n : Nat => (n : Int)) (tmin_one t i)
        · show (if (if l < 0 then l else l - (i : Int)) < 0 then (if l < 0 then l else l - (i : Int)) else (if l < 0 then l else l - (i : Int)) - 1) = if l < 0 then l else l - ((i + 1 : Nat) : Int)
          by_cases hl0 : l < 0
          · simp only [if_pos hl0]
          · simp only [if_neg hl0] at h0 ⊢
            have : (i : Int) ≤ l := by unfold goes at hg2; rw [if_neg hl0] at hg2; omega
            rw [if_neg (by omega)]; omega
    · have hie : i = xs.length := by omega
      subst hie
      simp only [decLt, Nat.lt_irrefl, decide_false, cond_false, t8, t64, List.take_length]
      have hgo : goes l xs.length = xs.length := by
        have : goes l xs.length ≤ xs.length := by unfold goes; split <;> omega
        omega
      unfold endR
      rw [hgo, if_neg (Nat.lt_irrefl _)]
      refine congrArg K (Prod.ext rfl (Prod.ext rfl (Prod.ext rfl (Prod.ext rfl (Prod.ext rfl (Prod.ext ?_ rfl))))))
      show (if l < 0 then l else l - (xs.length : Int)) = leftL l xs.length
      unfold leftL
      rw [hgo]
theorem prog_eq {k : Nat} (K : Int × Nat × Int × Nat × Int × Int × Bool × List CV × List CV → Option X) (hk : 300000 < k) (at_ : Int) (xs : List Int) (sec l : Int) (B W : List Int) (t : Nat) (d : Bool) (hB : B.length ≤ 262144) (ht : t ≤ 1073741824) (hl : l < 9223372036854775808) :
    f16 k K at_ (by8 xs) B.length sec W.length t l d (by8 B) (by64 W) = if d = true then K (30, fl B sec W t l d) else if wiB B.length at_ xs.length = false then K (1, fl B sec W t l d) else if clB B at_.toNat xs = false then K (31, fl B sec W t l d) else K (endR B at_.toNat xs sec W t l) := by
  unfold f16 f16_A f16_T
  simp only [t8, t64, by8_length]
  cases d with
  | true => rfl
  | false =>
    simp only [cond_false]
    rw [within_eq _ _ _ _ _ _ _ _ _ (by omega), if_neg (by decide)]
    cases h : wiB B.length at_ xs.length with
    | false =>
      rw [if_pos rfl]
      simp only [fl, Bool.not_false, cond_true, t8, t64]
    | true =>
      rw [if_neg (by decide)]
      simp only [fl, Bool.not_true, cond_false]
      obtain ⟨h1, h2, h3, h4⟩ := of_decide_eq_true h
      obtain ⟨a, rfl⟩ : ∃ n : Nat, at_ = n := ⟨at_.toNat, by omega⟩
      refine (clears_eq _ a xs sec l B W t false (by omega) (by omega) hk).trans ?_
      simp only [Int.toNat_natCast]
      cases hc : clB B a xs with
      | false =>
        rw [if_pos rfl]
        simp only [fl, Bool.not_false, cond_true, t8, t64]
      | true =>
        rw [if_neg (by decide)]
        simp only [fl, Bool.not_true, cond_false]
        have := prog_loop (k0 := k) K B W a xs sec (by omega) (by omega) t ht l hl k 0 (by omega) (by omega) (Nat.zero_le _)
        refine Eq.trans ?_ this
        refine congrArg _ (Prod.ext rfl (Prod.ext rfl (Prod.ext rfl (Prod.ext rfl (Prod.ext ?_ (Prod.ext rfl (Prod.ext rfl (Prod.ext ?_ (Prod.ext ?_ (Prod.ext rfl (Prod.ext ?_ rfl)))))))))))
        · show B.length = (over B a (xs.take 0)).length
          rw [over_len (by simp; omega)]
        · show (t : Int) = ((tmin t 0 : Nat) : Int)
          unfold tmin; omega
        · show l = if l < 0 then l else l - ((0 : Nat) : Int)
          split <;> omega
        · show by8 B = by8 (over B a (xs.take 0))
          simp [over]
theorem andNot_full (x : Int) : bop .andNot .u8 x 255 = 0 := by
  show IntKind.wrap .u8 (((BitVec.ofInt 8 x &&& ~~~ BitVec.ofInt 8 255).toNat : Nat) : Int) = 0
  have : ~~~ BitVec.ofInt 8 255 = 0#8 := by decide
  rw [this, BitVec.and_zero]; rfl
theorem andNot_self (x : Int) : bop .andNot .u8 x x = 0 := by
  show IntKind.wrap .u8 (((BitVec.ofInt 8 x &&& ~~~ BitVec.ofInt 8 x).toNat : Nat) : Int) = 0
  rw [BitVec.and_not_self]; rfl
theorem cl_full (xs : List Int) (n a : Nat) : clB (List.replicate n 255) a xs = true := by
  unfold clB
  rw [List.all_eq_true]
  intro p hp
  have h2 := (List.of_mem_zip hp).2
  rw [List.drop_replicate] at h2
  rw [(List.mem_replicate.1 h2).2, andNot_full]; rfl
theorem over_drop (B : List Int) (a : Nat) (xs : List Int) (h : a ≤ B.length) : (over B a xs).drop a = xs ++ B.drop (a + xs.length) := by
  unfold over
  rw [List.append_assoc, List.drop_append, List.drop_eq_nil_of_le (by simp; omega)]
  simp [Nat.min_eq_left h]
theorem cl_over (B : List Int) (a : Nat) (xs : List Int) (h : a ≤ B.length) : clB (over B a xs) a xs = true := by
  unfold clB
  rw [over_drop B a xs h, List.all_eq_true]
  intro p hp
  have : xs.zip (xs ++ B.drop (a + xs.length)) = xs.zip xs := by
    conv => lhs; rw [← List.append_nil xs]
    rw [List.zip_append (by simp)]
    simp
  rw [this] at hp
  have : p.1 = p.2 := by
    have h := List.mem_iff_getElem.1 hp
    obtain ⟨i, hi, rfl⟩ := h
    simp
  rw [this, andNot_self]; rfl
theorem over_over (B : List Int) (a : Nat) (xs : List Int) (h : a + xs.length ≤ B.length) : over (over B a xs) a xs = over B a xs := by
  have h1 : (over B a xs).take a = B.take a := by
    unfold over
    rw [List.append_assoc, List.take_append_of_le_length (by simp; omega), List.take_take, Nat.min_self]
  have h2 : (over B a xs).drop (a + xs.length) = B.drop (a + xs.length) := by
    rw [← List.drop_drop, over_drop B a xs (by omega), List.drop_append, List.drop_length, Nat.sub_self]; rfl
  show (over B a xs).take a ++ xs ++ (over B a xs).drop (a + xs.length) = _
  rw [h1, h2]; rfl
theorem take_drop0 (a : List Int) : List.take a.length (List.drop 0 (by8 a)) = by8 a := by
  rw [List.drop_zero, take_all _ _ (by rw [by8_length]; exact Nat.le_refl _)]
theorem again_eq {k : Nat} (K : Bool → Option X) (hk : 400000 < k) (x at_ : Int) (xs : List Int) (hat : at_ < 9223372036854775808) : f5 k K x at_ (by8 xs) = K true := by
  have h2 := zN_b x
  have hb := sz_b 4 x
  unfold f5 f5_A f5_T
  refine (alive_eq _ hk).trans ?_
  simp only [Bool.not_true, cond_false, by8_length, bif_dec]
  split
  · rfl
  split
  · rfl
  rename_i hx hxs
  refine (new_eq _ hk 4 x).trans ?_
  have hlen : (List.replicate (sN 4 * zN x) (255 : Int)).length = sN 4 * zN x := by simp
  have hW : (List.replicate (sN 4) (0 : Int)).length = sN 4 := by simp
  have hcl := cl_full xs (sN 4 * zN x) at_.toNat
  generalize List.replicate (sN 4 * zN x) (255 : Int) = B at hlen hcl ⊢
  generalize List.replicate (sN 4) (0 : Int) = W at hW ⊢
  simp only []
  rw [← hlen, ← hW]
  refine (prog_eq _ (by omega) at_ xs _ (-1) B W 0 false (by omega) (by omega) (by omega)).trans ?_
  rw [if_neg (by decide)]
  cases hw : wiB B.length at_ xs.length with
  | false =>
    rw [if_pos rfl]
    simp only [fl]
    refine (bifT rfl).trans ?_
    refine (turned_eq _ _ (-1) B W 0 false).trans ?_
    simp only [fl]
    refine (bifT rfl).trans ?_
    have hn := of_decide_eq_false hw
    by_cases h1 : at_ < 0
    · rw [if_pos h1]
    rw [if_neg h1]
    refine (size_eq _ _ (-1) B W 0 false).trans ?_
    simp only [fl]
    by_cases h3 : at_ > (B.length : Int)
    · rw [if_pos h3]
    rw [if_neg h3]
    refine (size_eq _ _ (-1) B W 0 false).trans ?_
    refine congrArg K (decide_eq_true ?_)
    show (xs.length : Int) > IntKind.wrap .i64 ((B.length : Int) - at_)
    rw [wrap64 (by omega) (by omega)]
    omega
  | true =>
    rw [if_neg (by decide), hcl, if_neg (by decide)]
    obtain ⟨g1, g2, g3, g4⟩ := of_decide_eq_true hw
    obtain ⟨a, rfl⟩ : ∃ n : Nat, at_ = n := ⟨at_.toNat, by omega⟩
    have hax : a + xs.length ≤ B.length := by omega
    have hgo : goes (-1) xs.length = xs.length := by unfold goes; rw [if_pos (by decide)]
    have hE : ∀ (t : Nat) (B : List Int) (z : Int), endR B a xs z W t (-1) = (0, fl (over B a xs) z W (tmin t xs.length) (-1) false) := fun t B z => by
      unfold endR leftL
      rw [hgo, if_neg (Nat.lt_irrefl _), if_pos (by decide)]
    simp only [Int.toNat_natCast, hE, fl]
    refine (bifF rfl).trans ?_
    have hol : (over B a xs).length = B.length := over_len hax
    have hcl2 := cl_over B a xs (by omega)
    have hoo := over_over B a xs hax
    have hrd : ((over B a xs).drop a).take xs.length = xs := by rw [over_drop B a xs (by omega), take_app_len _ _ _ rfl]
    generalize over B a xs = C at hol hcl2 hoo hrd ⊢
    have ht1 : tmin 0 xs.length = xs.length := by unfold tmin; omega
    rw [ht1]
    refine (image_eq _ _ (-1) C W xs.length false (by omega)).trans ?_
    simp only []
    refine (prog_eq _ (by omega) (a : Int) xs _ (-1) C W xs.length false (by omega) (by omega) (by omega)).trans ?_
    have hw2 : wiB C.length (a : Int) xs.length = true := by rw [hol]; exact hw
    rw [if_neg (by decide), hw2, if_neg (by decide)]
    simp only [Int.toNat_natCast, hcl2, hE, fl, hoo]
    rw [if_neg (by decide)]
    refine (read_eq _ (a : Int) (xs.length : Int) _ (-1) C W _ false (by omega)).trans ?_
    have e2 : rdE C false (a : Int) (xs.length : Int) = 0 := by unfold rdE; rw [hw2]; rfl
    have e3 : rdV C false (a : Int) (xs.length : Int) = xs := by
      unfold rdV
      rw [e2, if_pos rfl]
      simp only [Int.toNat_natCast, hrd]
    rw [e2, e3]
    refine (bifT rfl).trans ?_
    refine (bifT rfl).trans ?_
    simp only [take_drop0]
    refine (same_eq _ xs xs (by omega) (by omega)).trans ?_
    rw [decide_eq_true rfl]
    refine (bifT rfl).trans ?_
    refine (image_eq _ _ (-1) C W _ false (by omega)).trans ?_
    simp only [take_drop0]
    refine (same_eq _ C C (by omega) (by omega)).trans ?_
    rw [decide_eq_true rfl]
    refine (bifT rfl).trans ?_
    refine (turned_eq _ _ (-1) C W _ false).trans ?_
    refine congrArg K ?_
    have ht2 : tmin xs.length xs.length = 2 * xs.length := by unfold tmin; omega
    have hw3 : IntKind.wrap .i64 (2 * (xs.length : Int)) = ((2 * xs.length : Nat) : Int) := by rw [wrap64 (by omega) (by omega)]; simp
    rw [ht2, hw3]
    simp
theorem law_again (x0 : Int) (_ : (Lit.int .i64 x0).wf = true) (x1 : Int) (w1 : (Lit.int .i64 x1).wf = true) (x2 : List Int) (_ : x2.length ≤ maxLen ∧ ∀ y ∈ x2, (Lit.int .u8 y).wf = true) :
    ∃ k, ∀ K : Bool → Option Out, f5 k K x0 x1 (x2.map fun y => .int .u8 y) = K true := ⟨400001, fun K => again_eq K (by omega) x0 x1 x2 (wf64 w1).2⟩
end
end Go.Proofs.YtpdeankgekknaaaD
