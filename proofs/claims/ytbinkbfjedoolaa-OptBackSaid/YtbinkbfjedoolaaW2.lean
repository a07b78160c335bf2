/- Plain texts joined (by cut.py). -/
import Derived.Test.YtbinkbfjedoolaaW1
import Derived.Test.YtbinkbfjedoolaaPM
namespace Go.Proofs.YtbinkbfjedoolaaD
open Go Go.Proofs.YtbinkbfjedoolaaS Go.Proofs
set_option linter.unusedVariables false
set_option linter.unusedSimpArgs false
namespace Uin
section
variable {X : Type}
/-- The bytes of a number, the last first. -/
def leF : Nat → Nat → List Int
  | 0, _ => []
  | f + 1, n => if n = 0 then [] else ((n % 256 : Nat) : Int) :: leF f (n / 256)
theorem leF_len : ∀ f n, (leF f n).length ≤ f
  | 0, n => by simp [leF]
  | f + 1, n => by
    unfold leF
    split
    · simp
    · have := leF_len f (n / 256); simp; omega
theorem leF_byt : ∀ f n, Byt (leF f n)
  | 0, n => Byt.nil
  | f + 1, n => by
    unfold leF
    split
    · exact Byt.nil
    · exact Byt.cons (by omega) (leF_byt f _)
/-- The bytes of a number. -/
def be (n : Nat) : List Int := (leF 8 n).reverse
theorem be_len (n : Nat) : (be n).length ≤ 8 := by simpa [be] using leF_len 8 n
theorem be_byt (n : Nat) : Byt (be n) := (leF_byt 8 n).rev
theorem rev_loop {k : Nat} (K : List CV → Option X) (xs : List Int) (hk : xs.length < k) (hl : xs.length < 4611686018427387904) :
    f33 k K xs.length (by8 xs) = K (by8 xs.reverse) := by
  unfold f33 f33_A f33_T
  -- the state behind i turns: the first i and the last i are in place
  have key := iterV_spec (T := f33_L1 k K) (fun i => (xs.length, (i : Int), (xs.length : Int) - 1 - i, by8 (xs.reverse.take i ++ ((xs.drop i).take (xs.length - 2 * i) ++ xs.reverse.drop (xs.length - i))))) (fun i => K (by8 xs.reverse)) (xs.length / 2) (fun i rec hi hr => by
    have e1 : (Int.toNat ((xs.length : Int) - 1 - i)) = xs.length - 1 - i := by omega
    have i1 : i < xs.length := by omega
    have i2 : xs.length - 1 - i < xs.length := by omega
    -- what stands at i and at the other end
    have hlen : (xs.reverse.take i ++ ((xs.drop i).take (xs.length - 2 * i) ++ xs.reverse.drop (xs.length - i))).length = xs.length := by
      simp; omega
    have g1 : (xs.reverse.take i ++ ((xs.drop i).take (xs.length - 2 * i) ++ xs.reverse.drop (xs.length - i)))[i]? = some xs[i] := by
      rw [List.getElem?_append_right (by simp; omega), List.getElem?_append_left (by simp; omega), List.getElem?_take_of_lt (by simp; omega), List.getElem?_drop]
      simp only [List.length_take, List.length_reverse, Nat.min_eq_left (show i ≤ xs.length by omega), Nat.sub_self, Nat.add_zero]
      exact List.getElem?_eq_getElem i1
    have g2 : (xs.reverse.take i ++ ((xs.drop i).take (xs.length - 2 * i) ++ xs.reverse.drop (xs.length - i)))[xs.length - 1 - i]? = some xs[xs.length - 1 - i] := by
      rw [List.getElem?_append_right (by simp; omega), List.getElem?_append_left (by simp; omega), List.getElem?_take_of_lt (by simp; omega), List.getElem?_drop]
      simp only [List.length_take, List.length_reverse, Nat.min_eq_left (show i ≤ xs.length by omega)]
      rw [show i + (xs.length - 1 - i - i) = xs.length - 1 - i by omega]
      exact List.getElem?_eq_getElem i2
    have hnext : ((xs.reverse.take i ++ ((xs.drop i).take (xs.length - 2 * i) ++ xs.reverse.drop (xs.length - i))).set i xs[xs.length - 1 - i]).set (xs.length - 1 - i) xs[i] = (xs.reverse.take (i + 1) ++ ((xs.drop (i + 1)).take (xs.length - 2 * (i + 1)) ++ xs.reverse.drop (xs.length - (i + 1)))) := by
      refine List.ext_getElem? fun j => ?_
      rw [List.getElem?_set, List.getElem?_set]
      simp only [List.length_set, hlen]
      by_cases j2 : xs.length - 1 - i = j
      · subst j2
        rw [if_pos rfl, if_pos i2]
        rw [List.getElem?_append_right (by simp; omega), List.getElem?_append_right (by simp; omega), List.getElem?_drop, List.getElem?_reverse (by simp; omega)]
        rw [← List.getElem?_eq_getElem i1]
        congr 1
        simp
        omega
      rw [if_neg j2]
      by_cases j1 : i = j
      · subst j1
        rw [if_pos rfl, if_pos i1]
        rw [List.getElem?_append_left (by simp; omega), List.getElem?_take_of_lt (by omega), List.getElem?_reverse i1, List.getElem?_eq_getElem i2]
      rw [if_neg j1]
      by_cases c1 : j < i
      · rw [List.getElem?_append_left (by simp; omega), List.getElem?_append_left (by simp; omega), List.getElem?_take_of_lt c1, List.getElem?_take_of_lt (by omega)]
      by_cases c2 : j < xs.length - 1 - i
      · rw [List.getElem?_append_right (by simp; omega), List.getElem?_append_left (by simp; omega), List.getElem?_append_right (by simp; omega), List.getElem?_append_left (by simp; omega)]
        simp only [List.length_take, List.length_reverse]
        rw [List.getElem?_take_of_lt (by omega), List.getElem?_take_of_lt (by omega), List.getElem?_drop, List.getElem?_drop]
        congr 1
        omega
      · rw [List.getElem?_append_right (by simp; omega), List.getElem?_append_right (by simp; omega), List.getElem?_append_right (by simp; omega), List.getElem?_append_right (by simp; omega)]
        rw [List.getElem?_drop, List.getElem?_drop]
        congr 1
        simp
        omega
    unfold f33_L1 f33_T1
    refine (bifT (decide_eq_true (by simp only []; omega))).trans ?_
    refine (grdT (decide_eq_true (by simp only []; omega))).trans ?_
    refine (grdT (decide_eq_true (by simp only []; omega))).trans ?_
    simp only [Nat.zero_add, e1, by8_get, g1, g2, Option.map_some, Option.bind_some, isI_int, toI_int, grd_true, dec0, Int.toNat_natCast, by8_set, hnext]
    refine (grdT (decide_eq_true (by omega))).trans ?_
    refine (grdT (decide_eq_true (by omega))).trans ?_
    refine (grdT (decide_eq_true (by rw [by8_length, hlen]; omega))).trans ?_
    refine (grdT (decide_eq_true (by omega))).trans ?_
    refine (grdT (decide_eq_true (by omega))).trans ?_
    refine (grdT (decide_eq_true (by rw [by8_length, List.length_set, hlen]; omega))).trans ?_
    rw [← hr]
    refine congrArg rec (Prod.ext rfl (Prod.ext ?_ (Prod.ext ?_ rfl)))
    · exact wrap64_s (by omega)
    · show IntKind.wrap .i64 ((xs.length : Int) - 1 - (i : Int) - 1) = (xs.length : Int) - 1 - ((i + 1 : Nat) : Int)
      rw [wrap64 (by omega) (by omega)]
      omega) (fun rec => by
    unfold f33_L1 f33_T1
    refine (bifF (decide_eq_false (by simp only []; omega))).trans ?_
    refine congrArg K (congrArg by8 ?_)
    refine List.ext_getElem? fun j => ?_
    by_cases c1 : j < xs.length / 2
    · rw [List.getElem?_append_left (by simp; omega), List.getElem?_take_of_lt c1]
    by_cases c2 : j < xs.length - xs.length / 2
    · have hj : j = xs.length / 2 := by omega
      have ho : xs.length % 2 = 1 := by omega
      rw [List.getElem?_append_right (by simp; omega), List.getElem?_append_left (by simp; omega), List.getElem?_take_of_lt (by simp; omega), List.getElem?_drop, List.getElem?_reverse (by omega)]
      congr 1
      simp
      omega
    · rw [List.getElem?_append_right (by simp; omega), List.getElem?_append_right (by simp; omega), List.getElem?_drop]
      congr 1
      simp
      omega) k 0 (Nat.zero_le _) (by omega)
  have e0 : by8 (xs.reverse.take 0 ++ ((xs.drop 0).take (xs.length - 2 * 0) ++ xs.reverse.drop (xs.length - 0))) = by8 xs := by
    rw [show xs.reverse.drop (xs.length - 0) = [] from List.drop_eq_nil_of_le (by simp)]
    simp
  rw [e0] at key
  rw [← key]
  refine congrArg _ (Prod.ext rfl (Prod.ext rfl (Prod.ext ?_ rfl)))
  show IntKind.wrap .i64 _ = _
  rw [wrap64 (by omega) (by omega)]
  simp
theorem uint_loop {k0 : Nat} (K : Nat × List CV → Option X) (h0 : 100 < k0) : ∀ (f k n : Nat) (A : List Int), n < 256 ^ f → f < k → A.length + f ≤ 50 → n < 9223372036854775808 →
    iterV (f18_L1 (fun X => @f33 X k0) k0 K) k ((n : Int), A.length, by8 A) = K ((A ++ leF f n).length, by8 (A ++ leF f n).reverse)
  | f, 0, n, A, _, hf, _, _ => by omega
  | f, k + 1, n, A, hn, hf, hA, hb => by
    show f18_L1 (fun X => @f33 X k0) k0 K (iterV _ k) _ = _
    unfold f18_L1 f18_T1
    by_cases h : n = 0
    · subst h
      refine (bifF (decide_eq_false (by simp))).trans ?_
      have e : leF f 0 = [] := by cases f <;> simp [leF]
      simp only [e, List.append_nil, Nat.zero_add]
      rw [rev_loop _ _ (by omega) (by omega), take_all _ _ (by simp [by8_length])]
    · refine (bifT (decide_eq_true (by simp only []; omega))).trans ?_
      match f, hn with
      | 0, hn => simp at hn; omega
      | f + 1, hn =>
        have e1 : List.take 1 (List.drop 0 [CV.int IntKind.u8 (IntKind.wrap .u8 (n : Int))]) = by8 [((n % 256 : Nat) : Int)] := by
          rw [wrapU8]; rfl
        have e2 : List.take A.length (by8 A) = by8 A := take_all _ _ (by simp [by8_length])
        have e3 : Int.fdiv (n : Int) (2 ^ 8) = ((n / 256 : Nat) : Int) := by
          rw [fdiv_eq _ (by decide)]; rfl
        simp only [e1, e2, e3, ← by8_append]
        refine (grdT (decide_eq_true (by simp [by8_length]; omega))).trans ?_
        have hr := uint_loop K h0 f k (n / 256) (A ++ [((n % 256 : Nat) : Int)]) (by rw [Nat.pow_succ] at hn; omega) (by omega) (by simp; omega) (by omega)
        have e4 : A ++ leF (f + 1) n = A ++ [((n % 256 : Nat) : Int)] ++ leF f (n / 256) := by
          conv => lhs; unfold leF
          rw [if_neg h]; simp
        rw [e4, ← hr]
        refine congrArg _ (Prod.ext rfl (Prod.ext ?_ rfl))
        simp [by8_length]
theorem uint_eq {k : Nat} (K : Nat × List CV → Option X) (hk : 100 < k) (n : Nat) (hn : n < 9223372036854775808) : f18 k K (n : Int) = K ((be n).length, by8 (be n)) := by
  have := uint_loop (k0 := k) K hk 8 k n [] (Nat.lt_of_lt_of_le hn (by decide)) (by omega) (by simp) hn
  refine Eq.trans ?_ (this.trans ?_)
  · rfl
  · simp [be]
end
section
variable {X : Type}
/-- The number of bytes. -/
def numN (bs : List Int) : Nat := bs.foldl (fun n b => n * 256 + b.toNat) 0
theorem numN_snoc (bs : List Int) (b : Int) : numN (bs ++ [b]) = numN bs * 256 + b.toNat := by simp [numN]
theorem numN_take {bs : List Int} {i : Nat} (h : i < bs.length) : numN (bs.take (i + 1)) = numN (bs.take i) * 256 + bs[i].toNat := by
  rw [← List.take_append_getElem h, numN_snoc]
theorem foldl_lt : ∀ (bs : List Int) (n m : Nat), Byt bs → n < 256 ^ m → bs.foldl (fun n b => n * 256 + b.toNat) n < 256 ^ (m + bs.length)
  | [], n, m, _, h => by simpa using h
  | b :: bs, n, m, hb, h => by
    have h1 := hb b List.mem_cons_self
    have := foldl_lt bs (n * 256 + b.toNat) (m + 1) (fun c hc => hb c (List.mem_cons_of_mem _ hc)) (by rw [Nat.pow_succ]; omega)
    simp only [List.foldl_cons, List.length_cons]
    rw [show m + (bs.length + 1) = m + 1 + bs.length by omega]
    exact this
theorem numN_lt (bs : List Int) (h : Byt bs) : numN bs < 256 ^ bs.length := by
  have := foldl_lt bs 0 0 h (by decide)
  simpa [numN] using this
theorem numN_leF : ∀ f n, n < 256 ^ f → numN (leF f n).reverse = n
  | 0, n, h => by simp at h; simp [leF, numN, h]
  | f + 1, n, h => by
    unfold leF
    split
    · simp [numN, *]
    · rw [List.reverse_cons, numN_snoc, numN_leF f (n / 256) (by rw [Nat.pow_succ] at h; omega)]
      omega
theorem numN_be (n : Nat) (h : n < 9223372036854775808) : numN (be n) = n := numN_leF 8 n (Nat.lt_of_lt_of_le h (by decide))
theorem leF_len_le : ∀ f j n, n < 256 ^ j → (leF f n).length ≤ j
  | 0, j, n, h => by simp [leF]
  | f + 1, j, n, h => by
    unfold leF
    split
    · simp
    · match j, h with
      | 0, h => simp at h; omega
      | j + 1, h =>
        have := leF_len_le f j (n / 256) (by rw [Nat.pow_succ] at h; omega)
        simp; omega
theorem be_len_le (j n : Nat) (h : n < 256 ^ j) : (be n).length ≤ j := by simpa [be] using leF_len_le 8 j n h
theorem number_eq {k : Nat} (K : Int × Bool → Option X) (hk : 100 < k) (bs : List Int) (hb : Byt bs) :
    f19 k K (by8 bs) = if bs.length > 7 then K (0, false) else K ((numN bs : Nat), true) := by
  unfold f19 f19_A f19_T
  split
  · exact bifT (decide_eq_true (by rw [by8_length]; omega))
  · refine (bifF (decide_eq_false (by rw [by8_length]; omega))).trans ?_
    have key := iterV_spec (T := f19_L1 k K) (fun i => ((numN (bs.take i) : Nat), by8 bs, (bs.length : Int), (i : Int))) (fun i => K ((numN bs : Nat), true)) bs.length (fun i rec hi hr => by
      unfold f19_L1 f19_T1
      have h1 := hb bs[i] (List.getElem_mem hi)
      have h2 := numN_lt (bs.take i) (hb.take i)
      have h3 : 256 ^ (bs.take i).length ≤ 256 ^ 6 := Nat.pow_le_pow_right (by decide) (by simp; omega)
      have h4 : (256 : Nat) ^ 6 = 281474976710656 := by decide
      simp only [decLt, hi, decide_true, cond_true, dec0, grd_true, Int.toNat_natCast, by8_get, List.getElem?_eq_getElem hi, Option.map_some, Option.bind_some, isI_int, toI_int]
      rw [← hr]
      refine congrArg rec (Prod.ext ?_ (Prod.ext rfl (Prod.ext rfl ?_)))
      · show bop .or .i64 (IntKind.wrap .i64 (((numN (bs.take i) : Nat) : Int) * 2 ^ 8)) (IntKind.wrap .i64 bs[i]) = _
        have e1 : IntKind.wrap .i64 (((numN (bs.take i) : Nat) : Int) * 2 ^ 8) = ((numN (bs.take i) * 2 ^ 8 : Nat) : Int) := by
          rw [wrap64 (by omega) (by omega)]; rfl
        have e2 : IntKind.wrap .i64 bs[i] = ((bs[i].toNat : Nat) : Int) := by
          rw [wrap64 (by omega) (by omega)]; omega
        rw [e1, e2, bop_or64 (by omega) (by omega), or_add (by omega), numN_take hi]
      · exact wrap64_s (by omega)) (fun rec => by
      unfold f19_L1 f19_T1
      simp only [decLt, Nat.lt_irrefl, decide_false, cond_false, List.take_length]) k 0 (Nat.zero_le _) (by omega)
    rw [← key]
    refine congrArg _ (Prod.ext rfl (Prod.ext rfl (Prod.ext ?_ rfl)))
    simp [by8_length]
end
end Uin
end Go.Proofs.YtbinkbfjedoolaaD
