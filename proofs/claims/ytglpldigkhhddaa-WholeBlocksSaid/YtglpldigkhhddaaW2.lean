/- Plain texts joined (by cut.py). -/
import Derived.Test.YtglpldigkhhddaaW1
import Derived.Test.YtglpldigkhhddaaPM
namespace Go.Proofs.YtglpldigkhhddaaD
open Go Go.Proofs.YtglpldigkhhddaaS Go.Proofs
set_option linter.unusedVariables false
set_option linter.unusedSimpArgs false
namespace Blk
section
variable {X : Type}
/-- The bytes of a number, the last first. -/
def leF : Nat → Nat → List Int
  | 0, _ => []
  | f + 1, n => if n = 0 then [] else ((n % 256 : Nat) : Int) :: leF f (n / 256)
theorem leF_len : ∀ f n, (leF f n).length ≤ f
  | 0, n => by simp [leF]
  | f + 1, n => by
    unfold leF
    split
    · simp
    · have := leF_len f (n / 256); simp; omega
theorem leF_byt : ∀ f n, Byt (leF f n)
  | 0, n => Byt.nil
  | f + 1, n => by
    unfold leF
    split
    · exact Byt.nil
    · exact Byt.cons (by omega) (leF_byt f _)
/-- The bytes of a number. -/
def be (n : Nat) : List Int := (leF 8 n).reverse
theorem be_len (n : Nat) : (be n).length ≤ 8 := by simpa [be] using leF_len 8 n
theorem be_byt (n : Nat) : Byt (be n) := (leF_byt 8 n).rev
theorem rev_loop {k : Nat} (K : List CV → Option X) (xs : List Int) (hk : xs.length < k) (hl : xs.length < 4611686018427387904) :
    f39 k K xs.length (by8 xs) = K (by8 xs.reverse) := by
  unfold f39 f39_A f39_T
  -- the state behind i turns: the first i and the last i are in place
  have key := iterV_spec (T := f39_L1 k K) (fun i => (xs.length, (i : Int), (xs.length : Int) - 1 - i, by8 (xs.reverse.take i ++ ((xs.drop i).take (xs.length - 2 * i) ++ xs.reverse.drop (xs.length - i))))) (fun i => K (by8 xs.reverse)) (xs.length / 2) (fun i rec hi hr => by
    have e1 : (Int.toNat ((xs.length : Int) - 1 - i)) = xs.length - 1 - i := by omega
    have i1 : i < xs.length := by omega
    have i2 : xs.length - 1 - i < xs.length := by omega
    -- what stands at i and at the other end
    have hlen : (xs.reverse.take i ++ ((xs.drop i).take (xs.length - 2 * i) ++ xs.reverse.drop (xs.length - i))).length = xs.length := by
      simp; omega
    have g1 : (xs.reverse.take i ++ ((xs.drop i).take (xs.length - 2 * i) ++ xs.reverse.drop (xs.length - i)))[i]? = some xs[i] := by
      rw [List.getElem?_append_right (by simp; omega), List.getElem?_append_left (by simp; omega), List.getElem?_take_of_lt (by simp; omega), List.getElem?_drop]
      simp only [List.length_take, List.length_reverse, Nat.min_eq_left (show i ≤ xs.length by omega), Nat.sub_self, Nat.add_zero]
      exact List.getElem?_eq_getElem i1
    have g2 : (xs.reverse.take i ++ ((xs.drop i).take (xs.length - 2 * i) ++ xs.reverse.drop (xs.length - i)))[xs.length - 1 - i]? = some xs[xs.length - 1 - i] := by
      rw [List.getElem?_append_right (by simp; omega), List.getElem?_append_left (by simp; omega), List.getElem?_take_of_lt (by simp; omega), List.getElem?_drop]
      simp only [List.length_take, List.length_reverse, Nat.min_eq_left (show i ≤ xs.length by omega)]
      rw [show i + (xs.length - 1 - i - i) = xs.length - 1 - i by omega]
      exact List.getElem?_eq_getElem i2
    have hnext : ((xs.reverse.take i ++ ((xs.drop i).take (xs.length - 2 * i) ++ xs.reverse.drop (xs.length - i))).set i xs[xs.length - 1 - i]).set (xs.length - 1 - i) xs[i] = (xs.reverse.take (i + 1) ++ ((xs.drop (i + 1)).take (xs.length - 2 * (i + 1)) ++ xs.reverse.drop (xs.length - (i + 1)))) := by
      refine List.ext_getElem? fun j => ?_
      rw [List.getElem?_set, List.getElem?_set]
      simp only [List.length_set, hlen]
      by_cases j2 : xs.length - 1 - i = j
      · subst j2
        rw [if_pos rfl, if_pos i2]
        rw [List.getElem?_append_right (by simp; omega), List.getElem?_append_right (by simp; omega), List.getElem?_drop, List.getElem?_reverse (by simp; omega)]
        rw [← List.getElem?_eq_getElem i1]
        congr 1
        simp
        omega
      rw [if_neg j2]
      by_cases j1 : i = j
      · subst j1
        rw [if_pos rfl, if_pos i1]
        rw [List.getElem?_append_left (by simp; omega), List.getElem?_take_of_lt (by omega), List.getElem?_reverse i1, List.getElem?_eq_getElem i2]
      rw [if_neg j1]
      by_cases c1 : j < i
      · rw [List.getElem?_append_left (by simp; omega), List.getElem?_append_left (by simp; omega), List.getElem?_take_of_lt c1, List.getElem?_take_of_lt (by omega)]
      by_cases c2 : j < xs.length - 1 - i
      · rw [List.getElem?_append_right (by simp; omega), List.getElem?_append_left (by simp; omega), List.getElem?_append_right (by simp; omega), List.getElem?_append_left (by simp; omega)]
        simp only [List.length_take, List.length_reverse]
        rw [List.getElem?_take_of_lt (by omega), List.getElem?_take_of_lt (by omega), List.getElem?_drop, List.getElem?_drop]
        congr 1
        omega
      · rw [List.getElem?_append_right (by simp; omega), List.getElem?_append_right (by simp; omega), List.getElem?_append_right (by simp; omega), List.getElem?_append_right (by simp; omega)]
        rw [List.getElem?_drop, List.getElem?_drop]
        congr 1
        simp
        omega
    unfold f39_L1 f39_T1
    refine (bifT (decide_eq_true (by simp only []; omega))).trans ?_
    refine (grdT (decide_eq_true (by simp only []; omega))).trans ?_
    refine (grdT (decide_eq_true (by simp only []; omega))).trans ?_
    simp only [Nat.zero_add, e1, by8_get, g1, g2, Option.map_some, Option.bind_some, isI_int, toI_int, grd_true, dec0, Int.toNat_natCast, by8_set, hnext]
    refine (grdT (decide_eq_true (by omega))).trans ?_
    refine (grdT (decide_eq_true (by omega))).trans ?_
    refine (grdT (decide_eq_true (by rw [by8_length, hlen]; omega))).trans ?_
    refine (grdT (decide_eq_true (by omega))).trans ?_
    refine (grdT (decide_eq_true (by omega))).trans ?_
    refine (grdT (decide_eq_true (by rw [by8_length, List.length_set, hlen]; omega))).trans ?_
    rw [← hr]
    refine congrArg rec (Prod.ext rfl (Prod.ext ?_ (Prod.ext ?_ rfl)))
    · exact wrap64_s (by omega)
    · show IntKind.wrap .i64 ((xs.length : Int) - 1 - (i : Int) - 1) = (xs.length : Int) - 1 - ((i + 1 : Nat) : Int)
      rw [wrap64 (by omega) (by omega)]
      omega) (fun rec => by
    unfold f39_L1 f39_T1
    refine (bifF (decide_eq_false (by simp only []; omega))).trans ?_
    refine congrArg K (congrArg by8 ?_)
    refine List.ext_getElem? fun j => ?_
    by_cases c1 : j < xs.length / 2
    · rw [List.getElem?_append_left (by simp; omega), List.getElem?_take_of_lt c1]
    by_cases c2 : j < xs.length - xs.length / 2
    · have hj : j = xs.length / 2 := by omega
      have ho : xs.length % 2 = 1 := by omega
      rw [List.getElem?_append_right (by simp; omega), List.getElem?_append_left (by simp; omega), List.getElem?_take_of_lt (by simp; omega), List.getElem?_drop, List.getElem?_reverse (by omega)]
      congr 1
      simp
      omega
    · rw [List.getElem?_append_right (by simp; omega), List.getElem?_append_right (by simp; omega), List.getElem?_drop]
      congr 1
      simp
      omega) k 0 (Nat.zero_le _) (by omega)
  have e0 : by8 (xs.reverse.take 0 ++ ((xs.drop 0).take (xs.length - 2 * 0) ++ xs.reverse.drop (xs.length - 0))) = by8 xs := by
    rw [show xs.reverse.drop (xs.length - 0) = [] from List.drop_eq_nil_of_le (by simp)]
    simp
  rw [e0] at key
  rw [← key]
  refine congrArg _ (Prod.ext rfl (Prod.ext rfl (Prod.ext ?_ rfl)))
  show IntKind.wrap .i64 _ = _
  rw [wrap64 (by omega) (by omega)]
  simp
theorem uint_loop {k0 : Nat} (K : Nat × List CV → Option X) (h0 : 100 < k0) : ∀ (f k n : Nat) (A : List Int), n < 256 ^ f → f < k → A.length + f ≤ 50 → n < 9223372036854775808 →
    iterV (f23_L1 (fun X => @f39 X k0) k0 K) k ((n : Int), A.length, by8 A) = K ((A ++ leF f n).length, by8 (A ++ leF f n).reverse)
  | f, 0, n, A, _, hf, _, _ => by omega
  | f, k + 1, n, A, hn, hf, hA, hb => by
    show f23_L1 (fun X => @f39 X k0) k0 K (iterV _ k) _ = _
    unfold f23_L1 f23_T1
    by_cases h : n = 0
    · subst h
      refine (bifF (decide_eq_false (by simp))).trans ?_
      have e : leF f 0 = [] := by cases f <;> simp [leF]
      simp only [e, List.append_nil, Nat.zero_add]
      rw [rev_loop _ _ (by omega) (by omega), take_all _ _ (by simp [by8_length])]
    · refine (bifT (decide_eq_true (by simp only []; omega))).trans ?_
      match f, hn with
      | 0, hn => simp at hn; omega
      | f + 1, hn =>
        have e1 : List.take 1 (List.drop 0 [CV.int IntKind.u8 (IntKind.wrap .u8 (n : Int))]) = by8 [((n % 256 : Nat) : Int)] := by
          rw [wrapU8]; rfl
        have e2 : List.take A.length (by8 A) = by8 A := take_all _ _ (by simp [by8_length])
        have e3 : Int.fdiv (n : Int) (2 ^ 8) = ((n / 256 : Nat) : Int) := by
          rw [fdiv_eq _ (by decide)]; rfl
        simp only [e1, e2, e3, ← by8_append]
        refine (grdT (decide_eq_true (by simp [by8_length]; omega))).trans ?_
        have hr := uint_loop K h0 f k (n / 256) (A ++ [((n % 256 : Nat) : Int)]) (by rw [Nat.pow_succ] at hn; omega) (by omega) (by simp; omega) (by omega)
        have e4 : A ++ leF (f + 1) n = A ++ [((n % 256 : Nat) : Int)] ++ leF f (n / 256) := by
          conv => lhs; unfold leF
          rw [if_neg h]; simp
        rw [e4, ← hr]
        refine congrArg _ (Prod.ext rfl (Prod.ext ?_ rfl))
        simp [by8_length]
theorem uint_eq {k : Nat} (K : Nat × List CV → Option X) (hk : 100 < k) (n : Nat) (hn : n < 9223372036854775808) : f23 k K (n : Int) = K ((be n).length, by8 (be n)) := by
  have := uint_loop (k0 := k) K hk 8 k n [] (Nat.lt_of_lt_of_le hn (by decide)) (by omega) (by simp) hn
  refine Eq.trans ?_ (this.trans ?_)
  · rfl
  · simp [be]
end
section
variable {X : Type}
/-- The number of bytes. -/
def numN (bs : List Int) : Nat := bs.foldl (fun n b => n * 256 + b.toNat) 0
theorem numN_snoc (bs : List Int) (b : Int) : numN (bs ++ [b]) = numN bs * 256 + b.toNat := by simp [numN]
theorem numN_take {bs : List Int} {i : Nat} (h : i < bs.length) : numN (bs.take (i + 1)) = numN (bs.take i) * 256 + bs[i].toNat := by
  rw [← List.take_append_getElem h, numN_snoc]
theorem foldl_lt : ∀ (bs : List Int) (n m : Nat), Byt bs → n < 256 ^ m → bs.foldl (fun n b => n * 256 + b.toNat) n < 256 ^ (m + bs.length)
  | [], n, m, _, h => by simpa using h
  | b :: bs, n, m, hb, h => by
    have h1 := hb b List.mem_cons_self
    have := foldl_lt bs (n * 256 + b.toNat) (m + 1) (fun c hc => hb c (List.mem_cons_of_mem _ hc)) (by rw [Nat.pow_succ]; omega)
    simp only [List.foldl_cons, List.length_cons]
    rw [show m + (bs.length + 1) = m + 1 + bs.length by omega]
    exact this
theorem numN_lt (bs : List Int) (h : Byt bs) : numN bs < 256 ^ bs.length := by
  have := foldl_lt bs 0 0 h (by decide)
  simpa [numN] using this
theorem numN_leF : ∀ f n, n < 256 ^ f → numN (leF f n).reverse = n
  | 0, n, h => by simp at h; simp [leF, numN, h]
  | f + 1, n, h => by
    unfold leF
    split
    · simp [numN, *]
    · rw [List.reverse_cons, numN_snoc, numN_leF f (n / 256) (by rw [Nat.pow_succ] at h; omega)]
      omega
theorem numN_be (n : Nat) (h : n < 9223372036854775808) : numN (be n) = n := numN_leF 8 n (Nat.lt_of_lt_of_le h (by decide))
theorem leF_len_le : ∀ f j n, n < 256 ^ j → (leF f n).length ≤ j
  | 0, j, n, h => by simp [leF]
  | f + 1, j, n, h => by
    unfold leF
    split
    · simp
    · match j, h with
      | 0, h => simp at h; omega
      | j + 1, h =>
        have := leF_len_le f j (n / 256) (by rw [Nat.pow_succ] at h; omega)
        simp; omega
theorem be_len_le (j n : Nat) (h : n < 256 ^ j) : (be n).length ≤ j := by simpa [be] using leF_len_le 8 j n h
theorem number_eq {k : Nat} (K : Int × Bool → Option X) (hk : 100 < k) (bs : List Int) (hb : Byt bs) :
    f36 k K (by8 bs) = if bs.length > 7 then K (0, false) else K ((numN bs : Nat), true) := by
  unfold f36 f36_A f36_T
  split
  · exact bifT (decide_eq_true (by rw [by8_length]; omega))
  · refine (bifF (decide_eq_false (by rw [by8_length]; omega))).trans ?_
    have key := iterV_spec (T := f36_L1 k K) (fun i => ((numN (bs.take i) : Nat), by8 bs, (bs.length : Int), (i : Int))) (fun i => K ((numN bs : Nat), true)) bs.length (fun i rec hi hr => by
      unfold f36_L1 f36_T1
      have h1 := hb bs[i] (List.getElem_mem hi)
      have h2 := numN_lt (bs.take i) (hb.take i)
      have h3 : 256 ^ (bs.take i).length ≤ 256 ^ 6 := Nat.pow_le_pow_right (by decide) (by simp; omega)
      have h4 : (256 : Nat) ^ 6 = 281474976710656 := by decide
      simp only [decLt, hi, decide_true, cond_true, dec0, grd_true, Int.toNat_natCast, by8_get, List.getElem?_eq_getElem hi, Option.map_some, Option.bind_some, isI_int, toI_int]
      rw [← hr]
      refine congrArg rec (Prod.ext ?_ (Prod.ext rfl (Prod.ext rfl ?_)))
      · show bop .or .i64 (IntKind.wrap .i64 (((numN (bs.take i) : Nat) : Int) * 2 ^ 8)) (IntKind.wrap .i64 bs[i]) = _
        have e1 : IntKind.wrap .i64 (((numN (bs.take i) : Nat) : Int) * 2 ^ 8) = ((numN (bs.take i) * 2 ^ 8 : Nat) : Int) := by
          rw [wrap64 (by omega) (by omega)]; rfl
        have e2 : IntKind.wrap .i64 bs[i] = ((bs[i].toNat : Nat) : Int) := by
          rw [wrap64 (by omega) (by omega)]; omega
        rw [e1, e2, bop_or64 (by omega) (by omega), or_add (by omega), numN_take hi]
      · exact wrap64_s (by omega)) (fun rec => by
      unfold f36_L1 f36_T1
      simp only [decLt, Nat.lt_irrefl, decide_false, cond_false, List.take_length]) k 0 (Nat.zero_le _) (by omega)
    rw [← key]
    refine congrArg _ (Prod.ext rfl (Prod.ext rfl (Prod.ext ?_ rfl)))
    simp [by8_length]
end
section
variable {X : Type}
/-- Which power of a size, -1 of none. -/
def pw (z : Int) : Int := if z = 16 then 0 else if z = 32 then 1 else if z = 64 then 2 else if z = 128 then 3 else if z = 256 then 4 else if z = 512 then 5 else if z = 1024 then 6 else -1
def Rt (n z : Int) : Prop := 0 ≤ pw z ∧ 0 ≤ n ∧ n ≤ 1048575
instance (n z : Int) : Decidable (Rt n z) := by unfold Rt; infer_instance
theorem Rt.of {n z : Int} (h : Rt n z) : ∃ N s : Nat, n = N ∧ N < 1048576 ∧ s ≤ 6 ∧ z = ((16 * 2 ^ s : Nat) : Int) ∧ pw z = s := by
  obtain ⟨h1, h2, h3⟩ := h
  refine ⟨n.toNat, (pw z).toNat, by omega, by omega, ?_⟩
  unfold pw at h1 ⊢
  split at h1
  · subst z; decide
  split at h1
  · subst z; decide
  split at h1
  · subst z; decide
  split at h1
  · subst z; decide
  split at h1
  · subst z; decide
  split at h1
  · subst z; decide
  split at h1
  · subst z; decide
  · exact absurd h1 (by decide)
theorem pw_of {s : Nat} (h : s ≤ 6) : pw ((16 * 2 ^ s : Nat) : Int) = s := by
  match s, h with
  | 0, _ => rfl
  | 1, _ => rfl
  | 2, _ => rfl
  | 3, _ => rfl
  | 4, _ => rfl
  | 5, _ => rfl
  | 6, _ => rfl
theorem Rt.mk {N s : Nat} (h : s ≤ 6) (hN : N < 1048576) : Rt (N : Int) ((16 * 2 ^ s : Nat) : Int) := ⟨by rw [pw_of h]; omega, by omega, by omega⟩
theorem beq_comm' (a b : Int) : (a == b) = decide (b = a) := by
  by_cases h : a = b
  · subst h; simp
  · rw [beq_f h]; simp [Ne.symm h]
theorem scale_eq {k : Nat} (K : Int × Bool → Option X) (hk : 100 < k) (z : Int) : f22 k K z = if 0 ≤ pw z then K (pw z, true) else K (0, false) := by
  obtain ⟨k, rfl⟩ : ∃ j, k = j + 8 := ⟨k - 8, by omega⟩
  have h : f22 (k + 8) K z = (bif ((16 : Int) == z) then K (0, true) else bif ((32 : Int) == z) then K (1, true) else bif ((64 : Int) == z) then K (2, true) else bif ((128 : Int) == z) then K (3, true) else bif ((256 : Int) == z) then K (4, true) else bif ((512 : Int) == z) then K (5, true) else bif ((1024 : Int) == z) then K (6, true) else K (0, false)) := by kernel_rfl
  rw [h]
  simp only [beq_comm', bif_dec]
  unfold pw
  repeat' split
  all_goals first | rfl | contradiction | (exfalso; omega)
theorem right_eq {k : Nat} (K : Bool → Option X) (hk : 100 < k) (n z : Int) : f20 k K n z = K (decide (Rt n z)) := by
  unfold f20 f20_A f20_T
  refine (scale_eq _ hk _).trans ?_
  by_cases h : 0 ≤ pw z
  · rw [if_pos h]
    simp only [cond_true, bif_dec]
    by_cases h2 : n ≥ 0
    · rw [if_pos h2]; exact congrArg K (decide_eq_decide.2 ⟨fun h3 => ⟨h, h2, by omega⟩, fun h3 => by have := h3.2.2; omega⟩)
    · rw [if_neg h2]; exact congrArg K (decide_eq_false (fun h3 => h2 h3.2.1)).symm
  · rw [if_neg h]
    exact congrArg K (decide_eq_false (fun h3 => h h3.1)).symm
/-- A block, as a value of the program. -/
def blk (n : Int) (m : Bool) (z : Int) : CV := .agg [.int .i64 n, .bool m, .int .i64 z]
theorem blk_a (n : Int) (m : Bool) (z : Int) : CV.isA 3 (blk n m z) = true := rfl
theorem blk_0 (n : Int) (m : Bool) (z : Int) : CV.cellD 0 (blk n m z) = .int .i64 n := rfl
theorem blk_1 (n : Int) (m : Bool) (z : Int) : CV.cellD 1 (blk n m z) = .bool m := rfl
theorem blk_2 (n : Int) (m : Bool) (z : Int) : CV.cellD 2 (blk n m z) = .int .i64 z := rfl
def wnum (n : Int) (m : Bool) (z : Int) : Nat := n.toNat * 16 + (pw z).toNat + (if m then 8 else 0)
def wr (n : Int) (m : Bool) (z : Int) : Nat × Int × List CV := if Rt n z then ((be (wnum n m z)).length, 0, by8 (be (wnum n m z))) else (0, 1, [])
theorem or8 {s : Nat} (h : s ≤ 6) : s ||| 8 = s + 8 := by
  match s, h with
  | 0, _ => rfl
  | 1, _ => rfl
  | 2, _ => rfl
  | 3, _ => rfl
  | 4, _ => rfl
  | 5, _ => rfl
  | 6, _ => rfl
theorem write_eq {k : Nat} (K : Nat × Int × List CV → Option X) (hk : 100 < k) (n z : Int) (m : Bool) : f7 k K (blk n m z) = K (wr n m z) := by
  unfold f7 f7_A f7_T
  simp only [blk_a, blk_0, blk_1, blk_2, isI_int, isB_bool, toI_int, toB_bool, grd_true]
  rw [right_eq _ hk]
  unfold wr
  by_cases h : Rt n z
  · obtain ⟨N, s, rfl, hN, hs, rfl, hp⟩ := h.of
    rw [decide_eq_true h, if_pos h]
    show f22 k _ ((16 * 2 ^ s : Nat) : Int) = _
    rw [scale_eq _ hk, hp, if_pos (by omega)]
    have e1 : IntKind.wrap .i64 ((N : Int) * 2 ^ 4) = ((N * 2 ^ 4 : Nat) : Int) := by rw [wrap64 (by omega) (by omega)]; rfl
    have e2 : bop .or .i64 (IntKind.wrap .i64 ((N : Int) * 2 ^ 4)) (s : Int) = ((N * 2 ^ 4 + s : Nat) : Int) := by
      rw [e1, bop_or64 (by omega) (by omega), or_add (by omega)]
    cases m
    · simp only [cond_false, cond_true]
      have hw : wnum (N : Int) false ((16 * 2 ^ s : Nat) : Int) = N * 2 ^ 4 + s := by unfold wnum; rw [hp]; simp
      rw [e2, hw]
      unfold f7_J1
      refine (uint_eq _ hk _ (by omega)).trans ?_
      simp only [Nat.zero_add]
      rw [take_all _ _ (by rw [by8_length]; exact Nat.le_refl _)]
    · simp only [cond_false, cond_true]
      have hw : wnum (N : Int) true ((16 * 2 ^ s : Nat) : Int) = N * 2 ^ 4 + s + 8 := by unfold wnum; rw [hp]; simp
      have e3 : bop .or .i64 ((N * 2 ^ 4 + s : Nat) : Int) 8 = ((N * 2 ^ 4 + s + 8 : Nat) : Int) := by
        have h6 : (N * 2 ^ 4 + s) ||| 8 = N * 2 ^ 4 + s + 8 := by
          have h7 : (N * 2 ^ 4 + s) ||| 8 = (N * 2 ^ 4 ||| s) ||| 8 := by rw [or_add (show s < 2 ^ 4 by omega)]
          rw [h7, Nat.or_assoc, or8 hs, or_add (show s + 8 < 2 ^ 4 by omega)]; omega
        have h5 := bop_or64 (a := N * 2 ^ 4 + s) (b := 8) (by omega) (by omega)
        rw [h6] at h5
        exact h5
      rw [e2, e3, hw]
      unfold f7_J1
      refine (uint_eq _ hk _ (by omega)).trans ?_
      simp only [Nat.zero_add]
      rw [take_all _ _ (by rw [by8_length]; exact Nat.le_refl _)]
  · rw [decide_eq_false h, if_neg h]
    rfl
theorem and_bit (n i : Nat) : n &&& 2 ^ i = if n / 2 ^ i % 2 = 1 then 2 ^ i else 0 := by
  refine Nat.eq_of_testBit_eq fun j => ?_
  rw [Nat.testBit_and, Nat.testBit_two_pow]
  by_cases h : i = j
  · subst h
    rw [Nat.testBit_eq_decide_div_mod_eq]
    by_cases c : n / 2 ^ i % 2 = 1
    · rw [if_pos c]; simp [c, Nat.testBit_two_pow]
    · rw [if_neg c]; simp [c]
  · simp [h]; split <;> simp [Nat.testBit_two_pow, h]
/-- The block of a value, and the error. -/
def rd (bs : List Int) : CV × Int := if bs.length > 3 ∨ numN bs % 8 = 7 then (blk 0 false 0, 20) else (blk ((numN bs / 16 : Nat) : Int) (decide (numN bs / 8 % 2 = 1)) ((16 * 2 ^ (numN bs % 8) : Nat) : Int), 0)
theorem numN_lt24 {bs : List Int} (hb : Byt bs) (h : bs.length ≤ 3) : numN bs < 16777216 := by
  have h1 := numN_lt bs hb
  have h2 : 256 ^ bs.length ≤ 256 ^ 3 := Nat.pow_le_pow_right (by decide) h
  have h3 : (256 : Nat) ^ 3 = 16777216 := by decide
  omega
theorem read_eq {k : Nat} (K : CV × Int → Option X) (hk : 100 < k) (bs : List Int) (hb : Byt bs) : f12 k K (by8 bs) = K (rd bs) := by
  unfold f12 f12_A f12_T
  refine (number_eq _ hk bs hb).trans ?_
  unfold rd
  by_cases h : bs.length > 3
  · rw [if_pos (Or.inl h)]
    have hd : decide (((by8 bs).length : Int) > 3) = true := decide_eq_true (by rw [by8_length]; omega)
    split <;> exact bifT hd
  · have hn := numN_lt24 hb (by omega)
    rw [if_neg (by omega)]
    refine (bifF (decide_eq_false (by rw [by8_length]; omega))).trans ?_
    have e1 : bop .and .i64 ((numN bs : Nat) : Int) 7 = ((numN bs % 8 : Nat) : Int) := by
      have := bop_mask64 ((numN bs : Nat) : Int) 3 (by decide)
      simpa using this
    simp only [e1]
    by_cases h7 : numN bs % 8 = 7
    · rw [if_pos (Or.inr h7), h7]
      rfl
    · rw [if_neg (by omega)]
      refine (bifF (beq_f (by omega))).trans ?_
      refine (grdT (decide_eq_true (by omega))).trans ?_
      have e2 : Int.fdiv ((numN bs : Nat) : Int) (2 ^ 4) = ((numN bs / 16 : Nat) : Int) := by rw [fdiv_eq _ (by decide)]; rfl
      have e3 : (bop .and .i64 ((numN bs : Nat) : Int) 8 != 0) = decide (numN bs / 8 % 2 = 1) := by
        have := bop_and64 (a := numN bs) (b := 8) (by omega) (by omega)
        rw [show (8 : Nat) = 2 ^ 3 from rfl, and_bit] at this
        rw [show (8 : Int) = ((2 ^ 3 : Nat) : Int) from rfl, this]
        by_cases hc : numN bs / 2 ^ 3 % 2 = 1
        · rw [if_pos hc, decide_eq_true (show numN bs / 8 % 2 = 1 from hc)]; rfl
        · rw [if_neg hc, decide_eq_false (show ¬ numN bs / 8 % 2 = 1 from hc)]; rfl
      have e4 : IntKind.wrap .i64 (16 * 2 ^ (min (Int.toNat ((numN bs % 8 : Nat) : Int)) 64)) = ((16 * 2 ^ (numN bs % 8) : Nat) : Int) := by
        have h8 : numN bs % 8 < 8 := Nat.mod_lt _ (by decide)
        generalize numN bs % 8 = q at h8
        match q, h8 with
        | 0, _ => rfl
        | 1, _ => rfl
        | 2, _ => rfl
        | 3, _ => rfl
        | 4, _ => rfl
        | 5, _ => rfl
        | 6, _ => rfl
        | 7, _ => rfl
      rw [e2, e3, e4]
      rfl
end
section
variable {X : Type}
/-- What of a body lies in a block. -/
def part (body : List Int) (n z : Int) : List Int := (body.drop (n.toNat * z.toNat)).take z.toNat
def ct (body : List Int) (n z : Int) : Nat × Bool × Bool × List CV :=
  if Rt n z ∧ (n.toNat * z.toNat < body.length ∨ n = 0) then ((part body n z).length, decide (n.toNat * z.toNat + z.toNat < body.length), true, by8 (part body n z)) else (0, false, false, [])
theorem sz {s : Nat} (h : s ≤ 6) : 16 ≤ 16 * 2 ^ s ∧ 16 * 2 ^ s ≤ 1024 := by
  match s, h with
  | 0, _ => decide
  | 1, _ => decide
  | 2, _ => decide
  | 3, _ => decide
  | 4, _ => decide
  | 5, _ => decide
  | 6, _ => decide
theorem mulb {N Z : Nat} (h : N < 1048576) (h2 : Z ≤ 1024) : N * Z < 1073741825 := by
  have : N * Z ≤ 1048576 * 1024 := Nat.mul_le_mul (by omega) h2
  omega
theorem wmul {N Z : Nat} (h : N < 1048576) (h2 : Z ≤ 1024) : IntKind.wrap .i64 ((N : Int) * (Z : Int)) = ((N * Z : Nat) : Int) := by
  have := mulb h h2
  have e : (N : Int) * (Z : Int) = ((N * Z : Nat) : Int) := by simp
  rw [e]
  exact wrap64N (by omega)
theorem cut_eq {k : Nat} (K : Nat × Bool × Bool × List CV → Option X) (hk : 100 < k) (body : List Int) (hb : body.length ≤ 100000) (n z : Int) : f6 k K (by8 body) n z = K (ct body n z) := by
  unfold f6 f6_A f6_T
  refine (right_eq _ hk _ _).trans ?_
  unfold ct
  by_cases h : Rt n z
  · obtain ⟨N, s, rfl, hN, hs, rfl, hp⟩ := h.of
    obtain ⟨z1, z2⟩ := sz hs
    rw [decide_eq_true h]
    generalize hZ : 16 * 2 ^ s = Z at h z1 z2 hp ⊢
    have hm := mulb hN z2
    simp only [Bool.not_true, cond_false, wmul hN z2, Int.toNat_natCast]
    have J : (N * Z < body.length ∨ (N : Int) = 0) → f6_J1 (fun X => @f20 X k) (fun X => @f21 X k) k K (by8 body) (N : Int) (Z : Int) () = K ((part body N Z).length, decide (N * Z + Z < body.length), true, by8 (part body N Z)) := fun hc => by
      have hle : N * Z ≤ body.length := by
        rcases hc with hc | hc
        · omega
        · have : N = 0 := by omega
          subst this; simp
      unfold f6_J1
      have e1 : IntKind.wrap .i64 (((N * Z : Nat) : Int) + (Z : Int)) = ((N * Z + Z : Nat) : Int) := by rw [wrap64 (by omega) (by omega)]; simp
      have e2 : (if ((N * Z + Z : Nat) : Int) < ((by8 body).length : Int) then ((N * Z + Z : Nat) : Int) else ((by8 body).length : Int)) = ((min (N * Z + Z) body.length : Nat) : Int) := by
        rw [by8_length]
        split <;> omega
      simp only [wmul hN z2, e1, e2, dec0, grd_true, Int.toNat_natCast]
      refine (grdT (decide_eq_true (by omega))).trans ?_
      refine (grdT (decide_eq_true (by rw [by8_length]; omega))).trans ?_
      have e3 : List.take (min (N * Z + Z) body.length - N * Z) (List.drop (N * Z) (by8 body)) = by8 (part body N Z) := by
        unfold part
        rw [Go.Proofs.YtglpldigkhhddaaS.by8_take, Go.Proofs.YtglpldigkhhddaaS.by8_drop]
        simp only [Int.toNat_natCast]
        by_cases c : N * Z + Z ≤ body.length
        · congr 1; omega
        · rw [take_all _ _ (by simp [by8_length]; omega), take_all _ _ (by simp [by8_length]; omega)]
      rw [e3]
      refine (clone_eq _ _ (by rw [by8_length]; unfold part; simp; omega)).trans ?_
      simp only [by8_length, Nat.zero_add]
      rw [take_all _ _ (by rw [by8_length]; exact Nat.le_refl _)]
      congr 2
      congr 1
      rw [decide_eq_decide]; omega
    by_cases hc : N * Z < body.length ∨ (N : Int) = 0
    · rw [if_pos ⟨h, hc⟩]
      rw [J hc]
      rcases hc with hc | hc
      · rw [decide_eq_false (by rw [by8_length]; omega)]; rfl
      · have hz : decide ((N : Int) > 0) = false := decide_eq_false (by omega)
        rw [hz]
        simp only [cond_false, bif_dec]
        split <;> rfl
    · rw [if_neg (fun e => hc e.2)]
      refine (bifT (decide_eq_true (by rw [by8_length]; omega))).trans ?_
      exact bifT (decide_eq_true (by omega))
  · rw [decide_eq_false h, if_neg (fun e => h e.1)]
    rfl
end
section
variable {X : Type}
/-- What a block makes of what has come: was it the last one, the error, may one follow, what has come. -/
def putE (most : Int) (on : Bool) (B : List Int) (n : Int) (m : Bool) (z : Int) (data : List Int) : Int :=
  if ¬ Rt n z then 1 else if ¬ (on = true ∧ n.toNat * z.toNat = B.length) then 4 else if (data.length : Int) > z ∨ (m = true ∧ (data.length : Int) < z) then 20 else if (B.length : Int) + data.length > most then 2 else 0
def putR (most : Int) (on : Bool) (B : List Int) (n : Int) (m : Bool) (z : Int) (data : List Int) : Bool × Int × Bool × List Int :=
  if putE most on B n m z data = 0 then (!m, 0, m, B ++ data) else (false, putE most on B n m z data, false, [])
def put (most : Int) (on : Bool) (B : List Int) (n : Int) (m : Bool) (z : Int) (data : List Int) : Bool × Int × Bool × List Int :=
  if n = 0 then putR most true [] n m z data else putR most on B n m z data
theorem fault_eq {k : Nat} (K : Int × Int × Nat × Bool × List CV → Option X) (hk : 100 < k) (most : Int) (on : Bool) (B data : List Int) (n z : Int) (m : Bool) (hm : 0 ≤ most ∧ most ≤ 1048576) (hB : B.length ≤ 1048576) :
    f37 k K (blk n m z) (by8 data) most B.length on (by8 B) = K (putE most on B n m z data, most, B.length, on, by8 B) := by
  unfold f37 f37_A f37_T
  simp only [blk_a, blk_0, blk_1, blk_2, isI_int, isB_bool, toI_int, toB_bool, grd_true]
  rw [right_eq _ hk]
  unfold putE
  have hT : List.take (0 + B.length) (by8 B) = by8 B := take_all _ _ (by simp [by8_length])
  by_cases h : Rt n z
  · obtain ⟨N, s, rfl, hN, hs, rfl, hp⟩ := h.of
    obtain ⟨z1, z2⟩ := sz hs
    rw [decide_eq_true h, if_neg (fun e => e h)]
    generalize hZ : 16 * 2 ^ s = Z at h z1 z2 hp ⊢
    have hmu := mulb hN z2
    simp only [Bool.not_true, cond_false, wmul hN z2, Int.toNat_natCast, hT]
    cases on
    · rw [if_pos (by simp)]; rfl
    simp only [Bool.not_true, cond_false, true_and]
    by_cases hl : ¬ N * Z = B.length
    · rw [if_pos hl]; exact bifT (bne_t (by omega))
    have hl := Decidable.not_not.1 hl
    rw [if_neg (fun e => e hl)]
    rw [show (((N * Z : Nat) : Int) != (B.length : Int)) = false by simp [hl]]
    simp only [cond_false, by8_length]
    have J : ∀ b : Bool, (b = true ↔ ((data.length : Int) > (Z : Int) ∨ (m = true ∧ (data.length : Int) < (Z : Int)))) → f37_J1 (fun X => @f20 X k) k K (by8 data) most (b, B.length, true, by8 B) = K (if (data.length : Int) > (Z : Int) ∨ (m = true ∧ (data.length : Int) < (Z : Int)) then 20 else if (B.length : Int) + data.length > most then 2 else 0, most, B.length, true, by8 B) := fun b hb => by
      unfold f37_J1
      by_cases h20 : (data.length : Int) > (Z : Int) ∨ (m = true ∧ (data.length : Int) < (Z : Int))
      · rw [if_pos h20, hb.2 h20]
        simp only [cond_true, hT]
      · rw [if_neg h20, show b = false by cases b; rfl; exact absurd (hb.1 rfl) h20]
        simp only [cond_false, hT, by8_length]
        rw [wrap64 (by omega) (by omega), bif_dec]
        by_cases h2 : (B.length : Int) + data.length > most
        · rw [if_pos h2, if_pos (by omega)]
        · rw [if_neg h2, if_neg (by omega)]
    cases m
    · simp only [cond_false]
      exact J _ (by simp)
    · simp only [cond_true]
      by_cases hd : (data.length : Int) = (Z : Int)
      · rw [show ((data.length : Int) != (Z : Int)) = false by simp [hd]]
        simp only [cond_false]
        exact (J _ ⟨fun e => Or.inl (of_decide_eq_true e), fun e => decide_eq_true (by rcases e with e | ⟨_, e⟩ <;> omega)⟩).trans (by simp only [true_and])
      · rw [bne_t hd]
        simp only [cond_true]
        exact (J _ ⟨fun _ => (Int.lt_or_gt_of_ne hd).elim (fun e => Or.inr ⟨rfl, e⟩) Or.inl, fun _ => rfl⟩).trans (by simp only [true_and])
  · rw [decide_eq_false h, if_pos h]
    simp only [Bool.not_false, cond_true, hT]
theorem putE_len {most : Int} {on : Bool} {B : List Int} {n : Int} {m : Bool} {z : Int} {data : List Int} (hm : most ≤ 1048576) (h : putE most on B n m z data = 0) : B.length + data.length ≤ 1048576 := by
  unfold putE at h
  split at h
  · exact absurd h (by decide)
  split at h
  · exact absurd h (by decide)
  split at h
  · exact absurd h (by decide)
  split at h
  · exact absurd h (by decide)
  omega
theorem put_eq {k : Nat} (K : Bool × Int × Int × Nat × Bool × List CV → Option X) (hk : 100 < k) (most : Int) (on : Bool) (B data : List Int) (n z : Int) (m : Bool) (hm : 0 ≤ most ∧ most ≤ 1048576) (hB : B.length ≤ 1048576) :
    f13 k K (blk n m z) (by8 data) most B.length on (by8 B) = K ((put most on B n m z data).1, (put most on B n m z data).2.1, most, (put most on B n m z data).2.2.2.length, (put most on B n m z data).2.2.1, by8 (put most on B n m z data).2.2.2) := by
  unfold f13 f13_A f13_T
  simp only [blk_a, blk_0, blk_1, blk_2, isI_int, isB_bool, toI_int, toB_bool, grd_true]
  have J : ∀ (on : Bool) (B : List Int), B.length ≤ 1048576 → f13_J1 (fun X => @f37 X k) k K (blk n m z) (by8 data, most, B.length, on, by8 B) = K ((putR most on B n m z data).1, (putR most on B n m z data).2.1, most, (putR most on B n m z data).2.2.2.length, (putR most on B n m z data).2.2.1, by8 (putR most on B n m z data).2.2.2) := fun on B hB => by
    unfold f13_J1
    simp only [blk_0, blk_1, blk_2, toI_int, toB_bool]
    refine (fault_eq _ hk most on B data n z m hm hB).trans ?_
    unfold putR
    by_cases h : putE most on B n m z data = 0
    · have hlen := putE_len hm.2 h
      rw [if_pos h, h]
      simp only [by8_length]
      refine (grdT (decide_eq_true (by omega))).trans ?_
      rw [take_all (by8 B) _ (by rw [by8_length]; exact Nat.le_refl _), ← by8_append, take_all _ _ (by rw [by8_length, List.length_append]; omega), List.length_append]
    · rw [if_neg h]
      exact bifT (bne_t h)
  unfold put
  by_cases h0 : n = 0
  · rw [if_pos h0]
    refine (bifT (by simp [h0])).trans ?_
    exact J true [] (by simp)
  · rw [if_neg h0]
    refine (bifF (beq_f h0)).trans ?_
    exact J on B hB
theorem bytes_eq {k : Nat} (K : Nat × Int × Nat × Bool × List CV × List CV → Option X) (most : Int) (on : Bool) (B : List Int) (hB : B.length ≤ 1048576) : f15 k K most B.length on (by8 B) = K (B.length, most, B.length, on, by8 B, by8 B) := by
  unfold f15 f15_A f15_T
  simp only [List.drop_zero]
  rw [take_all (by8 B) B.length (by simp [by8_length])]
  refine (clone_eq _ _ (by rw [by8_length]; omega)).trans ?_
  simp only [by8_length, Nat.zero_add]
  rw [take_all (by8 B) B.length (by simp [by8_length])]
def mst (m : Int) : Int := if m < 0 then 0 else if m > 1048576 then 1048576 else m
theorem mst_b (m : Int) : 0 ≤ mst m ∧ mst m ≤ 1048576 := by unfold mst; split <;> (try split) <;> omega
theorem new_eq {k : Nat} (K : Int × List CV → Option X) (m : Int) : f5 k K m = K (mst m, []) := by
  unfold f5 f5_A f5_T
  refine congrArg K (Prod.ext ?_ rfl)
  show (if (1048576 : Int) < (if 0 > m then 0 else m) then 1048576 else (if 0 > m then 0 else m)) = mst m
  unfold mst
  repeat' split
  all_goals omega
/-- What has come, as a value of the document's. -/
def jn (most : Int) (on : Bool) (B : List Int) : CV := .agg [.int .i64 most, .slc none (by8 B), .bool on]
theorem jn_a (a : Int) (b : Bool) (c : List Int) : CV.isA 3 (jn a b c) = true := rfl
theorem jn_0 (a : Int) (b : Bool) (c : List Int) : CV.cellD 0 (jn a b c) = .int .i64 a := rfl
theorem jn_1 (a : Int) (b : Bool) (c : List Int) : CV.cellD 1 (jn a b c) = .slc none (by8 c) := rfl
theorem jn_2 (a : Int) (b : Bool) (c : List Int) : CV.cellD 2 (jn a b c) = .bool b := rfl
end
section
variable {X : Type}
theorem part_take (body : List Int) (q Z : Nat) : body.take (q * Z) ++ part body q Z = body.take (q * Z + Z) := by
  unfold part
  simp only [Int.toNat_natCast]
  rw [List.take_add]
theorem mst_len {n : Nat} (h : n ≤ 4000) : mst (n : Int) = n := by
  unfold mst; rw [if_neg (by omega), if_neg (by omega)]
/-- The next block of a body, put behind those ahead. -/
theorem put_step (body : List Int) (hb : body.length ≤ 4000) (q s : Nat) (hs : s ≤ 6) (hq : q * (16 * 2 ^ s) < body.length ∨ q = 0) :
    Rt (q : Int) ((16 * 2 ^ s : Nat) : Int) ∧ ct body q ((16 * 2 ^ s : Nat) : Int) = ((part body q ((16 * 2 ^ s : Nat) : Int)).length, decide (q * (16 * 2 ^ s) + 16 * 2 ^ s < body.length), true, by8 (part body q ((16 * 2 ^ s : Nat) : Int))) ∧
    putR (body.length : Int) true (body.take (q * (16 * 2 ^ s))) q (decide (q * (16 * 2 ^ s) + 16 * 2 ^ s < body.length)) ((16 * 2 ^ s : Nat) : Int) (part body q ((16 * 2 ^ s : Nat) : Int)) =
      (!(decide (q * (16 * 2 ^ s) + 16 * 2 ^ s < body.length)), 0, decide (q * (16 * 2 ^ s) + 16 * 2 ^ s < body.length), body.take (q * (16 * 2 ^ s) + 16 * 2 ^ s)) := by
  obtain ⟨z1, z2⟩ := sz hs
  have hqb : q < 1048576 := by
    rcases hq with hq | hq
    · have : q * 16 ≤ q * (16 * 2 ^ s) := Nat.mul_le_mul_left _ z1
      omega
    · omega
  have hR : Rt (q : Int) ((16 * 2 ^ s : Nat) : Int) := Rt.mk hs hqb
  refine ⟨hR, ?_, ?_⟩
  · unfold ct
    rw [if_pos ⟨hR, by simp only [Int.toNat_natCast]; omega⟩]
    simp only [Int.toNat_natCast]
  · have hpl : (part body q ((16 * 2 ^ s : Nat) : Int)).length = min (16 * 2 ^ s) (body.length - q * (16 * 2 ^ s)) := by
      unfold part; simp only [Int.toNat_natCast, List.length_take, List.length_drop]
    have htl : (body.take (q * (16 * 2 ^ s))).length = q * (16 * 2 ^ s) := by
      rw [List.length_take]
      rcases hq with hq | hq
      · omega
      · subst hq; simp
    have hle : q * (16 * 2 ^ s) ≤ body.length := by
      rcases hq with hq | hq
      · omega
      · subst hq; simp
    have hE : putE (body.length : Int) true (body.take (q * (16 * 2 ^ s))) q (decide (q * (16 * 2 ^ s) + 16 * 2 ^ s < body.length)) ((16 * 2 ^ s : Nat) : Int) (part body q ((16 * 2 ^ s : Nat) : Int)) = 0 := by
      unfold putE
      rw [if_neg (fun e => e hR), if_neg (fun e => e ⟨rfl, by rw [htl]; simp only [Int.toNat_natCast]⟩), hpl, htl]
      generalize 16 * 2 ^ s = Z at *
      generalize q * Z = a at *
      rw [if_neg (by simp only [decide_eq_true_eq]; omega), if_neg (by omega)]
    unfold putR
    rw [if_pos hE, part_take]
theorem sh16 (s : Nat) (h : s ≤ 6) : IntKind.wrap .i64 (16 * 2 ^ (min s 64)) = ((16 * 2 ^ s : Nat) : Int) := by
  match s, h with
  | 0, _ => rfl
  | 1, _ => rfl
  | 2, _ => rfl
  | 3, _ => rfl
  | 4, _ => rfl
  | 5, _ => rfl
  | 6, _ => rfl
theorem sh32 (s : Nat) (h : s ≤ 5) : IntKind.wrap .i64 (32 * 2 ^ (min s 64)) = ((16 * 2 ^ (s + 1) : Nat) : Int) ∧ IntKind.wrap .i64 (Int.tdiv ((16 * 2 ^ (s + 1) : Nat) : Int) 2) = ((16 * 2 ^ s : Nat) : Int) := by
  match s, h with
  | 0, _ => exact ⟨rfl, rfl⟩
  | 1, _ => exact ⟨rfl, rfl⟩
  | 2, _ => exact ⟨rfl, rfl⟩
  | 3, _ => exact ⟨rfl, rfl⟩
  | 4, _ => exact ⟨rfl, rfl⟩
  | 5, _ => exact ⟨rfl, rfl⟩
theorem masked (x : Int) (d : Nat) (hd : 0 < d) : ∃ r : Nat, r < d ∧ Int.tmod (bop .and .i64 x 1023) (d : Int) = r := by
  have h := bop_mask64 x 10 (by decide)
  have h' : bop .and .i64 x 1023 = x % (2 ^ 10 : Nat) := h
  have h0 : (0 : Int) ≤ x % (2 ^ 10 : Nat) := Int.emod_nonneg _ (by decide)
  rw [h', tmod_eq h0]
  refine ⟨((x % (2 ^ 10 : Nat)) % (d : Int)).toNat, ?_, ?_⟩
  · have := Int.emod_lt_of_pos (x % (2 ^ 10 : Nat)) (show (0 : Int) < d by omega)
    have := Int.emod_nonneg (x % (2 ^ 10 : Nat)) (show (d : Int) ≠ 0 by omega)
    omega
  · have := Int.emod_nonneg (x % (2 ^ 10 : Nat)) (show (d : Int) ≠ 0 by omega)
    omega
end
end Blk
end Go.Proofs.YtglpldigkhhddaaD
