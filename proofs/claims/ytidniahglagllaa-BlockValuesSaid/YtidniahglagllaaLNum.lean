/- Bytes as numbers: in plain words. -/
import Derived.Test.YtidniahglagllaaLUint
namespace Go.Proofs.YtidniahglagllaaD
open Go Go.Proofs.YtidniahglagllaaS Go.Proofs
set_option linter.unusedVariables false
set_option linter.unusedSimpArgs false
section
variable {X : Type}
/-- The number of bytes. -/
def numN (bs : List Int) : Nat := bs.foldl (fun n b => n * 256 + b.toNat) 0
theorem numN_snoc (bs : List Int) (b : Int) : numN (bs ++ [b]) = numN bs * 256 + b.toNat := by simp [numN]
theorem numN_take {bs : List Int} {i : Nat} (h : i < bs.length) : numN (bs.take (i + 1)) = numN (bs.take i) * 256 + bs[i].toNat := by
  rw [← List.take_append_getElem h, numN_snoc]
theorem foldl_lt : ∀ (bs : List Int) (n m : Nat), Byt bs → n < 256 ^ m → bs.foldl (fun n b => n * 256 + b.toNat) n < 256 ^ (m + bs.length)
  | [], n, m, _, h => by simpa using h
  | b :: bs, n, m, hb, h => by
    have h1 := hb b List.mem_cons_self
    have := foldl_lt bs (n * 256 + b.toNat) (m + 1) (fun c hc => hb c (List.mem_cons_of_mem _ hc)) (by rw [Nat.pow_succ]; omega)
    simp only [List.foldl_cons, List.length_cons]
    rw [show m + (bs.length + 1) = m + 1 + bs.length by omega]
    exact this
theorem numN_lt (bs : List Int) (h : Byt bs) : numN bs < 256 ^ bs.length := by
  have := foldl_lt bs 0 0 h (by decide)
  simpa [numN] using this
theorem numN_leF : ∀ f n, n < 256 ^ f → numN (leF f n).reverse = n
  | 0, n, h => by simp at h; simp [leF, numN, h]
  | f + 1, n, h => by
    unfold leF
    split
    · simp [numN, *]
    · rw [List.reverse_cons, numN_snoc, numN_leF f (n / 256) (by rw [Nat.pow_succ] at h; omega)]
      omega
theorem numN_be (n : Nat) (h : n < 9223372036854775808) : numN (be n) = n := numN_leF 8 n (Nat.lt_of_lt_of_le h (by decide))
theorem leF_len_le : ∀ f j n, n < 256 ^ j → (leF f n).length ≤ j
  | 0, j, n, h => by simp [leF]
  | f + 1, j, n, h => by
    unfold leF
    split
    · simp
    · match j, h with
      | 0, h => simp at h; omega
      | j + 1, h =>
        have := leF_len_le f j (n / 256) (by rw [Nat.pow_succ] at h; omega)
        simp; omega
theorem be_len_le (j n : Nat) (h : n < 256 ^ j) : (be n).length ≤ j := by simpa [be] using leF_len_le 8 j n h
theorem number_eq {k : Nat} (K : Int × Bool → Option X) (hk : 100 < k) (bs : List Int) (hb : Byt bs) :
    f28 k K (by8 bs) = if bs.length > 7 then K (0, false) else K ((numN bs : Nat), true) := by
  unfold f28 f28_A f28_T
  split
  · exact bifT (decide_eq_true (by rw [by8_length]; omega))
  · refine (bifF (decide_eq_false (by rw [by8_length]; omega))).trans ?_
    have key := iterV_spec (T := f28_L1 k K) (fun i => ((numN (bs.take i) : Nat), by8 bs, (bs.length : Int), (i : Int))) (fun i => K ((numN bs : Nat), true)) bs.length (fun i rec hi hr => by
      unfold f28_L1 f28_T1
      have h1 := hb bs[i] (List.getElem_mem hi)
      have h2 := numN_lt (bs.take i) (hb.take i)
      have h3 : 256 ^ (bs.take i).length ≤ 256 ^ 6 := Nat.pow_le_pow_right (by decide) (by simp; omega)
      have h4 : (256 : Nat) ^ 6 = 281474976710656 := by decide
      simp only [decLt, hi, decide_true, cond_true, dec0, grd_true, Int.toNat_natCast, by8_get, List.getElem?_eq_getElem hi, Option.map_some, Option.bind_some, isI_int, toI_int]
      rw [← hr]
      refine congrArg rec (Prod.ext ?_ (Prod.ext rfl (Prod.ext rfl ?_)))
      · show bop .or .i64 (IntKind.wrap .i64 (((numN (bs.take i) : Nat) : Int) * 2 ^ 8)) (IntKind.wrap .i64 bs[i]) = _
        have e1 : IntKind.wrap .i64 (((numN (bs.take i) : Nat) : Int) * 2 ^ 8) = ((numN (bs.take i) * 2 ^ 8 : Nat) : Int) := by
          rw [wrap64 (by omega) (by omega)]; rfl
        have e2 : IntKind.wrap .i64 bs[i] = ((bs[i].toNat : Nat) : Int) := by
          rw [wrap64 (by omega) (by omega)]; omega
        rw [e1, e2, bop_or64 (by omega) (by omega), or_add (by omega), numN_take hi]
      · exact wrap64_s (by omega)) (fun rec => by
      unfold f28_L1 f28_T1
      simp only [decLt, Nat.lt_irrefl, decide_false, cond_false, List.take_length]) k 0 (Nat.zero_le _) (by omega)
    rw [← key]
    refine congrArg _ (Prod.ext rfl (Prod.ext rfl (Prod.ext ?_ rfl)))
    simp [by8_length]
theorem refNumber_eq {k : Nat} (K : Int × Bool → Option X) (hk : 100 < k) (bs : List Int) (hb : Byt bs) :
    f29 k K (by8 bs) = if bs.length > 7 then K (0, false) else K ((numN bs : Nat), true) := by
  unfold f29 f29_A f29_T
  split
  · exact bifT (decide_eq_true (by rw [by8_length]; omega))
  · refine (bifF (decide_eq_false (by rw [by8_length]; omega))).trans ?_
    have key := iterV_spec (T := f29_L1 k K) (fun i => (by8 bs, ((numN (bs.take i) : Nat) : Int), (i : Int))) (fun i => K ((numN bs : Nat), true)) bs.length (fun i rec hi hr => by
      unfold f29_L1 f29_T1
      have h1 := hb bs[i] (List.getElem_mem hi)
      have h2 := numN_lt (bs.take i) (hb.take i)
      have h3 : 256 ^ (bs.take i).length ≤ 256 ^ 6 := Nat.pow_le_pow_right (by decide) (by simp; omega)
      have h4 : (256 : Nat) ^ 6 = 281474976710656 := by decide
      simp only [decLt, hi, decide_true, cond_true, dec0, grd_true, Int.toNat_natCast, by8_get, by8_length, List.getElem?_eq_getElem hi, Option.map_some, Option.bind_some, isI_int, toI_int]
      rw [← hr]
      refine congrArg rec (Prod.ext rfl (Prod.ext ?_ ?_))
      · show IntKind.wrap .i64 (IntKind.wrap .i64 (((numN (bs.take i) : Nat) : Int) * 256) + IntKind.wrap .i64 bs[i]) = _
        rw [wrap64 (n := bs[i]) (by omega) (by omega), wrap64 (n := ((numN (bs.take i) : Nat) : Int) * 256) (by omega) (by omega), wrap64 (by omega) (by omega)]
        show _ = ((numN (bs.take (i + 1)) : Nat) : Int)
        rw [numN_take hi]
        omega
      · exact wrap64_s (by omega)) (fun rec => by
      unfold f29_L1 f29_T1
      simp only [by8_length, decLt, Nat.lt_irrefl, decide_false, cond_false, List.take_length]) k 0 (Nat.zero_le _) (by omega)
    rw [← key]
    rfl
end
end Go.Proofs.YtidniahglagllaaD
