/- Plain texts joined (by cut.py). -/
import Derived.Test.YtkkknhfbcflkfaaD
import Derived.Test.YtkkknhfbcflkfaaPM
namespace Go.Proofs.YtkkknhfbcflkfaaD
open Go Go.Proofs.YtkkknhfbcflkfaaS Go.Proofs
set_option linter.unusedVariables false
set_option linter.unusedSimpArgs false
section
variable {X : Type}
theorem clone_eq {k : Nat} (K : List CV → Option X) (x : List CV) (h : x.length < 70368744177664) : f41 k K x = K x := by
  unfold f41
  rw [grd_dec (by omega)]
end
section
variable {X : Type}
theorem same_eq {k : Nat} (K : Bool → Option X) (a b : List Int) (hk : a.length < k) (hl : a.length < 4611686018427387904) : f15 k K (by8 a) (by8 b) = K (decide (a = b)) := by
  unfold f15 f15_A f15_T
  by_cases h : a.length = b.length
  · have key := iterV_spec (T := f15_L1 k K) (fun i => (by8 a, by8 b, (i : Int))) (fun i => K (decide (a.drop i = b.drop i))) a.length (fun i rec hi hr => by
      have hb : i < b.length := by omega
      unfold f15_L1 f15_T1
      simp only [by8_length, by8_get, Int.toNat_natCast, List.getElem?_eq_getElem hi, List.getElem?_eq_getElem hb, Option.map_some, Option.bind_some, isI_int, toI_int, grd_true, dec0, decLt, hi, decide_true, cond_true, wrap64_succ (show i < 4611686018427387904 by omega), hr]
      conv => rhs; rw [List.drop_eq_getElem_cons hi, List.drop_eq_getElem_cons hb]
      by_cases e : a[i] = b[i]
      · rw [show (a[i] != b[i]) = false by simp [e]]
        simp only [cond_false, List.cons.injEq, e, true_and]
      · rw [show (a[i] != b[i]) = true by simp [e]]
        simp only [cond_true, List.cons.injEq, e, false_and, decide_false]) (fun rec => by
      unfold f15_L1 f15_T1
      simp only [by8_length, bif_dec]
      rw [if_neg (by omega)]
      simp [h]) k 0 (Nat.zero_le _) (by omega)
    simp only [by8_length, h] at key ⊢
    simpa using key
  · have : a ≠ b := fun e => h (by rw [e])
    have h' : ((a.length : Int) != (b.length : Int)) = true := by simp; omega
    simp only [by8_length, h', cond_true, this, decide_false]
end
section
variable {X : Type}
theorem t8 (bs : List Int) : List.take (0 + bs.length) (by8 bs) = by8 bs := by rw [Nat.zero_add]; exact take_all _ _ (by rw [by8_length]; exact Nat.le_refl _)
theorem t8' (bs : List Int) : List.take bs.length (by8 bs) = by8 bs := take_all _ _ (by rw [by8_length]; exact Nat.le_refl _)
theorem copy_eq {k : Nat} (K : Nat × List CV → Option X) (xs : List Int) (hk : xs.length < k) (hl : xs.length ≤ 70000000000000) : f22 k K (by8 xs) = K (xs.length, by8 xs) := by
  unfold f22 f22_A f22_T
  refine iterV_spec (T := f22_L1 k K) (fun i => (by8 xs, i, (i : Int), by8 (xs.take i))) (fun _ => K (xs.length, by8 xs)) xs.length (fun i rec hi hr => ?_) (fun rec => ?_) k 0 (Nat.zero_le _) (by omega)
  · unfold f22_L1 f22_T1
    simp only [by8_length, decLt, hi, decide_true, cond_true, dec0, grd_true, Int.toNat_natCast, by8_get, List.getElem?_eq_getElem hi, Option.map_some, Option.bind_some, isI_int, toI_int]
    have e1 : List.take 1 (List.drop 0 [CV.int IntKind.u8 xs[i]]) = by8 [xs[i]] := rfl
    have e2 : List.take i (by8 (List.take i xs)) = by8 (List.take i xs) := take_all _ _ (by simp [by8_length]; omega)
    refine (grdT (decide_eq_true (by simp; omega))).trans ?_
    rw [← hr]
    refine congrArg rec (Prod.ext rfl (Prod.ext rfl (Prod.ext (wrap64_s (by omega)) ?_)))
    show List.take i (by8 (List.take i xs)) ++ List.take 1 (List.drop 0 [CV.int IntKind.u8 xs[i]]) = by8 (List.take (i + 1) xs)
    rw [e1, e2, ← by8_append, List.take_append_getElem hi]
  · unfold f22_L1 f22_T1
    simp only [by8_length, decLt, Nat.lt_irrefl, decide_false, cond_false, List.take_length, t8]
end
section
variable {X : Type}
/-- Parts, as a row of rows. -/
def parts (ps : List (List Int)) : List CV := ps.map fun p => .slc none (by8 p)
theorem join_part {k : Nat} (K : Nat × List CV → Option X) (rec : (List CV) × Nat × Int × (List CV) → Option X) (rows : List CV) (i : Nat) (p P : List Int) (hpi : rows[i]? = some (.slc none (by8 p))) (hle : P.length + p.length < 70368744177664) (hk : p.length < k) :
    iterV (f37_L2 k K rec) k (rows, P.length, (i : Int), 0, by8 P) = rec (rows, (P ++ p).length, IntKind.wrap .i64 ((i : Int) + 1), by8 (P ++ p)) := by
  have key := iterV_spec (T := f37_L2 k K rec) (fun j => (rows, P.length + j, (i : Int), (j : Int), by8 (P ++ p.take j))) (fun j => rec (rows, (P ++ p).length, IntKind.wrap .i64 ((i : Int) + 1), by8 (P ++ p))) p.length (fun j rec2 hj hr2 => by
    unfold f37_L2 f37_T2
    simp only [dec0, grd_true, Int.toNat_natCast, hpi, Option.bind_some, isL_slc, toL_slc, by8_length, decLt, hj, decide_true, cond_true, by8_get, List.getElem?_eq_getElem hj, Option.map_some, isI_int, toI_int]
    have e1 : List.take 1 (List.drop 0 [CV.int IntKind.u8 p[j]]) = by8 [p[j]] := rfl
    have e2 : List.take (P.length + j) (by8 (P ++ List.take j p)) = by8 (P ++ List.take j p) := take_all _ _ (by simp [by8_length]; omega)
    refine (grdT (decide_eq_true (by simp; omega))).trans ?_
    rw [← hr2]
    congr 1
    rw [e1, e2, ← by8_append, List.append_assoc, List.take_append_getElem hj]
    refine Prod.ext rfl (Prod.ext ?_ (Prod.ext rfl (Prod.ext ?_ rfl)))
    · simp [by8_length]; omega
    · exact wrap64_s (by omega)) (fun rec2 => by
    unfold f37_L2 f37_T2
    simp only [dec0, grd_true, Int.toNat_natCast, hpi, Option.bind_some, isL_slc, toL_slc, by8_length, decLt, Nat.lt_irrefl, decide_false, cond_false, List.take_length, List.length_append]) k 0 (Nat.zero_le _) (by omega)
  simpa using key
theorem join_eq {k : Nat} (K : Nat × List CV → Option X) (ps : List (List Int)) (hk : ps.length + ps.flatten.length < k) (hl : ps.flatten.length < 70368744177664) (hp : ps.length < 70368744177664) :
    f37 k K (parts ps) = K (ps.flatten.length, by8 ps.flatten) := by
  unfold f37 f37_A f37_T
  have hpl : (parts ps).length = ps.length := by simp [parts]
  refine iterV_spec (T := f37_L1 k K) (fun i => (parts ps, (ps.take i).flatten.length, (i : Int), by8 (ps.take i).flatten)) (fun i => K (ps.flatten.length, by8 ps.flatten)) ps.length (fun i rec hi hr => ?_) (fun rec => ?_) k 0 (Nat.zero_le _) (by omega)
  · unfold f37_L1 f37_T1
    have hpi : (parts ps)[i]? = some (.slc none (by8 ps[i])) := by simp [parts, List.getElem?_eq_getElem hi]
    simp only [hpl, decLt, hi, decide_true, cond_true]
    have hfl : (ps.take (i + 1)).flatten = (ps.take i).flatten ++ ps[i] := by
      rw [← List.take_append_getElem hi, List.flatten_append]; simp
    have hle : (ps.take i).flatten.length + ps[i].length ≤ ps.flatten.length := by
      have : (ps.take (i + 1)).flatten.length ≤ ps.flatten.length := by
        conv => rhs; rw [← List.take_append_drop (i + 1) ps, List.flatten_append, List.length_append]
        omega
      rw [hfl, List.length_append] at this
      exact this
    rw [← hr, join_part K rec (parts ps) i ps[i] (ps.take i).flatten hpi (by omega) (by omega), hfl, wrap64_s (by omega)]
  · unfold f37_L1 f37_T1
    simp only [hpl, decLt, Nat.lt_irrefl, decide_false, cond_false, List.take_length, Nat.zero_add]
    rw [take_all _ _ (by rw [by8_length]; exact Nat.le_refl _)]
end
section
variable {X : Type}
theorem bytesOf_list (a : List Int) : (bytesOf (by8 a)).toList = a.map fun n => UInt8.ofNat n.toNat := by
  rw [ByteArray.toList_eq]
  simp [bytesOf, by8, CV.toI]
theorem bytesOf_inj : ∀ {a b : List Int}, Byt a → Byt b → (a.map fun n => UInt8.ofNat n.toNat) = (b.map fun n => UInt8.ofNat n.toNat) → a = b
  | [], [], _, _, _ => rfl
  | [], _ :: _, _, _, h => by simp at h
  | _ :: _, [], _, _, h => by simp at h
  | x :: a, y :: b, ha, hb, h => by
    simp only [List.map_cons, List.cons.injEq] at h
    have hx := ha x List.mem_cons_self
    have hy := hb y List.mem_cons_self
    have e : x = y := by
      have := congrArg UInt8.toNat h.1
      simp only [UInt8.toNat_ofNat'] at this
      omega
    rw [e, bytesOf_inj (fun c hc => ha c (List.mem_cons_of_mem _ hc)) (fun c hc => hb c (List.mem_cons_of_mem _ hc)) h.2]
theorem all8 (a : List Int) : List.all (by8 a) (CV.isI .u8) = true := by
  rw [List.all_eq_true]
  intro c hc
  simp only [by8, List.mem_map] at hc
  obtain ⟨n, _, rfl⟩ := hc
  exact isI_int _ _
theorem bytesEqual_eq {k : Nat} (K : Bool → Option X) (a b : List Int) (ha : Byt a) (hb : Byt b) : f33 k K (by8 a) (by8 b) = K (decide (a = b)) := by
  unfold f33 f33_A f33_T
  rw [all8, all8]
  show K ((bytesOf (by8 a)).toList == (bytesOf (by8 b)).toList) = _
  rw [bytesOf_list, bytesOf_list]
  congr 1
  by_cases h : a = b
  · simp [h]
  · rw [decide_eq_false h, beq_eq_false_iff_ne]
    exact fun e => h (bytesOf_inj ha hb e)
end
section
variable {X : Type}
theorem iterV_one {V : Type} (T : (V → Option X) → V → Option X) (k : Nat) (v : V) : iterV T (k + 1) v = T (iterV T k) v := rfl
theorem bAt {o : Option CV} {c : CV} (h : o = some c) (F : CV → Option X) : Option.bind o F = F c := by rw [h]; rfl
/-- Nothing, of a size. -/
theorem grow_eq {k : Nat} (K : List CV → Option X) (n : Nat) (h : n ≤ 70000000000000) : f42 k K (n : Int) = K [] := by
  unfold f42 f42_A f42_T
  rw [wrap64 (n := (n : Int) - 0) (by omega) (by omega), Int.sub_zero, Int.toNat_natCast, List.length_replicate]
  refine (bifF (decide_eq_false (by omega))).trans ?_
  by_cases h0 : n = 0
  · subst h0; rfl
  · refine (bifT (decide_eq_true (by omega))).trans ?_
    refine (grdT (dec0 _)).trans ?_
    refine (grdT (decide_eq_true (by omega))).trans ?_
    refine (grdT (decide_eq_true (by omega))).trans ?_
    rfl
theorem parts_nth (ps : List (List Int)) (i : Nat) (h : i < ps.length) : (parts ps)[i]? = some (.slc none (by8 ps[i])) := by simp [parts, List.getElem?_eq_getElem h]
theorem flat_succ (ps : List (List Int)) (i : Nat) (h : i < ps.length) : (ps.take (i + 1)).flatten = (ps.take i).flatten ++ ps[i] := by
  rw [← List.take_append_getElem h, List.flatten_append]; simp
theorem flat_le (ps : List (List Int)) (i : Nat) : (ps.take i).flatten.length ≤ ps.flatten.length := by
  conv => rhs; rw [← List.take_append_drop i ps, List.flatten_append, List.length_append]
  omega
theorem concat2 {k : Nat} (K : Nat × List CV → Option X) (ps : List (List Int)) (hk : ps.length < k) (hl : ps.flatten.length ≤ 70000000000000) (hp : ps.length ≤ 70000000000000) :
    iterV (f35_L2 (fun X => @f42 X k) k K) k (0, parts ps, ((parts ps).length : Int), 0, []) = K (ps.flatten.length, by8 ps.flatten) := by
  have hpl : (parts ps).length = ps.length := by simp [parts]
  refine iterV_spec (T := f35_L2 (fun X => @f42 X k) k K) (fun i => ((ps.take i).flatten.length, parts ps, ((parts ps).length : Int), (i : Int), by8 (ps.take i).flatten)) (fun i => K (ps.flatten.length, by8 ps.flatten)) ps.length (fun i rec h hr => ?_) (fun rec => ?_) k 0 (Nat.zero_le _) (by omega)
  · unfold f35_L2 f35_T2
    dsimp only
    refine (bifT (decide_eq_true (by rw [hpl]; omega))).trans ?_
    refine (grdT (dec0 _)).trans ?_
    rw [Int.toNat_natCast]
    refine (bAt (parts_nth ps i h) _).trans ?_
    refine (grdT rfl).trans ?_
    rw [show CV.toL (CV.slc none (by8 ps[i])) = by8 ps[i] from rfl, t8', ← by8_append, by8_length, ← List.length_append, ← flat_succ ps i h]
    have := flat_le ps (i + 1)
    refine (grdT (decide_eq_true (by omega))).trans ?_
    rw [wrap64_s (by omega), hr]
  · unfold f35_L2 f35_T2
    dsimp only
    refine (bifF (decide_eq_false (by rw [hpl]; omega))).trans ?_
    rw [t8, List.take_length]
theorem concat_eq {k : Nat} (K : Nat × List CV → Option X) (ps : List (List Int)) (hk : ps.length < k) (hl : ps.flatten.length ≤ 70000000000000) (hp : ps.length ≤ 70000000000000) :
    f35 k K (parts ps) = K (ps.flatten.length, by8 ps.flatten) := by
  have hpl : (parts ps).length = ps.length := by simp [parts]
  refine iterV_spec (T := f35_L1 (fun X => @f42 X k) k K) (fun i => (parts ps, ((ps.take i).flatten.length : Int), parts ps, ((parts ps).length : Int), (i : Int))) (fun i => K (ps.flatten.length, by8 ps.flatten)) ps.length (fun i rec h hr => ?_) (fun rec => ?_) k 0 (Nat.zero_le _) (by omega)
  · unfold f35_L1 f35_T1
    dsimp only
    refine (bifT (decide_eq_true (by rw [hpl]; omega))).trans ?_
    refine (grdT (dec0 _)).trans ?_
    rw [Int.toNat_natCast]
    refine (bAt (parts_nth ps i h) _).trans ?_
    refine (grdT rfl).trans ?_
    have := flat_le ps (i + 1)
    have hf : ((ps.take i).flatten.length : Int) + (ps[i].length : Int) = ((ps.take (i + 1)).flatten.length : Int) := by rw [flat_succ ps i h, List.length_append]; push_cast; rfl
    rw [show CV.toL (CV.slc none (by8 ps[i])) = by8 ps[i] from rfl, by8_length, hf, wrap64 (n := ((ps.take (i + 1)).flatten.length : Int)) (by omega) (by omega)]
    refine (bifF (decide_eq_false (by omega))).trans ?_
    rw [wrap64_s (by omega), hr]
  · unfold f35_L1 f35_T1
    dsimp only
    refine (bifF (decide_eq_false (by rw [hpl]; omega))).trans ?_
    rw [List.take_length]
    refine (grow_eq _ _ hl).trans ?_
    exact concat2 K ps hk hl hp
end
section
variable {X : Type}
/-- The bytes of a number, the last first. -/
def leF : Nat → Nat → List Int
  | 0, _ => []
  | f + 1, n => if n = 0 then [] else ((n % 256 : Nat) : Int) :: leF f (n / 256)
theorem leF_len : ∀ f n, (leF f n).length ≤ f
  | 0, n => by simp [leF]
  | f + 1, n => by
    unfold leF
    split
    · simp
    · have := leF_len f (n / 256); simp; omega
theorem leF_byt : ∀ f n, Byt (leF f n)
  | 0, n => Byt.nil
  | f + 1, n => by
    unfold leF
    split
    · exact Byt.nil
    · exact Byt.cons (by omega) (leF_byt f _)
/-- The bytes of a number. -/
def be (n : Nat) : List Int := (leF 8 n).reverse
theorem be_len (n : Nat) : (be n).length ≤ 8 := by simpa [be] using leF_len 8 n
theorem be_byt (n : Nat) : Byt (be n) := (leF_byt 8 n).rev
end
section
variable {X : Type}
/-- The number of bytes. -/
def numN (bs : List Int) : Nat := bs.foldl (fun n b => n * 256 + b.toNat) 0
theorem numN_snoc (bs : List Int) (b : Int) : numN (bs ++ [b]) = numN bs * 256 + b.toNat := by simp [numN]
theorem numN_take {bs : List Int} {i : Nat} (h : i < bs.length) : numN (bs.take (i + 1)) = numN (bs.take i) * 256 + bs[i].toNat := by
  rw [← List.take_append_getElem h, numN_snoc]
theorem foldl_lt : ∀ (bs : List Int) (n m : Nat), Byt bs → n < 256 ^ m → bs.foldl (fun n b => n * 256 + b.toNat) n < 256 ^ (m + bs.length)
  | [], n, m, _, h => by simpa using h
  | b :: bs, n, m, hb, h => by
    have h1 := hb b List.mem_cons_self
    have := foldl_lt bs (n * 256 + b.toNat) (m + 1) (fun c hc => hb c (List.mem_cons_of_mem _ hc)) (by rw [Nat.pow_succ]; omega)
    simp only [List.foldl_cons, List.length_cons]
    rw [show m + (bs.length + 1) = m + 1 + bs.length by omega]
    exact this
theorem numN_lt (bs : List Int) (h : Byt bs) : numN bs < 256 ^ bs.length := by
  have := foldl_lt bs 0 0 h (by decide)
  simpa [numN] using this
theorem numN_leF : ∀ f n, n < 256 ^ f → numN (leF f n).reverse = n
  | 0, n, h => by simp at h; simp [leF, numN, h]
  | f + 1, n, h => by
    unfold leF
    split
    · simp [numN, *]
    · rw [List.reverse_cons, numN_snoc, numN_leF f (n / 256) (by rw [Nat.pow_succ] at h; omega)]
      omega
theorem numN_be (n : Nat) (h : n < 9223372036854775808) : numN (be n) = n := numN_leF 8 n (Nat.lt_of_lt_of_le h (by decide))
theorem leF_len_le : ∀ f j n, n < 256 ^ j → (leF f n).length ≤ j
  | 0, j, n, h => by simp [leF]
  | f + 1, j, n, h => by
    unfold leF
    split
    · simp
    · match j, h with
      | 0, h => simp at h; omega
      | j + 1, h =>
        have := leF_len_le f j (n / 256) (by rw [Nat.pow_succ] at h; omega)
        simp; omega
theorem be_len_le (j n : Nat) (h : n < 256 ^ j) : (be n).length ≤ j := by simpa [be] using leF_len_le 8 j n h
end
end Go.Proofs.YtkkknhfbcflkfaaD
