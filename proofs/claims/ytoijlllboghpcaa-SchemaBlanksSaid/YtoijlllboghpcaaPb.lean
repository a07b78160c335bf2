/- What stands for a resource that is not told: the law. -/
import Derived.Test.YtoijlllboghpcaaD
import Derived.Test.YtoijlllboghpcaaPM
namespace Go.Proofs.YtoijlllboghpcaaD
open Go Go.Proofs.YtoijlllboghpcaaS Go.Proofs
set_option linter.unusedVariables false
set_option linter.unusedSimpArgs false
section
variable {X : Type}
theorem iterV_one {V : Type} (T : (V → Option X) → V → Option X) (k : Nat) (v : V) : iterV T (k + 1) v = T (iterV T k) v := rfl
theorem bAt {o : Option CV} {c : CV} (h : o = some c) (F : CV → Option X) : Option.bind o F = F c := by rw [h]; rfl
theorem same_eq {k : Nat} (K : Bool → Option X) (a b : List Int) (hk : a.length < k) (hl : a.length < 4611686018427387904) : f22 k K (by8 a) (by8 b) = K (decide (a = b)) := by
  unfold f22 f22_A f22_T
  by_cases h : a.length = b.length
  · have key := iterV_spec (T := f22_L1 k K) (fun i => (by8 a, by8 b, (i : Int))) (fun i => K (decide (a.drop i = b.drop i))) a.length (fun i rec hi hr => by
      have hb : i < b.length := by omega
      unfold f22_L1 f22_T1
      simp only [by8_length, by8_get, Int.toNat_natCast, List.getElem?_eq_getElem hi, List.getElem?_eq_getElem hb, Option.map_some, Option.bind_some, isI_int, toI_int, grd_true, dec0, decLt, hi, decide_true, cond_true, wrap64_succ (show i < 4611686018427387904 by omega), hr]
      conv => rhs; rw [List.drop_eq_getElem_cons hi, List.drop_eq_getElem_cons hb]
      by_cases e : a[i] = b[i]
      · rw [show (a[i] != b[i]) = false by simp [e]]
        simp only [cond_false, List.cons.injEq, e, true_and]
      · rw [show (a[i] != b[i]) = true by simp [e]]
        simp only [cond_true, List.cons.injEq, e, false_and, decide_false]) (fun rec => by
      unfold f22_L1 f22_T1
      simp only [by8_length, bif_dec]
      rw [if_neg (by omega)]
      simp [h]) k 0 (Nat.zero_le _) (by omega)
    simp only [by8_length, h] at key ⊢
    simpa using key
  · have : a ≠ b := fun e => h (by rw [e])
    have h' : ((a.length : Int) != (b.length : Int)) = true := by simp; omega
    simp only [by8_length, h', cond_true, this, decide_false]
theorem t8 (bs : List Int) : List.take (0 + bs.length) (by8 bs) = by8 bs := by rw [Nat.zero_add]; exact take_all _ _ (by rw [by8_length]; exact Nat.le_refl _)
theorem copy_eq {k : Nat} (K : Nat × List CV → Option X) (xs : List Int) (hk : xs.length < k) (hl : xs.length ≤ 70000000000000) : f23 k K (by8 xs) = K (xs.length, by8 xs) := by
  unfold f23 f23_A f23_T
  refine iterV_spec (T := f23_L1 k K) (fun i => (by8 xs, i, (i : Int), by8 (xs.take i))) (fun _ => K (xs.length, by8 xs)) xs.length (fun i rec hi hr => ?_) (fun rec => ?_) k 0 (Nat.zero_le _) (by omega)
  · unfold f23_L1 f23_T1
    simp only [by8_length, decLt, hi, decide_true, cond_true, dec0, grd_true, Int.toNat_natCast, by8_get, List.getElem?_eq_getElem hi, Option.map_some, Option.bind_some, isI_int, toI_int]
    have e1 : List.take 1 (List.drop 0 [CV.int IntKind.u8 xs[i]]) = by8 [xs[i]] := rfl
    have e2 : List.take i (by8 (List.take i xs)) = by8 (List.take i xs) := take_all _ _ (by simp [by8_length]; omega)
    refine (grdT (decide_eq_true (by simp; omega))).trans ?_
    rw [← hr]
    refine congrArg rec (Prod.ext rfl (Prod.ext rfl (Prod.ext (wrap64_s (by omega)) ?_)))
    show List.take i (by8 (List.take i xs)) ++ List.take 1 (List.drop 0 [CV.int IntKind.u8 xs[i]]) = by8 (List.take (i + 1) xs)
    rw [e1, e2, ← by8_append, List.take_append_getElem hi]
  · unfold f23_L1 f23_T1
    simp only [by8_length, decLt, Nat.lt_irrefl, decide_false, cond_false, List.take_length, t8]
set_option maxRecDepth 100000 in
theorem alive_eq {k : Nat} (K : Bool → Option X) (hk : 100 < k) : f6 k K = K true := by
  obtain ⟨k, rfl⟩ : ∃ j, k = j + 50 := ⟨k - 50, by omega⟩
  clear hk
  kernel_rfl
abbrev Ru := Int × Int × Bool × Bool × Bool × Int × Int × Bool × Unit
def ruv (r : Ru) : CV := .agg [.int .i64 r.1, .int .i64 r.2.1, .bool r.2.2.1, .bool r.2.2.2.1, .bool r.2.2.2.2.1, .int .i64 r.2.2.2.2.2.1, .int .i64 r.2.2.2.2.2.2.1, .bool r.2.2.2.2.2.2.2.1]
/-- So many letters x. -/
def xN (n : Nat) : ByteArray := ⟨(List.replicate n (120 : UInt8)).toArray⟩
theorem xN_size (n : Nat) : (xN n).size = n := by simp [xN, ByteArray.size]
theorem xN_app (n : Nat) : xN n ++ (⟨#[120]⟩ : ByteArray) = xN (n + 1) := by
  apply ByteArray.ext
  rw [ByteArray.data_append]
  apply Array.ext'
  simp [xN, List.replicate_succ']
theorem xN_rep (n : Nat) : (⟨(Lib.repeatL (⟨#[120]⟩ : ByteArray).data.toList n).toArray⟩ : ByteArray) = xN n := by
  have := Lib.repeatL_replicate 120 1 n
  rw [Nat.mul_one] at this
  unfold xN
  rw [← this]
  rfl
theorem xN_get (n : Nat) : (xN (n + 1)).data[0]? = some 120 := by simp [xN, List.replicate_succ]
theorem xN_ext (n : Nat) : ByteArray.extract (xN (n + 1)) 1 (n + 1) = xN n := by
  apply ByteArray.ext
  rw [ByteArray.data_extract]
  apply Array.ext'
  simp [xN]
def szB (least : Int) : Nat := (if 200 < (if 0 > least then 0 else least) then 200 else (if 0 > least then 0 else least) : Int).toNat
theorem szB_eq (least : Int) : (if 200 < (if 0 > least then 0 else least) then 200 else (if 0 > least then 0 else least) : Int) = (szB least : Int) := by
  unfold szB; split <;> split at * <;> omega
theorem szB_le (least : Int) : szB least ≤ 200 := by
  unfold szB; split <;> split at * <;> omega
theorem blank1 {k : Nat} (K : Int × Int × ByteArray × Nat × List CV → Option X) (id kind : Int) (b1 b2 ex b3 : Bool) (least most : Int) (h : kind = 1 ∨ kind = 5) : f8 k K (ruv (id, kind, b1, b2, ex, least, most, b3, ())) = K (kind, least, ⟨#[]⟩, 0, []) := by
  rcases h with rfl | rfl <;> rfl
theorem blank2 {k : Nat} (K : Int × Int × ByteArray × Nat × List CV → Option X) (id kind : Int) (b1 b2 ex b3 : Bool) (least most : Int) (h : kind = 2 ∨ kind = 6) : f8 k K (ruv (id, kind, b1, b2, ex, least, most, b3, ())) = K (kind, 0, ⟨#[]⟩, 0, []) := by
  rcases h with rfl | rfl <;> rfl
theorem blank3 {k : Nat} (K : Int × Int × ByteArray × Nat × List CV → Option X) (id : Int) (b1 b2 ex b3 : Bool) (least most : Int) : f8 k K (ruv (id, 3, b1, b2, ex, least, most, b3, ())) = K (3, 0, xN (szB least), 0, []) := by
  refine Eq.trans (b := f21 k (fun u4 => K (3, 0, u4, 0, [])) ⟨#[120]⟩ (if 200 < (if 0 > least then 0 else least) then 200 else (if 0 > least then 0 else least))) rfl ?_
  rw [szB_eq]
  have := szB_le least
  unfold f21
  refine (grdT (decide_eq_true (by omega))).trans ?_
  refine (grdT (decide_eq_true ⟨by rw [Int.toNat_natCast]; show 1 * szB least ≤ _; omega, by omega⟩)).trans ?_
  rw [Int.toNat_natCast, xN_rep]
theorem blank4 {k : Nat} (K : Int × Int × ByteArray × Nat × List CV → Option X) (id : Int) (b1 b2 ex b3 : Bool) (least most : Int) : f8 k K (ruv (id, 4, b1, b2, ex, least, most, b3, ())) = K (4, 0, ⟨#[]⟩, szB least, by8 (List.replicate (szB least) 0)) := by
  refine Eq.trans (b := grd (decide (0 ≤ (if 200 < (if 0 > least then 0 else least) then 200 else (if 0 > least then 0 else least)))) (grd (decide ((if 200 < (if 0 > least then 0 else least) then 200 else (if 0 > least then 0 else least)) ≤ (if 200 < (if 0 > least then 0 else least) then 200 else (if 0 > least then 0 else least)))) (grd (decide (((if 200 < (if 0 > least then 0 else least) then 200 else (if 0 > least then 0 else least)) * 1) ≤ 140737488355328)) (K (4, 0, ⟨#[]⟩, Int.toNat (if 200 < (if 0 > least then 0 else least) then 200 else (if 0 > least then 0 else least)), List.take (0 + Int.toNat (if 200 < (if 0 > least then 0 else least) then 200 else (if 0 > least then 0 else least))) (List.replicate (Int.toNat (if 200 < (if 0 > least then 0 else least) then 200 else (if 0 > least then 0 else least))) (CV.int .u8 0))))))) rfl ?_
  rw [szB_eq]
  have := szB_le least
  refine (grdT (decide_eq_true (by omega))).trans ?_
  refine (grdT (decide_eq_true (by omega))).trans ?_
  refine (grdT (decide_eq_true (by omega))).trans ?_
  rw [Int.toNat_natCast, Nat.zero_add, take_all _ _ (by simp)]
  simp [by8]
theorem blank0 {k : Nat} (K : Int × Int × ByteArray × Nat × List CV → Option X) (id kind : Int) (b1 b2 ex b3 : Bool) (least most : Int) (h1 : kind ≠ 1) (h2 : kind ≠ 2) (h3 : kind ≠ 3) (h4 : kind ≠ 4) (h5 : kind ≠ 5) (h6 : kind ≠ 6) : f8 k K (ruv (id, kind, b1, b2, ex, least, most, b3, ())) = K (0, 0, ⟨#[]⟩, 0, []) := by
  unfold f8 f8_A f8_T f8_J3 f8_J2
  have e : CV.toI (CV.cellD 1 (ruv (id, kind, b1, b2, ex, least, most, b3, ()))) = kind := rfl
  rw [e]
  have f1 : (kind == 1) = false := beq_eq_false_iff_ne.2 h1
  have f2 : (kind == 2) = false := beq_eq_false_iff_ne.2 h2
  have f3 : (kind == 3) = false := beq_eq_false_iff_ne.2 h3
  have f4 : (kind == 4) = false := beq_eq_false_iff_ne.2 h4
  have f5 : (kind == 5) = false := beq_eq_false_iff_ne.2 h5
  have f6 : (kind == 6) = false := beq_eq_false_iff_ne.2 h6
  rw [f1, f2, f3, f4, f5, f6]
  rfl
-- the document's
abbrev St9 := Int × Int × Int × Bool × Bool × Bool × Int × Int × Bool
theorem text2 {k : Nat} (K : Int × Int × ByteArray × Nat × List CV → Option X) (n : Nat) (hn : n ≤ 200) (hk : 300 < k) : iterV (f10_L2 (fun X => @f23 X k) k K) k ((n : Int), ⟨#[]⟩, 0) = K (3, 0, xN n, 0, []) := by
  refine iterV_spec (T := f10_L2 (fun X => @f23 X k) k K) (fun i => ((n : Int), xN i, (i : Int))) (fun _ => K (3, 0, xN n, 0, [])) n (fun i rec hi hr => ?_) (fun rec => ?_) k 0 (Nat.zero_le _) (by omega)
  · unfold f10_L2 f10_T2
    refine (bifT (decide_eq_true (by show (i : Int) < n; omega))).trans ?_
    dsimp only
    refine (grdT (decide_eq_true (by rw [xN_size]; show i + 1 ≤ _; omega))).trans ?_
    rw [xN_app, wrap64_s (by omega)]
    exact hr
  · unfold f10_L2 f10_T2
    exact bifF (decide_eq_false (by show ¬ (n : Int) < n; omega))
theorem text3 {k : Nat} (K : Int × Int × ByteArray × Nat × List CV → Option X) (n : Nat) (hn : n ≤ 200) (hk : 300 < k) : iterV (f10_L3 (fun X => @f23 X k) k K) k ((n : Int), ⟨#[]⟩, 0) = K (3, 0, xN n, 0, []) := by
  refine iterV_spec (T := f10_L3 (fun X => @f23 X k) k K) (fun i => ((n : Int), xN i, (i : Int))) (fun _ => K (3, 0, xN n, 0, [])) n (fun i rec hi hr => ?_) (fun rec => ?_) k 0 (Nat.zero_le _) (by omega)
  · unfold f10_L3 f10_T3
    refine (bifT (decide_eq_true (by show (i : Int) < n; omega))).trans ?_
    dsimp only
    refine (grdT (decide_eq_true (by rw [xN_size]; show i + 1 ≤ _; omega))).trans ?_
    rw [xN_app, wrap64_s (by omega)]
    exact hr
  · unfold f10_L3 f10_T3
    exact bifF (decide_eq_false (by show ¬ (n : Int) < n; omega))
/-- What stands for a resource, by kind. -/
def blk (kind least : Int) : Int × Int × ByteArray × List Int :=
  if kind = 1 ∨ kind = 5 then (kind, least, ⟨#[]⟩, []) else if kind = 3 then (3, 0, xN (szB least), []) else if kind = 4 then (4, 0, ⟨#[]⟩, List.replicate (szB least) 0) else if kind = 2 ∨ kind = 6 then (kind, 0, ⟨#[]⟩, []) else (0, 0, ⟨#[]⟩, [])
def bOut (b : Int × Int × ByteArray × List Int) : Int × Int × ByteArray × Nat × List CV := (b.1, b.2.1, b.2.2.1, b.2.2.2.length, by8 b.2.2.2)
theorem kinds (kind : Int) : kind = 1 ∨ kind = 2 ∨ kind = 3 ∨ kind = 4 ∨ kind = 5 ∨ kind = 6 ∨ (kind ≠ 1 ∧ kind ≠ 2 ∧ kind ≠ 3 ∧ kind ≠ 4 ∧ kind ≠ 5 ∧ kind ≠ 6) := by omega
theorem blank_eq {k : Nat} (K : Int × Int × ByteArray × Nat × List CV → Option X) (id kind : Int) (b1 b2 ex b3 : Bool) (least most : Int) : f8 k K (ruv (id, kind, b1, b2, ex, least, most, b3, ())) = K (bOut (blk kind least)) := by
  rcases kinds kind with rfl | rfl | rfl | rfl | rfl | rfl | ⟨h1, h2, h3, h4, h5, h6⟩
  · exact blank1 K id 1 b1 b2 ex b3 least most (.inl rfl)
  · exact blank2 K id 2 b1 b2 ex b3 least most (.inl rfl)
  · exact blank3 K id b1 b2 ex b3 least most
  · refine (blank4 K id b1 b2 ex b3 least most).trans ?_
    show _ = K (4, 0, ⟨#[]⟩, (List.replicate (szB least) (0 : Int)).length, by8 (List.replicate (szB least) 0))
    rw [List.length_replicate]
  · exact blank1 K id 5 b1 b2 ex b3 least most (.inr rfl)
  · exact blank2 K id 6 b1 b2 ex b3 least most (.inr rfl)
  · refine (blank0 K id kind b1 b2 ex b3 least most h1 h2 h3 h4 h5 h6).trans ?_
    unfold blk
    rw [if_neg (by omega), if_neg h3, if_neg h4, if_neg (by omega)]
    rfl
abbrev RC (k : Nat) : f23_R := fun X => @f23 X k
theorem copy_nil {k : Nat} (n : Nat) (K : Nat × List CV → Option X) (hn : n ≤ 200) (hk : 300 < k) : f23 k K (List.take (Int.toNat (n : Int)) (List.drop 0 (List.replicate (Int.toNat (n : Int)) (CV.int .u8 0)))) = K (n, by8 (List.replicate n 0)) := by
  rw [Int.toNat_natCast, List.drop_zero, take_all _ _ (by simp), show List.replicate n (CV.int .u8 0) = by8 (List.replicate n 0) by simp [by8]]
  refine (copy_eq K (List.replicate n 0) (by simp; omega) (by simp; omega)).trans ?_
  rw [List.length_replicate]
theorem tail2 {k : Nat} (K : Int × Int × ByteArray × Nat × List CV → Option X) (n : Nat) (id kind : Int) (b1 b2 ex b3 : Bool) (least most : Int) (hn : n = szB least) (hk : 300 < k) :
    (bif (kind == 1) then f10_J2 (RC k) k K (iterV (f10_L2 (RC k) k K) k) ((n : Int), id, kind, b1, b2, ex, least, most, b3) (kind == 1) else f10_J2 (RC k) k K (iterV (f10_L2 (RC k) k K) k) ((n : Int), id, kind, b1, b2, ex, least, most, b3) (kind == 5)) = K (bOut (blk kind least)) := by
  have hl := szB_le least
  rw [← hn] at hl
  have ht := text2 K n hl hk
  generalize iterV (f10_L2 (RC k) k K) k = lp at ht ⊢
  rcases kinds kind with rfl | rfl | rfl | rfl | rfl | rfl | ⟨h1, h2, h3, h4, h5, h6⟩
  · rfl
  · rfl
  · refine Eq.trans (b := lp ((n : Int), ⟨#[]⟩, 0)) rfl (ht.trans ?_)
    rw [hn]; rfl
  · refine Eq.trans (b := grd (decide (0 ≤ (n : Int))) (grd (decide ((n : Int) ≤ n)) (grd (decide ((n : Int) * 1 ≤ 140737488355328)) (f23 k (fun u5 => K (4, 0, ⟨#[]⟩, u5.1, List.take (0 + u5.1) u5.2)) (List.take (Int.toNat (n : Int)) (List.drop 0 (List.replicate (Int.toNat (n : Int)) (CV.int .u8 0)))))))) rfl ?_
    refine (grdT (decide_eq_true (by omega))).trans ?_
    refine (grdT (decide_eq_true (by omega))).trans ?_
    refine (grdT (decide_eq_true (by omega))).trans ?_
    refine (copy_nil n _ hl hk).trans ?_
    have := t8 (List.replicate n 0)
    rw [List.length_replicate] at this
    dsimp only
    rw [this, hn]
    show _ = K (4, 0, ⟨#[]⟩, (List.replicate (szB least) (0 : Int)).length, by8 (List.replicate (szB least) 0))
    rw [List.length_replicate]
  · rfl
  · rfl
  · unfold f10_J2 f10_J1 blk
    have f1 : (kind == 1) = false := beq_eq_false_iff_ne.2 h1
    have f2 : (kind == 2) = false := beq_eq_false_iff_ne.2 h2
    have f3 : (kind == 3) = false := beq_eq_false_iff_ne.2 h3
    have f4 : (kind == 4) = false := beq_eq_false_iff_ne.2 h4
    have f5 : (kind == 5) = false := beq_eq_false_iff_ne.2 h5
    have f6 : (kind == 6) = false := beq_eq_false_iff_ne.2 h6
    dsimp only
    rw [f1, f2, f3, f4, f5, f6, if_neg (by omega), if_neg h3, if_neg h4, if_neg (by omega)]
    rfl
theorem tail4 {k : Nat} (K : Int × Int × ByteArray × Nat × List CV → Option X) (n : Nat) (id kind : Int) (b1 b2 ex b3 : Bool) (least most : Int) (hn : n = szB least) (hk : 300 < k) :
    (bif (kind == 1) then f10_J4 (RC k) k K (iterV (f10_L3 (RC k) k K) k) ((n : Int), id, kind, b1, b2, ex, least, most, b3) (kind == 1) else f10_J4 (RC k) k K (iterV (f10_L3 (RC k) k K) k) ((n : Int), id, kind, b1, b2, ex, least, most, b3) (kind == 5)) = K (bOut (blk kind least)) := by
  have hl := szB_le least
  rw [← hn] at hl
  have ht := text3 K n hl hk
  generalize iterV (f10_L3 (RC k) k K) k = lp at ht ⊢
  rcases kinds kind with rfl | rfl | rfl | rfl | rfl | rfl | ⟨h1, h2, h3, h4, h5, h6⟩
  · rfl
  · rfl
  · refine Eq.trans (b := lp ((n : Int), ⟨#[]⟩, 0)) rfl (ht.trans ?_)
    rw [hn]; rfl
  · refine Eq.trans (b := grd (decide (0 ≤ (n : Int))) (grd (decide ((n : Int) ≤ n)) (grd (decide ((n : Int) * 1 ≤ 140737488355328)) (f23 k (fun u5 => K (4, 0, ⟨#[]⟩, u5.1, List.take (0 + u5.1) u5.2)) (List.take (Int.toNat (n : Int)) (List.drop 0 (List.replicate (Int.toNat (n : Int)) (CV.int .u8 0)))))))) rfl ?_
    refine (grdT (decide_eq_true (by omega))).trans ?_
    refine (grdT (decide_eq_true (by omega))).trans ?_
    refine (grdT (decide_eq_true (by omega))).trans ?_
    refine (copy_nil n _ hl hk).trans ?_
    have := t8 (List.replicate n 0)
    rw [List.length_replicate] at this
    dsimp only
    rw [this, hn]
    show _ = K (4, 0, ⟨#[]⟩, (List.replicate (szB least) (0 : Int)).length, by8 (List.replicate (szB least) 0))
    rw [List.length_replicate]
  · rfl
  · rfl
  · unfold f10_J4 f10_J3 blk
    have f1 : (kind == 1) = false := beq_eq_false_iff_ne.2 h1
    have f2 : (kind == 2) = false := beq_eq_false_iff_ne.2 h2
    have f3 : (kind == 3) = false := beq_eq_false_iff_ne.2 h3
    have f4 : (kind == 4) = false := beq_eq_false_iff_ne.2 h4
    have f5 : (kind == 5) = false := beq_eq_false_iff_ne.2 h5
    have f6 : (kind == 6) = false := beq_eq_false_iff_ne.2 h6
    dsimp only
    rw [f1, f2, f3, f4, f5, f6, if_neg (by omega), if_neg h3, if_neg h4, if_neg (by omega)]
    rfl
theorem refBlank_loop {k : Nat} (K : Int × Int × ByteArray × Nat × List CV → Option X) (id kind : Int) (b1 b2 ex b3 : Bool) (least most : Int) (hk : 300 < k) : ∀ (m n kk : Nat), n + m = szB least → m < kk →
    iterV (f10_L1 (RC k) k K) kk ((n : Int), id, kind, b1, b2, ex, least, most, b3) = K (bOut (blk kind least))
  | m, n, 0, h, hm => absurd hm (Nat.not_lt_zero _)
  | m, n, kk + 1, h, hm => by
    refine (iterV_one _ _ _).trans ?_
    have ih := fun m' n' h1 h2 => refBlank_loop (k := k) K id kind b1 b2 ex b3 least most hk m' n' kk h1 h2
    generalize iterV (f10_L1 (RC k) k K) kk = rec at ih ⊢
    have t2 := fun hn => tail2 (k := k) K n id kind b1 b2 ex b3 least most hn hk
    have t4 := fun hn => tail4 (k := k) K n id kind b1 b2 ex b3 least most hn hk
    unfold f10_L1
    generalize iterV (f10_L2 (RC k) k K) k = l2 at t2 ⊢
    generalize iterV (f10_L3 (RC k) k K) k = l3 at t4 ⊢
    unfold f10_T1
    dsimp only
    have hl := szB_le least
    have hs := szB_eq least
    by_cases c1 : (n : Int) < least
    · refine (bifT (decide_eq_true c1)).trans ?_
      by_cases c2 : n < 200
      · refine (bifT (decide_eq_true (by omega))).trans ?_
        rw [wrap64_s (by omega)]
        exact ih (m - 1) (n + 1) (by split at hs <;> split at hs <;> omega) (by split at hs <;> split at hs <;> omega)
      · refine (bifF (decide_eq_false (by omega))).trans ?_
        exact t2 (by omega)
    · refine (bifF (decide_eq_false c1)).trans ?_
      exact t4 (by split at hs <;> split at hs <;> omega)
theorem refBlank_eq {k : Nat} (K : Int × Int × ByteArray × Nat × List CV → Option X) (id kind : Int) (b1 b2 ex b3 : Bool) (least most : Int) (hk : 300 < k) : f10 k K (ruv (id, kind, b1, b2, ex, least, most, b3, ())) = K (bOut (blk kind least)) := by
  have hl := szB_le least
  have := refBlank_loop (k := k) K id kind b1 b2 ex b3 least most hk (szB least) 0 k (by omega) (by omega)
  exact Eq.trans (b := iterV (f10_L1 (RC k) k K) k (((0 : Nat) : Int), id, kind, b1, b2, ex, least, most, b3)) rfl this
end
end Go.Proofs.YtoijlllboghpcaaD
