/- The document's digest is the program's. -/
import Derived.Test.YtlaojkheenobaaaDoorW1
namespace Go.Proofs.YtlaojkheenobaaaDoorD
open Go Go.Proofs.YtlaojkheenobaaaDoorS Go.Proofs
set_option linter.unusedVariables false
set_option linter.unusedSimpArgs false
section
variable {X : Type}
section
variable (k : Nat) (K : Int → Option X) (x : Int)
theorem rturn2 : f24 k K x 2 = K (rr x 2) := by unfold rr; rw [or_comm32]; kernel_rfl
theorem rturn6 : f24 k K x 6 = K (rr x 6) := by unfold rr; rw [or_comm32]; kernel_rfl
theorem rturn7 : f24 k K x 7 = K (rr x 7) := by unfold rr; rw [or_comm32]; kernel_rfl
theorem rturn11 : f24 k K x 11 = K (rr x 11) := by unfold rr; rw [or_comm32]; kernel_rfl
theorem rturn13 : f24 k K x 13 = K (rr x 13) := by unfold rr; rw [or_comm32]; kernel_rfl
theorem rturn17 : f24 k K x 17 = K (rr x 17) := by unfold rr; rw [or_comm32]; kernel_rfl
theorem rturn18 : f24 k K x 18 = K (rr x 18) := by unfold rr; rw [or_comm32]; kernel_rfl
theorem rturn19 : f24 k K x 19 = K (rr x 19) := by unfold rr; rw [or_comm32]; kernel_rfl
theorem rturn22 : f24 k K x 22 = K (rr x 22) := by unfold rr; rw [or_comm32]; kernel_rfl
theorem rturn25 : f24 k K x 25 = K (rr x 25) := by unfold rr; rw [or_comm32]; kernel_rfl
end
theorem tabs : tab0 = tab1 := by kernel_rfl
theorem word_add {a b c d : Int} (ha : 0 ≤ a ∧ a < 256) (hb : 0 ≤ b ∧ b < 256) (hc : 0 ≤ c ∧ c < 256) (hd : 0 ≤ d ∧ d < 256) :
    IntKind.wrap .u32 (IntKind.wrap .u32 (IntKind.wrap .u32 (IntKind.wrap .u32 (IntKind.wrap .u32 a * 16777216) + IntKind.wrap .u32 (IntKind.wrap .u32 b * 65536)) + IntKind.wrap .u32 (IntKind.wrap .u32 c * 256)) + IntKind.wrap .u32 d) = ((a * 16777216 + b * 65536) + c * 256) + d := by
  simp only [wrapU32]
  omega
theorem getD_blk (M : List Int) {b j : Nat} (h : j < 64) : ((M.drop (64 * b)).take 64).getD j 0 = M.getD (64 * b + j) 0 := by
  rw [List.getD_eq_getElem?_getD, List.getD_eq_getElem?_getD, List.getElem?_take, if_pos h, List.getElem?_drop]
abbrev TR (k : Nat) : f24_R := fun X => @f24 X k
section
variable {k : Nat} {K : List CV → Option X} (rec4 : Nat × Int × List CV × List CV → Option X)
theorem ref_lo (loop6) (rec5) {M : List Int} (hM : Byt M) (b : Nat) (hb : 64 * b + 64 ≤ M.length) (hml : M.length < 1073741824) (h : List CV) (i : Nat) (hi : i < 16) :
    f11_T5 (TR k) k K rec4 loop6 rec5 (M.length, ((64 * b : Nat) : Int), (i : Int), by8 M, h, w32 (spread ((M.drop (64 * b)).take 64) i))
      = rec5 (M.length, ((64 * b : Nat) : Int), ((i + 1 : Nat) : Int), by8 M, h, w32 (spread ((M.drop (64 * b)).take 64) (i + 1))) := by
  unfold f11_T5
  have e : IntKind.wrap .i64 (4 * (i : Int)) = ((4 * i : Nat) : Int) := by rw [wrap64 (by omega) (by omega)]; omega
  have e0 : IntKind.wrap .i64 (((64 * b : Nat) : Int) + ((4 * i : Nat) : Int)) = ((64 * b + 4 * i : Nat) : Int) := by rw [wrap64 (by omega) (by omega)]; omega
  have e1 : IntKind.wrap .i64 (((64 * b + 4 * i : Nat) : Int) + 1) = ((64 * b + (4 * i + 1) : Nat) : Int) := by rw [wrap64 (by omega) (by omega)]; omega
  have e2 : IntKind.wrap .i64 (((64 * b + 4 * i : Nat) : Int) + 2) = ((64 * b + (4 * i + 2) : Nat) : Int) := by rw [wrap64 (by omega) (by omega)]; omega
  have e3 : IntKind.wrap .i64 (((64 * b + 4 * i : Nat) : Int) + 3) = ((64 * b + (4 * i + 3) : Nat) : Int) := by rw [wrap64 (by omega) (by omega)]; omega
  have hB : ∀ j, j < 64 → (by8 M)[0 + (64 * b + j) + 0]? = some (CV.int .u8 (((M.drop (64 * b)).take 64).getD j 0)) := fun j hj => by
    have : 0 + (64 * b + j) + 0 = 64 * b + j := by omega
    rw [this, getD_blk M hj]
    exact by8_at (by omega)
  have hbb : Byt ((M.drop (64 * b)).take 64) := (hM.drop _).take _
  generalize (M.drop (64 * b)).take 64 = blk at hB hbb ⊢
  refine (bifT (decide_eq_true (by omega : (i : Int) < 64))).trans ?_
  refine (bifT (decide_eq_true (by omega : (i : Int) < 16))).trans ?_
  simp only [e, e0, e1, e2, e3, toNat_cast]
  refine (grdT (decide_eq_true (by omega))).trans ?_
  refine (grdT (decide_eq_true (by omega))).trans ?_
  refine (bAt (hB (4 * i) (by omega)) _).trans ?_
  refine (grdT (isI_int _ _)).trans ?_
  refine (grdT (decide_eq_true (by omega))).trans ?_
  refine (grdT (decide_eq_true (by omega))).trans ?_
  refine (bAt (hB (4 * i + 1) (by omega)) _).trans ?_
  refine (grdT (isI_int _ _)).trans ?_
  refine (grdT (decide_eq_true (by omega))).trans ?_
  refine (grdT (decide_eq_true (by omega))).trans ?_
  refine (bAt (hB (4 * i + 2) (by omega)) _).trans ?_
  refine (grdT (isI_int _ _)).trans ?_
  refine (grdT (decide_eq_true (by omega))).trans ?_
  refine (grdT (decide_eq_true (by omega))).trans ?_
  refine (bAt (hB (4 * i + 3) (by omega)) _).trans ?_
  refine (grdT (isI_int _ _)).trans ?_
  refine (grdT (decide_eq_true (by omega))).trans ?_
  refine (grdT (decide_eq_true (by omega))).trans ?_
  refine (grdT (decide_eq_true (by rw [w32_length, spread_length]; omega))).trans ?_
  unfold f11_J1
  simp only [toI_int]
  rw [word_add (getD_byt hbb _) (getD_byt hbb _) (getD_byt hbb _) (getD_byt hbb _), w32_set, wrap64_s (by omega)]
  have es : 0 + (0 + i * 1) = i := by omega
  rw [es, show spread blk (i + 1) = (spread blk i).set i (byW blk i) from by rw [spread, if_pos hi]]
  rfl
theorem ref_hi (loop6) (rec5) {M blk : List Int} (n : Nat) (off : Int) (h : List CV) (i : Nat) (hi : 16 ≤ i) (hl : i < 64) :
    f11_T5 (TR k) k K rec4 loop6 rec5 (n, off, (i : Int), by8 M, h, w32 (spread blk i))
      = rec5 (n, off, ((i + 1 : Nat) : Int), by8 M, h, w32 (spread blk (i + 1))) := by
  unfold f11_T5
  have e0 : IntKind.wrap .i64 ((i : Int) - 15) = ((i - 15 : Nat) : Int) := by rw [wrap64 (by omega) (by omega)]; omega
  have e1 : IntKind.wrap .i64 ((i : Int) - 2) = ((i - 2 : Nat) : Int) := by rw [wrap64 (by omega) (by omega)]; omega
  have e2 : IntKind.wrap .i64 ((i : Int) - 16) = ((i - 16 : Nat) : Int) := by rw [wrap64 (by omega) (by omega)]; omega
  have e3 : IntKind.wrap .i64 ((i : Int) - 7) = ((i - 7 : Nat) : Int) := by rw [wrap64 (by omega) (by omega)]; omega
  have hw : ∀ j, j < 64 → (w32 (spread blk i))[0 + (0 + j * 1)]? = some (CV.int .u32 ((spread blk i).getD j 0)) := fun j hj => by
    have : 0 + (0 + j * 1) = j := by omega
    rw [this]
    exact w32_at (by rw [spread_length]; exact hj)
  refine (bifT (decide_eq_true (by omega : (i : Int) < 64))).trans ?_
  refine (bifF (decide_eq_false (by omega : ¬ (i : Int) < 16))).trans ?_
  simp only [e0, e1, e2, e3, toNat_cast]
  refine (grdT (decide_eq_true (by omega))).trans ?_
  refine (grdT (decide_eq_true (by omega))).trans ?_
  refine (bAt (hw (i - 15) (by omega)) _).trans ?_
  refine (grdT (isI_int _ _)).trans ?_
  refine (rturn7 _ _ _).trans ?_
  refine (grdT (decide_eq_true (by omega))).trans ?_
  refine (grdT (decide_eq_true (by omega))).trans ?_
  refine (bAt (hw (i - 15) (by omega)) _).trans ?_
  refine (grdT (isI_int _ _)).trans ?_
  refine (rturn18 _ _ _).trans ?_
  refine (grdT (decide_eq_true (by omega))).trans ?_
  refine (grdT (decide_eq_true (by omega))).trans ?_
  refine (bAt (hw (i - 15) (by omega)) _).trans ?_
  refine (grdT (isI_int _ _)).trans ?_
  refine (grdT (decide_eq_true (by omega))).trans ?_
  refine (grdT (decide_eq_true (by omega))).trans ?_
  refine (bAt (hw (i - 2) (by omega)) _).trans ?_
  refine (grdT (isI_int _ _)).trans ?_
  refine (rturn17 _ _ _).trans ?_
  refine (grdT (decide_eq_true (by omega))).trans ?_
  refine (grdT (decide_eq_true (by omega))).trans ?_
  refine (bAt (hw (i - 2) (by omega)) _).trans ?_
  refine (grdT (isI_int _ _)).trans ?_
  refine (rturn19 _ _ _).trans ?_
  refine (grdT (decide_eq_true (by omega))).trans ?_
  refine (grdT (decide_eq_true (by omega))).trans ?_
  refine (bAt (hw (i - 2) (by omega)) _).trans ?_
  refine (grdT (isI_int _ _)).trans ?_
  refine (grdT (decide_eq_true (by omega))).trans ?_
  refine (grdT (decide_eq_true (by omega))).trans ?_
  refine (bAt (hw (i - 16) (by omega)) _).trans ?_
  refine (grdT (isI_int _ _)).trans ?_
  refine (grdT (decide_eq_true (by omega))).trans ?_
  refine (grdT (decide_eq_true (by omega))).trans ?_
  refine (bAt (hw (i - 7) (by omega)) _).trans ?_
  refine (grdT (isI_int _ _)).trans ?_
  refine (grdT (decide_eq_true (by omega))).trans ?_
  refine (grdT (decide_eq_true (by omega))).trans ?_
  refine (grdT (decide_eq_true (by rw [w32_length, spread_length]; omega))).trans ?_
  unfold f11_J1
  simp only [toI_int]
  rw [w32_set, wrap64_s (by omega)]
  have es : 0 + (0 + i * 1) = i := by omega
  rw [es, show spread blk (i + 1) = (spread blk i).set i (spW (spread blk i) i) from by rw [spread, if_neg (by omega)]]
  rfl
theorem ref_round (loop7) (rec6) {W v : List Int} (hv : v.length = 8) (hW : W.length = 64) (n : Nat) (off : Int) (M h : List CV) (i : Nat) (hi : i < 64) :
    f11_T6 (TR k) k K rec4 loop7 rec6 (n, off, (i : Int), M, h, w32 W, w32 v) = rec6 (n, off, ((i + 1 : Nat) : Int), M, h, w32 W, w32 (rnd (kw.getD i 0) (W.getD i 0) v)) := by
  obtain ⟨a, b, c, d, e, f, g, h', rfl⟩ := len8 hv
  unfold f11_T6
  have es : 0 + (0 + i * 1) = i := by omega
  refine (bifT (decide_eq_true (by omega : (i : Int) < 64))).trans ?_
  refine (step (CV.int .u32 h') _).trans ?_
  refine (grdT (isI_int _ _)).trans ?_
  refine (step (CV.int .u32 e) _).trans ?_
  refine (grdT (isI_int _ _)).trans ?_
  refine (rturn6 _ _ _).trans ?_
  refine (step (CV.int .u32 e) _).trans ?_
  refine (grdT (isI_int _ _)).trans ?_
  refine (rturn11 _ _ _).trans ?_
  refine (step (CV.int .u32 e) _).trans ?_
  refine (grdT (isI_int _ _)).trans ?_
  refine (rturn25 _ _ _).trans ?_
  refine (step (CV.int .u32 e) _).trans ?_
  refine (grdT (isI_int _ _)).trans ?_
  refine (step (CV.int .u32 f) _).trans ?_
  refine (grdT (isI_int _ _)).trans ?_
  refine (step (CV.int .u32 e) _).trans ?_
  refine (grdT (isI_int _ _)).trans ?_
  refine (step (CV.int .u32 g) _).trans ?_
  refine (grdT (isI_int _ _)).trans ?_
  refine (grdT (decide_eq_true (by omega : (0 : Int) ≤ (i : Int)))).trans ?_
  refine (grdT (decide_eq_true (by omega : (i : Int) < 64))).trans ?_
  refine (bAt (a := CV.int .u32 (kw.getD i 0)) (by rw [tabs]; exact kw_at hi) _).trans ?_
  refine (grdT (isI_int _ _)).trans ?_
  refine (grdT (decide_eq_true (by omega : (0 : Int) ≤ (i : Int)))).trans ?_
  refine (grdT (decide_eq_true (by omega : (i : Int) < 64))).trans ?_
  refine (bAt (a := CV.int .u32 (W.getD i 0)) (by simp only [toNat_cast, es]; exact w32_at (by omega)) _).trans ?_
  refine (grdT (isI_int _ _)).trans ?_
  refine (step (CV.int .u32 a) _).trans ?_
  refine (grdT (isI_int _ _)).trans ?_
  refine (rturn2 _ _ _).trans ?_
  refine (step (CV.int .u32 a) _).trans ?_
  refine (grdT (isI_int _ _)).trans ?_
  refine (rturn13 _ _ _).trans ?_
  refine (step (CV.int .u32 a) _).trans ?_
  refine (grdT (isI_int _ _)).trans ?_
  refine (rturn22 _ _ _).trans ?_
  refine (step (CV.int .u32 a) _).trans ?_
  refine (grdT (isI_int _ _)).trans ?_
  refine (step (CV.int .u32 b) _).trans ?_
  refine (grdT (isI_int _ _)).trans ?_
  refine (step (CV.int .u32 a) _).trans ?_
  refine (grdT (isI_int _ _)).trans ?_
  refine (step (CV.int .u32 c) _).trans ?_
  refine (grdT (isI_int _ _)).trans ?_
  refine (step (CV.int .u32 b) _).trans ?_
  refine (grdT (isI_int _ _)).trans ?_
  refine (step (CV.int .u32 c) _).trans ?_
  refine (grdT (isI_int _ _)).trans ?_
  refine (step (CV.int .u32 a) _).trans ?_
  refine (grdT (isI_int _ _)).trans ?_
  refine (step (CV.int .u32 b) _).trans ?_
  refine (grdT (isI_int _ _)).trans ?_
  refine (step (CV.int .u32 c) _).trans ?_
  refine (grdT (isI_int _ _)).trans ?_
  refine (step (CV.int .u32 d) _).trans ?_
  refine (grdT (isI_int _ _)).trans ?_
  refine (step (CV.int .u32 e) _).trans ?_
  refine (grdT (isI_int _ _)).trans ?_
  refine (step (CV.int .u32 f) _).trans ?_
  refine (grdT (isI_int _ _)).trans ?_
  refine (step (CV.int .u32 g) _).trans ?_
  refine (grdT (isI_int _ _)).trans ?_
  refine (grdT rfl).trans ?_
  simp only [toI_int]
  rw [wrap64_s (by omega)]
  rfl
theorem ref_add (hk : 8 < k) {hs V : List Int} (hh : hs.length = 8) (hv : V.length = 8) (n : Nat) (off : Int) (M : List CV) :
    iterV (f11_L7 (TR k) k K rec4) k (n, off, 0, M, w32 hs, w32 V) = rec4 (n, IntKind.wrap .i64 (off + 64), M, w32 (addUp hs V 8)) := by
  refine iterV_spec (fun i => (n, off, (i : Int), M, w32 (addUp hs V i), w32 V)) (fun _ => rec4 (n, IntKind.wrap .i64 (off + 64), M, w32 (addUp hs V 8))) 8 (fun i rec hi hr => ?_) (fun rec => ?_) k 0 (by omega) (by omega)
  · refine Eq.trans ?_ hr
    unfold f11_L7 f11_T7
    have hl : (w32 (addUp hs V i)).length = 8 := by rw [w32_length, addUp_length, hh]
    have es : 0 + (0 + i * 1) = i := by omega
    refine (bifT (decide_eq_true (by omega : (i : Int) < 8))).trans ?_
    simp only [toNat_cast, es]
    refine (grdT (decide_eq_true (by omega))).trans ?_
    refine (grdT (decide_eq_true (by omega))).trans ?_
    refine (bAt (w32_at (by rw [addUp_length]; omega)) _).trans ?_
    refine (grdT (isI_int _ _)).trans ?_
    refine (grdT (decide_eq_true (by omega))).trans ?_
    refine (grdT (decide_eq_true (by omega))).trans ?_
    refine (bAt (w32_at (by omega)) _).trans ?_
    refine (grdT (isI_int _ _)).trans ?_
    refine (grdT (decide_eq_true (by omega))).trans ?_
    refine (grdT (decide_eq_true (by omega))).trans ?_
    refine (grdT (decide_eq_true (by omega))).trans ?_
    simp only [toI_int]
    rw [w32_set, wrap64_s (by omega)]
    rfl
  · unfold f11_L7 f11_T7
    exact bifF rfl
theorem ref_rounds (hk : 64 < k) {hs W : List Int} (hh : hs.length = 8) (hW : W.length = 64) (n : Nat) (off : Int) (M : List CV) :
    iterV (f11_L6 (TR k) k K rec4) k (n, off, 0, M, w32 hs, w32 W, w32 hs) = rec4 (n, IntKind.wrap .i64 (off + 64), M, w32 (addUp hs (rnds W hs 64) 8)) := by
  refine iterV_spec (fun i => (n, off, (i : Int), M, w32 hs, w32 W, w32 (rnds W hs i))) (fun _ => rec4 (n, IntKind.wrap .i64 (off + 64), M, w32 (addUp hs (rnds W hs 64) 8))) 64 (fun i rec hi hr => ?_) (fun rec => ?_) k 0 (by omega) (by omega)
  · refine Eq.trans ?_ hr
    exact ref_round rec4 _ rec (rnds_length hh i) hW n off M _ i hi
  · have hr := rnds_length (W := W) hh 64
    generalize rnds W hs 64 = V at hr ⊢
    unfold f11_L6
    have hf := ref_add (k := k) (K := K) rec4 (by omega) hh hr n off M
    generalize iterV (f11_L7 (TR k) k K rec4) k = L7 at hf ⊢
    unfold f11_T6
    exact (bifF rfl).trans hf
theorem ref_blk (hk : 64 < k) {M hs : List Int} (hM : Byt M) (hh : hs.length = 8) (b : Nat) (hb : 64 * b + 64 ≤ M.length) (hml : M.length < 1073741824) :
    iterV (f11_L5 (TR k) k K rec4) k (M.length, ((64 * b : Nat) : Int), 0, by8 M, w32 hs, w32 (List.replicate 64 0)) = rec4 (M.length, ((64 * (b + 1) : Nat) : Int), by8 M, w32 (comp hs ((M.drop (64 * b)).take 64))) := by
  refine iterV_spec (fun i => (M.length, ((64 * b : Nat) : Int), (i : Int), by8 M, w32 hs, w32 (spread ((M.drop (64 * b)).take 64) i))) (fun _ => rec4 (M.length, ((64 * (b + 1) : Nat) : Int), by8 M, w32 (comp hs ((M.drop (64 * b)).take 64)))) 64 (fun i rec hi hr => ?_) (fun rec => ?_) k 0 (by omega) (by omega)
  · refine Eq.trans ?_ hr
    rcases Nat.lt_or_ge i 16 with h | h
    · exact ref_lo rec4 _ rec hM b hb hml _ i h
    · exact ref_hi rec4 _ rec _ _ _ i h hi
  · unfold comp
    have hW := spread_length ((M.drop (64 * b)).take 64) 64
    generalize spread ((M.drop (64 * b)).take 64) 64 = W at hW ⊢
    have hf := ref_rounds (k := k) (K := K) rec4 hk hh hW M.length ((64 * b : Nat) : Int) (by8 M)
    have ew : IntKind.wrap .i64 (((64 * b : Nat) : Int) + 64) = ((64 * (b + 1) : Nat) : Int) := by rw [wrap64 (by omega) (by omega)]; omega
    rw [ew] at hf
    unfold f11_L5
    generalize iterV (f11_L6 (TR k) k K rec4) k = L6 at hf ⊢
    unfold f11_T5
    refine (bifF rfl).trans ?_
    have hhl : (w32 hs).length = 8 := by rw [w32_length, hh]
    have et : List.take 8 (List.drop 0 (w32 hs)) = w32 hs := by rw [List.drop_zero, take_all _ _ (by omega)]
    have e2 : ∀ z : List CV, z.length = 8 → List.take 0 z ++ w32 hs ++ List.drop 8 z = w32 hs := fun z hz => by
      rw [List.take_zero, List.nil_append, List.drop_of_length_le (by omega), List.append_nil]
    refine (grdT (decide_eq_true (by omega : 8 ≤ (w32 hs).length))).trans ?_
    simp only [et]
    refine (grdT (by rw [hhl]; rfl)).trans ?_
    refine (grdT rfl).trans ?_
    rw [e2 _ rfl]
    exact hf
end
theorem ref_out {k : Nat} {K : List CV → Option X} (hk : 32 < k) {ws : List Int} (hw : ws.length = 8) :
    iterV (f11_L8 (TR k) k K) k (0, w32 ws, by8 (List.replicate 32 0)) = K (by8 (outB ws 32)) := by
  refine iterV_spec (fun i => ((i : Int), w32 ws, by8 (outB ws i))) (fun _ => K (by8 (outB ws 32))) 32 (fun i rec hi hr => ?_) (fun rec => ?_) k 0 (by omega) (by omega)
  · refine Eq.trans ?_ hr
    unfold f11_L8 f11_T8
    have hq : Int.tdiv (i : Int) 4 = ((i / 4 : Nat) : Int) := by rw [tdiv_eq (by omega)]; omega
    have hm : Int.tmod (i : Int) 4 = ((i % 4 : Nat) : Int) := by rw [tmod_eq (by omega)]; omega
    have e1 : IntKind.wrap .i64 ((i / 4 : Nat) : Int) = ((i / 4 : Nat) : Int) := wrap64N (by omega)
    have e2 : IntKind.wrap .i64 (8 * ((i % 4 : Nat) : Int)) = ((8 * (i % 4) : Nat) : Int) := by rw [wrap64 (by omega) (by omega)]; omega
    have e3 : IntKind.wrap .i64 (24 - ((8 * (i % 4) : Nat) : Int)) = ((24 - 8 * (i % 4) : Nat) : Int) := by rw [wrap64 (by omega) (by omega)]; omega
    have e4 : 0 + (0 + (i / 4) * 1) = i / 4 := by omega
    have e5 : 0 + (0 + i * 1) = i := by omega
    have e6 : min (24 - 8 * (i % 4)) 32 = 24 - 8 * (i % 4) := by omega
    refine (bifT (decide_eq_true (by omega : (i : Int) < 32))).trans ?_
    simp only [hq, hm, e1, e2, e3, toNat_cast, e4, e5, e6]
    refine (grdT (decide_eq_true (by omega))).trans ?_
    refine (grdT (decide_eq_true (by omega))).trans ?_
    refine (bAt (w32_at (by omega)) _).trans ?_
    refine (grdT (isI_int _ _)).trans ?_
    refine (grdT (decide_eq_true (by omega))).trans ?_
    refine (grdT (decide_eq_true (by omega))).trans ?_
    refine (grdT (decide_eq_true (by omega))).trans ?_
    refine (grdT (decide_eq_true (by rw [by8_length, outB_length]; omega))).trans ?_
    simp only [toI_int]
    rw [by8_set, wrap64_s (by omega)]
    rfl
  · unfold f11_L8 f11_T8
    refine (bifF rfl).trans ?_
    have hl : (by8 (outB ws 32)).length = 32 := by rw [by8_length, outB_length]
    generalize by8 (outB ws 32) = W at hl ⊢
    have et : List.take 32 (List.drop 0 W) = W := by rw [List.drop_zero, take_all _ _ (by omega)]
    have e2 : List.take 0 (List.replicate 32 (CV.int .u8 0)) ++ W ++ List.drop 32 (List.replicate 32 (CV.int .u8 0)) = W := by simp
    simp only [et, e2]
    refine (grdT (decide_eq_true (by omega))).trans ?_
    refine (grdT (by rw [hl]; rfl)).trans ?_
    refine (grdT rfl).trans ?_
    exact grdT (decide_eq_true (by omega))
theorem ref_all {k : Nat} {K : List CV → Option X} (hk : 64 < k) {M : List Int} (hM : Byt M) (hml : M.length < 1073741824) (hk2 : M.length < k) (hb : M.length % 64 = 0) :
    iterV (f11_L4 (TR k) k K) k (M.length, 0, by8 M, w32 H0) = K (by8 (outB (words M) 32)) := by
  refine iterV_spec (fun b => (M.length, ((64 * b : Nat) : Int), by8 M, w32 (blocks M b))) (fun _ => K (by8 (outB (words M) 32))) (M.length / 64) (fun b rec hi hr => ?_) (fun rec => ?_) k 0 (by omega) (by omega)
  · refine Eq.trans ?_ hr
    have hf := ref_blk (k := k) (K := K) rec hk hM (blocks_length M b) b (by omega) hml
    unfold f11_L4
    generalize iterV (f11_L5 (TR k) k K rec) k = L5 at hf ⊢
    unfold f11_T4
    refine (bifT (decide_eq_true (by omega : ((64 * b : Nat) : Int) < (M.length : Int)))).trans ?_
    refine (grdT rfl).trans ?_
    exact hf
  · have hf := ref_out (k := k) (K := K) (by omega) (words_length M)
    unfold f11_L4
    generalize iterV (f11_L8 (TR k) k K) k = L8 at hf ⊢
    generalize iterV (f11_L5 (TR k) k K rec) k = L5
    unfold f11_T4
    refine (bifF (decide_eq_false (by omega : ¬ ((64 * (M.length / 64) : Nat) : Int) < (M.length : Int)))).trans ?_
    refine (grdT rfl).trans ?_
    exact hf
end
end Go.Proofs.YtlaojkheenobaaaDoorD
/- The document's digest, whole; few parts. -/
namespace Go.Proofs.YtlaojkheenobaaaDoorD
open Go Go.Proofs.YtlaojkheenobaaaDoorS Go.Proofs
set_option linter.unusedVariables false
set_option linter.unusedSimpArgs false
section
variable {X : Type}
/-- The last bytes, as the document lays them. -/
def lenT (L t : Nat) : List Int := (List.range t).map fun j => lenB L (7 - j)
theorem lenT_succ (L t : Nat) : lenT L (t + 1) = lenT L t ++ [lenB L (7 - t)] := by simp [lenT, List.range_succ]
theorem lenT_length (L t : Nat) : (lenT L t).length = t := by simp [lenT]
theorem lenT_all (L : Nat) : lenT L 8 = [lenB L 7, lenB L 6, lenB L 5, lenB L 4, lenB L 3, lenB L 2, lenB L 1, lenB L 0] := rfl
theorem pad_parts (m : List Int) : (m ++ [128]) ++ List.replicate (padN m.length - 9) 0 ++ lenT m.length 8 = m ++ pad m.length := by
  unfold pad
  rw [lenT_all]
  simp
theorem ref_tail {k : Nat} {K : List CV → Option X} (hk : 100 < k) {m : List Int} (hm : Byt m) (hml : m.length < 1000000) (hk2 : m.length + 80 < k) (A : List Int) (hA : A = (m ++ [128]) ++ List.replicate (padN m.length - 9) 0) :
    iterV (f11_L3 (TR k) k K) k (A.length, IntKind.wrap .u64 (IntKind.wrap .u64 (m.length : Int) * 8), 7, by8 A) = K (by8 (dig m)) := by
  have h9 := padN_ge m.length
  have h72 := padN_le m.length
  have hmod := padN_mod m.length
  have hAl : A.length = m.length + padN m.length - 8 := by rw [hA]; simp; omega
  have hpl := pad_parts m
  rw [← hA] at hpl
  have e0 : (A.length, IntKind.wrap .u64 (IntKind.wrap .u64 (m.length : Int) * 8), (7 : Int), by8 A) = (A.length + 0, IntKind.wrap .u64 (IntKind.wrap .u64 (m.length : Int) * 8), (7 : Int) - ((0 : Nat) : Int), by8 (A ++ lenT m.length 0)) := by simp [lenT]
  rw [e0]
  refine iterV_spec (fun t => (A.length + t, IntKind.wrap .u64 (IntKind.wrap .u64 (m.length : Int) * 8), (7 : Int) - (t : Int), by8 (A ++ lenT m.length t))) (fun _ => K (by8 (dig m))) 8 (fun t rec ht hr => ?_) (fun rec => ?_) k 0 (by omega) (by omega)
  · refine Eq.trans ?_ hr
    unfold f11_L3
    generalize iterV (f11_L4 (TR k) k K) k = L4
    unfold f11_T3
    have e1 : IntKind.wrap .i64 (8 * ((7 : Int) - (t : Int))) = ((8 * (7 - t) : Nat) : Int) := by rw [wrap64 (by omega) (by omega)]; omega
    have e2 : min (8 * (7 - t)) 64 = 8 * (7 - t) := by omega
    refine (bifT (decide_eq_true (by omega : (7 : Int) - (t : Int) ≥ 0))).trans ?_
    simp only [e1, toNat_cast, e2]
    refine (grdT (decide_eq_true (by omega))).trans ?_
    refine (grdT (decide_eq_true (by simp; omega))).trans ?_
    have e3 : IntKind.wrap .i64 ((7 : Int) - (t : Int) - 1) = (7 : Int) - ((t + 1 : Nat) : Int) := by rw [wrap64 (by omega) (by omega)]; omega
    have e4 : List.take (A.length + t) (by8 (A ++ lenT m.length t)) = by8 (A ++ lenT m.length t) := take_all _ _ (by rw [by8_length, List.length_append, lenT_length]; omega)
    have e5 : List.take 1 (List.drop 0 [CV.int IntKind.u8 (IntKind.wrap .u8 (Int.fdiv (IntKind.wrap .u64 (IntKind.wrap .u64 (m.length : Int) * 8)) (2 ^ (8 * (7 - t)))))]) = by8 [lenB m.length (7 - t)] := rfl
    simp only [e3, e4, e5]
    rw [← by8_append, lenT_succ, List.append_assoc]
    rfl
  · have hf := ref_all (k := k) (K := K) (by omega) (M := m ++ pad m.length) (hm.app (pad_byt _)) (by rw [List.length_append, pad_length]; omega) (by rw [List.length_append, pad_length]; omega) (by rw [List.length_append, pad_length]; omega)
    have hn : A.length + 8 = (m ++ pad m.length).length := by rw [List.length_append, pad_length]; omega
    unfold f11_L3
    rw [hn, hpl]
    generalize iterV (f11_L4 (TR k) k K) k = L4 at hf ⊢
    unfold f11_T3
    refine (bifF rfl).trans ?_
    refine (grdT rfl).trans ?_
    exact hf
theorem ref_zeros {k : Nat} {K : List CV → Option X} (hk : 100 < k) {m : List Int} (hm : Byt m) (hml : m.length < 1000000) (hk2 : m.length + 80 < k) :
    iterV (f11_L2 (TR k) k K) k (by8 m, m.length + 1, by8 (m ++ [128])) = K (by8 (dig m)) := by
  have h9 := padN_ge m.length
  have h72 := padN_le m.length
  have hmod := padN_mod m.length
  have e0 : (by8 m, m.length + 1, by8 (m ++ [128])) = (by8 m, m.length + 1 + 0, by8 ((m ++ [128]) ++ List.replicate 0 0)) := by simp
  rw [e0]
  refine iterV_spec (fun j => (by8 m, m.length + 1 + j, by8 ((m ++ [128]) ++ List.replicate j 0))) (fun _ => K (by8 (dig m))) (padN m.length - 9) (fun j rec hj hr => ?_) (fun rec => ?_) k 0 (by omega) (by omega)
  · refine Eq.trans ?_ hr
    unfold f11_L2
    generalize iterV (f11_L3 (TR k) k K) k = L3
    unfold f11_T2
    have e0 : Int.tmod (Nat.cast (m.length + 1 + j) : Int) 64 = (((m.length + 1 + j) % 64 : Nat) : Int) := by rw [tmod_eq (by omega)]; omega
    simp only [e0]
    refine (bifT (bne_t (by omega))).trans ?_
    refine (grdT (decide_eq_true (by simp; omega))).trans ?_
    have e4 : List.take (m.length + 1 + j) (by8 ((m ++ [128]) ++ List.replicate j 0)) = by8 ((m ++ [128]) ++ List.replicate j 0) := take_all _ _ (by rw [by8_length]; simp; omega)
    have e5 : List.take 1 (List.drop 0 [CV.int IntKind.u8 0]) = by8 [0] := rfl
    simp only [e4, e5]
    rw [← by8_append, List.append_assoc, List.replicate_succ']
    rfl
  · have hf := ref_tail (k := k) (K := K) hk hm hml hk2 _ rfl
    have hl : ((m ++ [128]) ++ List.replicate (padN m.length - 9) (0 : Int)).length = m.length + 1 + (padN m.length - 9) := by simp; omega
    rw [hl] at hf
    unfold f11_L2
    generalize iterV (f11_L3 (TR k) k K) k = L3 at hf ⊢
    unfold f11_T2
    have e0 : Int.tmod (Nat.cast (m.length + 1 + (padN m.length - 9)) : Int) 64 = 56 := by rw [tmod_eq (by omega)]; omega
    simp only [e0]
    refine (bifF rfl).trans ?_
    rw [by8_length]
    exact hf
theorem ref_eq {k : Nat} (K : List CV → Option X) (hk : 100 < k) {m : List Int} (hm : Byt m) (hml : m.length < 1000000) (hk2 : m.length + 80 < k) : f11 k K (by8 m) = K (by8 (dig m)) := by
  unfold f11 f11_A f11_T
  refine iterV_spec (fun i => (by8 m, i, (i : Int), by8 (m.take i))) (fun _ => K (by8 (dig m))) m.length (fun i rec hi hr => ?_) (fun rec => ?_) k 0 (by omega) (by omega)
  · refine Eq.trans ?_ hr
    unfold f11_L1
    generalize iterV (f11_L2 (TR k) k K) k = L2
    unfold f11_T1
    simp only [by8_length, toNat_cast]
    refine (bifT (decide_eq_true (by omega))).trans ?_
    refine (grdT (decide_eq_true (by omega))).trans ?_
    refine (bAt (by8_at hi) _).trans ?_
    refine (grdT (isI_int _ _)).trans ?_
    refine (grdT (decide_eq_true (by simp; omega))).trans ?_
    have e4 : List.take i (by8 (m.take i)) = by8 (m.take i) := take_all _ _ (by rw [by8_length, List.length_take]; omega)
    have e5 : List.take 1 (List.drop 0 [CV.int IntKind.u8 (CV.toI (CV.int IntKind.u8 (m.getD i 0)))]) = by8 [m.getD i 0] := rfl
    have e6 : m.take (i + 1) = m.take i ++ [m.getD i 0] := by
      rw [List.take_add_one, List.getD_eq_getElem?_getD, List.getElem?_eq_getElem hi]; rfl
    simp only [e4, e5]
    rw [← by8_append, ← e6, wrap64_s (by omega)]
    rfl
  · have hf := ref_zeros (k := k) (K := K) hk hm hml hk2
    unfold f11_L1
    rw [List.take_length]
    generalize iterV (f11_L2 (TR k) k K) k = L2 at hf ⊢
    unfold f11_T1
    simp only [by8_length]
    refine (bifF (decide_eq_false (by omega))).trans ?_
    refine (grdT (decide_eq_true (by simp; omega))).trans ?_
    have e4 : List.take m.length (by8 m) = by8 m := take_all _ _ (by rw [by8_length]; omega)
    have e5 : List.take 1 (List.drop 0 [CV.int IntKind.u8 128]) = by8 [128] := rfl
    simp only [e4, e5]
    rw [← by8_append]
    exact hf
/-- Few parts, of few bytes. -/
theorem few_eq {k : Nat} {ps : List (List Int)} (hk : 10 < k) : ∃ b, (b = true → ps.length ≤ 8 ∧ ps.flatten.length ≤ 2000) ∧ ∀ (X : Type) (K : Bool → Option X), f10 k K (rows8 ps) 8 2000 = K b := by
  by_cases h8 : ps.length > 8
  · refine ⟨false, fun h => (Bool.false_ne_true h).elim, fun X K => ?_⟩
    unfold f10 f10_A f10_T
    exact bifT (decide_eq_true (by rw [rows8_length]; omega))
  have hs : ∀ (X : Type) (K : Bool → Option X) (j : Nat) v, iterV (f10_L1 k K) (j + 1) v = f10_T1 k K (iterV (f10_L1 k K) j) v := fun _ _ _ _ => rfl
  have go : ∀ (n i : Nat), ps.length - i ≤ n → i ≤ ps.length → (ps.take i).flatten.length ≤ 2000 → ∃ b, (b = true → ps.flatten.length ≤ 2000) ∧ ∀ (X : Type) (K : Bool → Option X) (j : Nat), n < j → iterV (f10_L1 k K) j (rows8 ps, 2000, ((ps.take i).flatten.length : Int), (i : Int)) = K b := fun n => by
    induction n with
    | zero =>
      intro i h1 h2 h3
      have hi : i = ps.length := by omega
      subst hi
      refine ⟨true, fun _ => by rwa [List.take_length] at h3, fun X K j hj => ?_⟩
      obtain ⟨j, rfl⟩ : ∃ q, j = q + 1 := ⟨j - 1, by omega⟩
      refine (hs _ _ _ _).trans ?_
      unfold f10_T1
      exact bifF (decide_eq_false (by simp only [rows8_length]; omega))
    | succ n ih =>
      intro i h1 h2 h3
      rcases Nat.lt_or_ge i ps.length with hi | hi
      · have e1 : IntKind.wrap .i64 (2000 - ((ps.take i).flatten.length : Int)) = 2000 - ((ps.take i).flatten.length : Int) := wrap64 (by omega) (by omega)
        by_cases hq : ((ps.getD i []).length : Int) > 2000 - ((ps.take i).flatten.length : Int)
        · refine ⟨false, fun h => (Bool.false_ne_true h).elim, fun X K j hj => ?_⟩
          obtain ⟨j, rfl⟩ : ∃ q, j = q + 1 := ⟨j - 1, by omega⟩
          refine (hs _ _ _ _).trans ?_
          unfold f10_T1
          simp only [rows8_length, toNat_cast, e1]
          refine (bifT (decide_eq_true (by omega))).trans ?_
          refine (grdT (decide_eq_true (by omega))).trans ?_
          refine (bAt (rows8_at hi) _).trans ?_
          refine (grdT (isL_slc _ _)).trans ?_
          simp only [toL_slc, by8_length]
          exact bifT (decide_eq_true hq)
        · obtain ⟨b, g1, g2⟩ := ih (i + 1) (by omega) (by omega) (by rw [flat_succ hi, List.length_append]; omega)
          refine ⟨b, g1, fun X K j hj => ?_⟩
          obtain ⟨j, rfl⟩ : ∃ q, j = q + 1 := ⟨j - 1, by omega⟩
          refine Eq.trans ?_ (g2 X K j (by omega))
          refine (hs _ _ _ _).trans ?_
          generalize iterV (f10_L1 k K) j = rec
          unfold f10_T1
          simp only [rows8_length, toNat_cast, e1]
          refine (bifT (decide_eq_true (by omega))).trans ?_
          refine (grdT (decide_eq_true (by omega))).trans ?_
          refine (bAt (rows8_at hi) _).trans ?_
          refine (grdT (isL_slc _ _)).trans ?_
          simp only [toL_slc, by8_length]
          refine (bifF (decide_eq_false hq)).trans ?_
          refine (grdT (decide_eq_true (by omega))).trans ?_
          refine (bAt (rows8_at hi) _).trans ?_
          refine (grdT (isL_slc _ _)).trans ?_
          have e2 : IntKind.wrap .i64 (((ps.take i).flatten.length : Int) + ((ps.getD i []).length : Int)) = ((ps.take (i + 1)).flatten.length : Int) := by
            rw [flat_succ hi, List.length_append, wrap64 (by omega) (by omega)]; omega
          simp only [toL_slc, by8_length, e2]
          rw [wrap64_s (by omega)]
      · obtain ⟨b, g1, g2⟩ := ih i (by omega) h2 h3
        exact ⟨b, g1, fun X K j hj => g2 X K j (by omega)⟩
  obtain ⟨b, g1, g2⟩ := go ps.length 0 (by omega) (by omega) (by simp)
  refine ⟨b, fun h => ⟨by omega, g1 h⟩, fun X K => ?_⟩
  unfold f10 f10_A f10_T
  refine (bifF (decide_eq_false (by rw [rows8_length]; omega))).trans ?_
  exact g2 X K k (by omega)
end
end Go.Proofs.YtlaojkheenobaaaDoorD
/- Parts one behind the other, in plain words. -/
namespace Go.Proofs.YtlaojkheenobaaaDoorD
open Go Go.Proofs.YtlaojkheenobaaaDoorS Go.Proofs
set_option linter.unusedVariables false
set_option linter.unusedSimpArgs false
section
variable {X : Type}
/-- Parts, as a row of rows. -/
def parts (ps : List (List Int)) : List CV := ps.map fun p => .slc none (by8 p)
theorem join_part {k : Nat} (K : Nat × List CV → Option X) (rec : (List CV) × Nat × Int × (List CV) → Option X) (rows : List CV) (i : Nat) (p P : List Int) (hpi : rows[i]? = some (.slc none (by8 p))) (hle : P.length + p.length < 70368744177664) (hk : p.length < k) :
    iterV (f12_L2 k K rec) k (rows, P.length, (i : Int), 0, by8 P) = rec (rows, (P ++ p).length, IntKind.wrap .i64 ((i : Int) + 1), by8 (P ++ p)) := by
  have key := iterV_spec (T := f12_L2 k K rec) (fun j => (rows, P.length + j, (i : Int), (j : Int), by8 (P ++ p.take j))) (fun j => rec (rows, (P ++ p).length, IntKind.wrap .i64 ((i : Int) + 1), by8 (P ++ p))) p.length (fun j rec2 hj hr2 => by
    unfold f12_L2 f12_T2
    simp only [dec0, grd_true, Int.toNat_natCast, hpi, Option.bind_some, isL_slc, toL_slc, by8_length, decLt, hj, decide_true, cond_true, by8_get, List.getElem?_eq_getElem hj, Option.map_some, isI_int, toI_int]
    have e1 : List.take 1 (List.drop 0 [CV.int IntKind.u8 p[j]]) = by8 [p[j]] := rfl
    have e2 : List.take (P.length + j) (by8 (P ++ List.take j p)) = by8 (P ++ List.take j p) := take_all _ _ (by simp [by8_length]; omega)
    refine (grdT (decide_eq_true (by simp; omega))).trans ?_
    rw [← hr2]
    congr 1
    rw [e1, e2, ← by8_append, List.append_assoc, List.take_append_getElem hj]
    refine Prod.ext rfl (Prod.ext ?_ (Prod.ext rfl (Prod.ext ?_ rfl)))
    · simp [by8_length]; omega
    · exact wrap64_s (by omega)) (fun rec2 => by
    unfold f12_L2 f12_T2
    simp only [dec0, grd_true, Int.toNat_natCast, hpi, Option.bind_some, isL_slc, toL_slc, by8_length, decLt, Nat.lt_irrefl, decide_false, cond_false, List.take_length, List.length_append]) k 0 (Nat.zero_le _) (by omega)
  simpa using key
theorem join_eq {k : Nat} (K : Nat × List CV → Option X) (ps : List (List Int)) (hk : ps.length + ps.flatten.length < k) (hl : ps.flatten.length < 70368744177664) (hp : ps.length < 70368744177664) :
    f12 k K (parts ps) = K (ps.flatten.length, by8 ps.flatten) := by
  unfold f12 f12_A f12_T
  have hpl : (parts ps).length = ps.length := by simp [parts]
  refine iterV_spec (T := f12_L1 k K) (fun i => (parts ps, (ps.take i).flatten.length, (i : Int), by8 (ps.take i).flatten)) (fun i => K (ps.flatten.length, by8 ps.flatten)) ps.length (fun i rec hi hr => ?_) (fun rec => ?_) k 0 (Nat.zero_le _) (by omega)
  · unfold f12_L1 f12_T1
    have hpi : (parts ps)[i]? = some (.slc none (by8 ps[i])) := by simp [parts, List.getElem?_eq_getElem hi]
    simp only [hpl, decLt, hi, decide_true, cond_true]
    have hfl : (ps.take (i + 1)).flatten = (ps.take i).flatten ++ ps[i] := by
      rw [← List.take_append_getElem hi, List.flatten_append]; simp
    have hle : (ps.take i).flatten.length + ps[i].length ≤ ps.flatten.length := by
      have : (ps.take (i + 1)).flatten.length ≤ ps.flatten.length := by
        conv => rhs; rw [← List.take_append_drop (i + 1) ps, List.flatten_append, List.length_append]
        omega
      rw [hfl, List.length_append] at this
      exact this
    rw [← hr, join_part K rec (parts ps) i ps[i] (ps.take i).flatten hpi (by omega) (by omega), hfl, wrap64_s (by omega)]
  · unfold f12_L1 f12_T1
    simp only [hpl, decLt, Nat.lt_irrefl, decide_false, cond_false, List.take_length, Nat.zero_add]
    rw [take_all _ _ (by rw [by8_length]; exact Nat.le_refl _)]
end
end Go.Proofs.YtlaojkheenobaaaDoorD
