/- ShaBack. -/
import Derived.Test.YtlaojkheenobaaaDoorPo
namespace Go.Proofs.YtlaojkheenobaaaDoorD
open Go Go.Proofs.YtlaojkheenobaaaDoorS Go.Proofs
set_option linter.unusedVariables false
set_option linter.unusedSimpArgs false
section
variable {X : Type}
/-- The digit at place j of what Hex tells of d. -/
def nib (d : List Int) (j : Nat) : Int := if j % 2 = 0 then d.getD (j / 2) 0 / 16 else d.getD (j / 2) 0 % 16
theorem nib_lt {d : List Int} (hd : Byt d) (j : Nat) : 0 ≤ nib d j ∧ nib d j < 16 := by
  have := getD_byt hd (j / 2)
  unfold nib; split <;> omega
theorem dv_nb {n : Int} (h : 0 ≤ n ∧ n < 16) : dv (nb n) = (n, true) := by
  unfold nb
  split
  · rw [dv_num (by omega)]; exact Prod.ext (by simp only; omega) rfl
  · rw [dv_low (by omega)]; exact Prod.ext (by simp only; omega) rfl
theorem hexI_at : ∀ (d : List Int) (j : Nat), j < 2 * d.length → (hexI d).getD j 0 = nb (nib d j)
  | [], j, h => by simp at h
  | x :: d, 0, h => rfl
  | x :: d, 1, h => rfl
  | x :: d, j + 2, h => by
    have ih := hexI_at d j (by simp at h; omega)
    have e1 : (j + 2) % 2 = j % 2 := by omega
    have e2 : (j + 2) / 2 = j / 2 + 1 := by omega
    show (hexI d).getD j 0 = _
    rw [ih]
    unfold nib
    rw [e1, e2]
    rfl
theorem hexI_byt {d : List Int} (hd : Byt d) : Byt (hexI d) := by
  induction d with
  | nil => exact .nil
  | cons x d ih =>
    have hx := hd x List.mem_cons_self
    exact .cons (nb_byt (by omega)) (.cons (nb_byt (by omega)) (ih fun b hb => hd b (List.mem_cons_of_mem _ hb)))
theorem strCV_bytes {xs : List Int} (h : Byt xs) : strCV (bytesOf (by8 xs)) = by8 xs := by
  unfold strCV bytesOf by8
  rw [List.map_map]
  show List.map _ (List.map _ xs) = _
  rw [List.map_map]
  refine List.map_congr_left fun n hn => ?_
  have := h n hn
  show CV.int .u8 (((UInt8.ofNat n.toNat).toNat : Nat) : Int) = CV.int .u8 n
  congr 1
  rw [UInt8.toNat_ofNat']
  omega
theorem bytes_size (xs : List Int) : (bytesOf (by8 xs)).size = xs.length := by
  show (List.map _ (by8 xs)).toArray.size = _
  simp [by8_length]
theorem byt_bytes {xs : List Int} (h : Byt xs) {j : Nat} (hj : j < xs.length) : byt (bytesOf (by8 xs)) j = xs.getD j 0 := by
  unfold byt bytesOf by8
  simp only [List.getElem?_toArray, List.map_map, List.getElem?_map]
  rw [List.getElem?_eq_getElem hj, List.getD_eq_getElem?_getD, List.getElem?_eq_getElem hj]
  have := h _ (List.getElem_mem hj)
  simp only [Option.map_some, Option.getD_some, Function.comp]
  show (((UInt8.ofNat (CV.toI (CV.int .u8 xs[j])).toNat).toNat : Nat) : Int) = xs[j]
  rw [UInt8.toNat_ofNat', toI_int]
  omega
/-- Digits of d, small or great. -/
def Digs (d ys : List Int) : Prop := ys.length = 64 ∧ Byt ys ∧ ∀ j, j < 64 → dv (ys.getD j 0) = (nib d j, true)
theorem digs_hex {d : List Int} (hl : d.length = 32) (hd : Byt d) : Digs d (hexI d) :=
  ⟨by rw [hexI_length, hl], hexI_byt hd, fun j hj => by rw [hexI_at d j (by omega), dv_nb (nib_lt hd j)]⟩
theorem getD_set (ys : List Int) (i j : Nat) (v : Int) (h : i < ys.length) : (ys.set i v).getD j 0 = if j = i then v else ys.getD j 0 := by
  rw [List.getD_eq_getElem?_getD, List.getD_eq_getElem?_getD, List.getElem?_set]
  by_cases e : i = j
  · subst e; rw [if_pos rfl, if_pos rfl, if_pos h]; rfl
  · rw [if_neg e, if_neg fun h => e h.symm]
theorem Digs.up {d ys : List Int} (h : Digs d ys) {i : Nat} (hi : i < 64) (hg : ys.getD i 0 ≥ 97) : Digs d (ys.set i (ys.getD i 0 - 32)) := by
  have hb := getD_byt h.2.1 i
  have h97 : 97 ≤ ys.getD i 0 ∧ ys.getD i 0 ≤ 102 := by
    refine ⟨hg, ?_⟩
    rcases Classical.em (ys.getD i 0 ≤ 102) with h1 | h1
    · exact h1
    · have := h.2.2 i hi
      rw [dv_no (by omega) (by omega) (by omega)] at this
      exact absurd (congrArg Prod.snd this) (show ¬ (false = true) by decide)
  refine ⟨by rw [List.length_set]; exact h.1, fun b hb2 => ?_, fun j hj => ?_⟩
  · rcases List.mem_or_eq_of_mem_set hb2 with h2 | h2
    · exact h.2.1 b h2
    · rw [h2]; omega
  · rw [getD_set ys i j _ (by rw [h.1]; exact hi)]
    by_cases e : j = i
    · subst e
      have := h.2.2 j hj
      rw [dv_low h97] at this
      rw [if_pos rfl, ← this, dv_up (by omega)]
      exact Prod.ext (by simp only; omega) rfl
    · rw [if_neg e]; exact h.2.2 j hj
theorem pgo_digs {d ys : List Int} (hl : d.length = 32) (hd : Byt d) (hy : Digs d ys) : ∀ (n i : Nat) (out : List Int), 64 - i = n → i ≤ 64 → out.length = 32 → (∀ j, j < 32 → out.getD j 0 = if 2 * j + 1 < i then d.getD j 0 else if 2 * j < i then d.getD j 0 / 16 else 0) →
    pgo (bytesOf (by8 ys)) n i out = (d, 0)
  | 0, i, out, h1, h2, h3, h4 => by
    unfold pgo
    refine Prod.ext ?_ rfl
    show out = d
    refine List.ext_getElem (by rw [h3, hl]) fun j q1 q2 => ?_
    have := h4 j (by omega)
    rw [if_pos (by omega), List.getD_eq_getElem?_getD, List.getD_eq_getElem?_getD, List.getElem?_eq_getElem q1, List.getElem?_eq_getElem q2] at this
    exact this
  | n + 1, i, out, h1, h2, h3, h4 => by
    have hb : byt (bytesOf (by8 ys)) i = ys.getD i 0 := byt_bytes hy.2.1 (by rw [hy.1]; omega)
    have hdv := hy.2.2 i (by omega)
    unfold pgo
    rw [hb, hdv, if_pos rfl]
    refine pgo_digs hl hd hy n (i + 1) _ (by omega) (by omega) (by rw [List.length_set]; exact h3) fun j hj => ?_
    rw [getD_set out (i / 2) j _ (by omega)]
    have hdj := getD_byt hd j
    have h4j := h4 j hj
    by_cases e : j = i / 2
    · rw [if_pos e]
      subst e
      rw [h4j]
      unfold nib
      by_cases hp : i % 2 = 0
      · rw [if_pos hp, if_neg (by omega), if_neg (by omega), if_neg (by omega), if_pos (by omega)]; simp
      · rw [if_neg hp, if_neg (by omega), if_pos (by omega), if_pos (by omega)]; omega
    · rw [if_neg e, h4j]
      by_cases c1 : 2 * j + 1 < i
      · rw [if_pos c1, if_pos (by omega)]
      · by_cases c2 : 2 * j < i
        · exact absurd (show j = i / 2 by omega) e
        · rw [if_neg c1, if_neg c2, if_neg (by omega), if_neg (by omega)]
theorem parseR_digs {d ys : List Int} (hl : d.length = 32) (hd : Byt d) (hy : Digs d ys) : parseR (bytesOf (by8 ys)) = (d, 0) := by
  unfold parseR
  rw [if_pos (by rw [bytes_size, hy.1])]
  refine pgo_digs hl hd hy 64 0 zer (by omega) (by omega) zer_length fun j hj => ?_
  rw [if_neg (by omega), if_neg (by omega)]
  unfold zer
  rw [List.getD_eq_getElem?_getD, List.getElem?_replicate, if_pos hj]; rfl
abbrev BackL (k : Nat) (K : Bool → Option X) := f5_L1 (fun X => @f9 X k) (fun X => @f20 X k) (fun X => @f18 X k) k K
abbrev BackT (k : Nat) (K : Bool → Option X) := f5_T1 (fun X => @f9 X k) (fun X => @f20 X k) (fun X => @f18 X k) k K
theorem back_end {k : Nat} (hk : 70 < k) (K : Bool → Option X) {d ys : List Int} (hl : d.length = 32) (hd : Byt d) (hy : Digs d ys) (g : Int) (rec) : BackT k K rec (g, 64, 64, 64, by8 d, by8 ys) = K true := by
  have a32 : (by8 d).length = 32 := by rw [by8_length]; exact hl
  unfold BackT f5_T1
  refine (bifF rfl).trans ?_
  have et : List.take 64 (List.drop 0 (by8 ys)) = by8 ys := by rw [List.drop_zero, take_all _ _ (by rw [by8_length, hy.1]; omega)]
  simp only [et]
  refine (grdT (by
    rw [Bool.and_eq_true, List.all_eq_true]
    exact ⟨rfl, fun c hc => by
      obtain ⟨n, _, rfl⟩ := List.mem_map.1 hc
      exact isI_int _ _⟩)).trans ?_
  refine (parse_eq hk _ _).trans ?_
  rw [parseR_digs hl hd hy]
  refine (grdT (by rw [a32]; rfl)).trans ?_
  refine (grdT rfl).trans ?_
  refine (bifT rfl).trans ?_
  simp only [put_all a32 rep_length, take_32 a32]
  refine (grdT (decide_eq_true (by omega))).trans ?_
  refine (grdT (decide_eq_true (by omega))).trans ?_
  rw [nums_by8 hl]
  refine (grdT rfl).trans ?_
  exact bifT (by simp)
theorem back_go {k : Nat} (hk : 70 < k) (K : Bool → Option X) {d : List Int} (hl : d.length = 32) (hd : Byt d) (g : Int) : ∀ (n i : Nat) (ys : List Int) (j : Nat), 64 - i = n → i ≤ 64 → n < j → Digs d ys →
    iterV (BackL k K) j (g, 64, 64, (i : Int), by8 d, by8 ys) = K true := fun n => by
  have hs : ∀ (j : Nat) v, iterV (BackL k K) (j + 1) v = BackT k K (iterV (BackL k K) j) v := fun _ _ => rfl
  induction n with
  | zero =>
    intro i ys j h1 h2 h3 hy
    obtain ⟨j, rfl⟩ : ∃ q, j = q + 1 := ⟨j - 1, by omega⟩
    have hi : i = 64 := by omega
    subst hi
    exact (hs _ _).trans (back_end hk K hl hd hy g _)
  | succ n ih =>
    intro i ys j h1 h2 h3 hy
    obtain ⟨j, rfl⟩ : ∃ q, j = q + 1 := ⟨j - 1, by omega⟩
    refine (hs _ _).trans ?_
    have hf := fun ys' hy' => ih (i + 1) ys' j (by omega) (by omega) (by omega) hy'
    generalize iterV (BackL k K) j = rec at hf ⊢
    have e5 : 0 + i + 0 = i := by omega
    have hyl : (by8 ys).length = 64 := by rw [by8_length]; exact hy.1
    have hb := getD_byt hy.2.1 i
    have e63 : bop .and .i64 (i : Int) 63 = (i : Int) % 64 := bop_mask64 (i : Int) 6 (by decide)
    have hJ : ∀ z, f5_J1 (fun X => @f9 X k) (fun X => @f20 X k) (fun X => @f18 X k) k K rec (g, 64, 64, (i : Int), by8 d, by8 ys) z = rec (g, 64, 64, ((i + 1 : Nat) : Int), by8 d, z) := fun z => by
      unfold f5_J1
      simp only
      rw [wrap64_s (by omega)]
    unfold BackT f5_T1
    refine (bifT (decide_eq_true (by omega : (i : Int) < 64))).trans ?_
    refine (grdT (decide_eq_true (by omega : (0 : Int) ≤ (i : Int)))).trans ?_
    refine (grdT (decide_eq_true (show (i : Int) < ((64 : Nat) : Int) by omega))).trans ?_
    simp only [toNat_cast, e5, e63]
    refine (bAt (by8_at (by rw [hy.1]; omega)) _).trans ?_
    refine (grdT (isI_int _ _)).trans ?_
    simp only [toI_int]
    by_cases h97 : ys.getD i 0 ≥ 97
    · refine (bifT (decide_eq_true h97)).trans ?_
      refine (grdT (decide_eq_true (by omega))).trans ?_
      cases hq : (bop .and .u64 (Int.fdiv g (2 ^ (min (Int.toNat ((i : Int) % 64)) 64))) 1 == 1) with
      | true =>
        refine (bifT rfl).trans ?_
        refine (grdT (decide_eq_true (by omega))).trans ?_
        refine (grdT (decide_eq_true (show (i : Int) < ((64 : Nat) : Int) by omega))).trans ?_
        refine (bAt (by8_at (by rw [hy.1]; omega)) _).trans ?_
        refine (grdT (isI_int _ _)).trans ?_
        refine (grdT (decide_eq_true (by omega))).trans ?_
        refine (grdT (decide_eq_true (show (i : Int) < ((64 : Nat) : Int) by omega))).trans ?_
        refine (grdT (decide_eq_true (by omega))).trans ?_
        refine (hJ _).trans ?_
        have ew : IntKind.wrap .u8 (ys.getD i 0 - 32) = ys.getD i 0 - 32 := by rw [wrapU8]; omega
        simp only [toI_int, ew]
        rw [by8_set]
        exact hf _ (hy.up (by omega) h97)
      | false =>
        refine (bifF rfl).trans ?_
        exact (hJ _).trans (hf ys hy)
    · refine (bifF (decide_eq_false h97)).trans ?_
      exact (hJ _).trans (hf ys hy)
theorem back_law_eq {k : Nat} (K : Bool → Option X) (hk : 200 < k) (hk2 : k < 1073741824) {d : List Int} (hl : d.length = 32) (hd : Byt d) (g : Int) : f5 k K (by8 d) g = K true := by
  unfold f5 f5_A f5_T
  have a32 : (by8 d).length = 32 := by rw [by8_length]; exact hl
  refine (grdT (by rw [a32]; rfl)).trans ?_
  refine (alive_eq _ (by omega) hk2).trans ?_
  refine (bifF rfl).trans ?_
  simp only [take_32 a32]
  refine (grdT (decide_eq_true (by omega))).trans ?_
  refine (hex_eq _ hl hd).trans ?_
  rw [hexT_bytes hd, strCV_bytes (hexI_byt hd)]
  have hz : (bytesOf (by8 (hexI d))).size = 64 := by rw [bytes_size, hexI_length, hl]
  rw [hz]
  refine (grdT rfl).trans ?_
  exact back_go (by omega) K hl hd g 64 0 _ k (by omega) (by omega) (by omega) (digs_hex hl hd)
theorem law_back (x0 : List Int) (w0 : x0.length = 32 ∧ ∀ y ∈ x0, (Lit.int .u8 y).wf = true) (x1 : Int) (w1 : (Lit.int .u64 x1).wf = true) : ∃ k, ∀ K : Bool → Option Out, f5 k K (x0.map fun y => CV.int .u8 y) x1 = K true :=
  ⟨100000, fun K => back_law_eq K (by omega) (by omega) w0.1 (wfByt w0.2) x1⟩
end
end Go.Proofs.YtlaojkheenobaaaDoorD
