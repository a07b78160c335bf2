/- A flash: but by an erase no bit is ever set. -/
import Derived.Test.YtpdeankgekknaaaPf
namespace Go.Proofs.YtpdeankgekknaaaD
open Go Go.Proofs.YtpdeankgekknaaaS Go.Proofs
set_option linter.unusedVariables false
set_option linter.unusedSimpArgs false
section
variable {X : Type}
theorem copy_eq {k : Nat} (K : Nat × List CV → Option X) (xs : List Int) (hk : xs.length < k) (hl : xs.length ≤ 100000) : f15 k K (by8 xs) = K (xs.length, by8 xs) := by
  unfold f15 f15_A f15_T
  refine iterV_spec (T := f15_L1 k K) (fun i => (by8 xs, i, (i : Int), by8 (xs.take i))) (fun _ => K (xs.length, by8 xs)) xs.length (fun i rec hi hr => ?_) (fun rec => ?_) k 0 (Nat.zero_le _) (by omega)
  · unfold f15_L1 f15_T1
    simp only [by8_length, decLt, hi, decide_true, cond_true, dec0, grd_true, Int.toNat_natCast, by8_get, List.getElem?_eq_getElem hi, Option.map_some, Option.bind_some, isI_int, toI_int]
    have e1 : List.take 1 (List.drop 0 [CV.int IntKind.u8 xs[i]]) = by8 [xs[i]] := rfl
    have e2 : List.take i (by8 (List.take i xs)) = by8 (List.take i xs) := take_all _ _ (by simp [by8_length]; omega)
    refine (grdT (decide_eq_true (by simp; omega))).trans ?_
    rw [← hr]
    refine congrArg rec (Prod.ext rfl (Prod.ext rfl (Prod.ext (wrap64_s (by omega)) ?_)))
    show List.take i (by8 (List.take i xs)) ++ List.take 1 (List.drop 0 [CV.int IntKind.u8 xs[i]]) = by8 (List.take (i + 1) xs)
    rw [e1, e2, ← by8_append, List.take_append_getElem hi]
  · unfold f15_L1 f15_T1
    simp only [by8_length, decLt, Nat.lt_irrefl, decide_false, cond_false, List.take_length, t8]
/-- No bit is set that was not. -/
structure Cl (B D : List Int) : Prop where
  len : D.length = B.length
  get : ∀ i (h : i < B.length) (h' : i < D.length), bop .andNot .u8 D[i] B[i] = 0
theorem Cl.refl (B : List Int) : Cl B B := ⟨rfl, fun i h h' => andNot_self _⟩
theorem cl_get {B : List Int} {a : Nat} {xs : List Int} (h : clB B a xs = true) (ha : a + xs.length ≤ B.length) (j : Nat) (hj : j < xs.length) : bop .andNot .u8 xs[j] (B[a + j]'(by omega)) = 0 := by
  unfold clB at h
  rw [List.all_eq_true] at h
  have hj2 : j < (B.drop a).length := by rw [List.length_drop]; omega
  have hz : j < (xs.zip (B.drop a)).length := by rw [List.length_zip]; omega
  have := h _ (List.getElem_mem hz)
  rw [List.getElem_zip] at this
  simp only [List.getElem_drop] at this
  exact eq_of_beq this
theorem over_cl {B : List Int} {a : Nat} {xs : List Int} (h : clB B a xs = true) (ha : a + xs.length ≤ B.length) (g : Nat) : Cl B (over B a (xs.take g)) := by
  have htl : (xs.take g).length ≤ xs.length := by rw [List.length_take]; omega
  refine ⟨over_len (by omega), fun i hi hi' => ?_⟩
  have hget := over_get B a (xs.take g) (by omega) i
  rw [List.getElem?_eq_getElem hi'] at hget
  by_cases hc : a ≤ i ∧ i < a + (xs.take g).length
  · rw [if_pos hc, List.getElem?_eq_getElem (by omega), List.getElem_take] at hget
    rw [Option.some.inj hget]
    have := cl_get h ha (i - a) (by omega)
    have e : a + (i - a) = i := by omega
    simp only [e] at this
    exact this
  · rw [if_neg hc, List.getElem?_eq_getElem hi] at hget
    rw [Option.some.inj hget]
    exact andNot_self _
theorem prog_cl {k : Nat} (at_ : Int) (xs : List Int) (sec l : Int) (B W : List Int) (t : Nat) (d : Bool) (hk : 300000 < k) (hB : B.length ≤ 262144) (ht : t ≤ 1073741824) (hl : l < 9223372036854775808) :
    ∃ D e l' t' d', Cl B D ∧ (e ≠ 0 → e ≠ 30 → D = B) ∧ t' ≤ 1073741824 ∧ l' < 9223372036854775808 ∧ ∀ (Y : Type) (K : Int × Nat × Int × Nat × Int × Int × Bool × List CV × List CV → Option Y), f16 k K at_ (by8 xs) B.length sec W.length t l d (by8 B) (by64 W) = K (e, fl D sec W t' l' d') := by
  cases hd : d with
  | true => exact ⟨B, 30, l, t, true, Cl.refl B, fun _ h => absurd rfl h, ht, hl, fun Y K => (prog_eq K hk at_ xs sec l B W t true hB ht hl).trans (if_pos rfl)⟩
  | false =>
  cases hw : wiB B.length at_ xs.length with
  | false => exact ⟨B, 1, l, t, false, Cl.refl B, fun _ _ => rfl, ht, hl, fun Y K => (prog_eq K hk at_ xs sec l B W t false hB ht hl).trans (by rw [if_neg (by decide), if_pos hw])⟩
  | true =>
    obtain ⟨g1, g2, g3, g4⟩ := of_decide_eq_true hw
    cases hc : clB B at_.toNat xs with
    | false => exact ⟨B, 31, l, t, false, Cl.refl B, fun _ _ => rfl, ht, hl, fun Y K => (prog_eq K hk at_ xs sec l B W t false hB ht hl).trans (by rw [if_neg (by decide), if_neg (by rw [hw]; decide), if_pos hc])⟩
    | true =>
      have key : ∀ (Y : Type) (K : Int × Nat × Int × Nat × Int × Int × Bool × List CV × List CV → Option Y), f16 k K at_ (by8 xs) B.length sec W.length t l false (by8 B) (by64 W) = K (endR B at_.toNat xs sec W t l) := fun Y K => (prog_eq K hk at_ xs sec l B W t false hB ht hl).trans (by rw [if_neg (by decide), if_neg (by rw [hw]; decide), if_neg (by rw [hc]; decide)])
      have ha : at_.toNat + xs.length ≤ B.length := by omega
      by_cases hN : goes l xs.length < xs.length
      · exact ⟨_, 30, 0, _, true, over_cl hc ha (goes l xs.length), fun _ h => absurd rfl h, Nat.min_le_right (t + goes l xs.length) 1073741824, by omega, fun Y K => (key Y K).trans (by unfold endR; rw [if_pos hN]; rfl)⟩
      · have hcl := over_cl hc ha xs.length
        rw [List.take_length] at hcl
        exact ⟨_, 0, leftL l xs.length, _, false, hcl, fun h => absurd rfl h, Nat.min_le_right (t + xs.length) 1073741824, by unfold leftL; split <;> omega, fun Y K => (key Y K).trans (by unfold endR; rw [if_neg hN]; rfl)⟩
theorem chk3 {k0 : Nat} (K : Bool → Option X) (rec1 : List CV × Int × Int × Nat × Int × Nat × Int × Int × Bool × List CV × List CV → Option X) (C D F W : List Int) (ops dat : List CV) (len idx kd A Bn sec l e : Int) (t : Nat) (d : Bool) (h : Cl C D) (hC : C.length ≤ 262144) (hk : 300000 < k0) (he : e ≠ 0 → e ≠ 30 → D = C) (hkd : kd = 0 ∨ D = C) :
    iterV (f4_L3 (fun X => @f7 X k0) (fun X => @f13 X k0) (fun X => @f8 X k0) (fun X => @f14 X k0) (fun X => @f15 X k0) (fun X => @f16 X k0) (fun X => @f9 X k0) (fun X => @f17 X k0) (fun X => @f18 X k0) k0 K rec1) k0 (C.length, e, D.length, ops, len, idx, (C.length : Int), ((0 : Nat) : Int), kd, A, Bn, dat, by8 C, by8 D, F.length, sec, W.length, (t : Int), l, d, by8 F, by64 W) = rec1 (ops, len, IntKind.wrap .i64 (idx + 1), F.length, sec, W.length, (t : Int), l, d, by8 F, by64 W) := by
  refine iterV_spec (T := f4_L3 (fun X => @f7 X k0) (fun X => @f13 X k0) (fun X => @f8 X k0) (fun X => @f14 X k0) (fun X => @f15 X k0) (fun X => @f16 X k0) (fun X => @f9 X k0) (fun X => @f17 X k0) (fun X => @f18 X k0) k0 K rec1) (fun i => (C.length, e, D.length, ops, len, idx, (C.length : Int), (i : Int), kd, A, Bn, dat, by8 C, by8 D, F.length, sec, W.length, (t : Int), l, d, by8 F, by64 W)) (fun _ => rec1 (ops, len, IntKind.wrap .i64 (idx + 1), F.length, sec, W.length, (t : Int), l, d, by8 F, by64 W)) C.length (fun i rec hi hr => ?_) (fun rec => ?_) k0 0 (Nat.zero_le _) (by omega)
  · unfold f4_L3 f4_T3
    have hDi : i < D.length := by rw [h.len]; exact hi
    have ha := h.get i hi hDi
    have J : f4_J1 (fun X => @f7 X k0) (fun X => @f13 X k0) (fun X => @f8 X k0) (fun X => @f14 X k0) (fun X => @f15 X k0) (fun X => @f16 X k0) (fun X => @f9 X k0) (fun X => @f17 X k0) (fun X => @f18 X k0) k0 K rec (C.length, e, D.length, ops, len, idx, (C.length : Int), (i : Int), kd, A, Bn, dat, by8 C, by8 D, F.length, sec, W.length, (t : Int), l, d, by8 F, by64 W) () = rec1 (ops, len, IntKind.wrap .i64 (idx + 1), F.length, sec, W.length, (t : Int), l, d, by8 F, by64 W) := by
      unfold f4_J1
      rw [← hr]
      rw [wrap64_s (by omega)]
    simp only [decLt, decide_eq_true hi, cond_true, dec0, grd_true, Int.toNat_natCast, Nat.zero_add, by8_get, List.getElem?_eq_getElem hi, List.getElem?_eq_getElem hDi, Option.map_some, Option.bind_some, isI_int, toI_int, hi, hDi, decide_true, ha, bne_self_eq_false, cond_false]
    by_cases e0 : e = 0
    · rw [show (e != 0) = false by simp [e0]]
      simp only [cond_false]
      by_cases hk0 : kd = 0
      · rw [show (kd != 0) = false by simp [hk0]]
        simp only [cond_false]; exact J
      · have hDC := hkd.resolve_left hk0
        have hDC' : D[i] = C[i] := by simp only [hDC]
        rw [show (kd != 0) = true from bne_t hk0]
        simp only [cond_true, hDC', bne_self_eq_false, cond_false]; exact J
    · rw [show (e != 0) = true from bne_t e0]
      simp only [cond_true]
      by_cases e30 : e = 30
      · rw [show (e != 30) = false by simp [e30]]
        simp only [cond_false]
        by_cases hk0 : kd = 0
        · rw [show (kd != 0) = false by simp [hk0]]
          simp only [cond_false]; exact J
        · have hDC := hkd.resolve_left hk0
          have hDC' : D[i] = C[i] := by simp only [hDC]
          rw [show (kd != 0) = true from bne_t hk0]
          simp only [cond_true, hDC', bne_self_eq_false, cond_false]; exact J
      · rw [show (e != 30) = true from bne_t e30]
        have hDC := he e0 e30
        have hDC' : D[i] = C[i] := by simp only [hDC]
        simp only [cond_true, hDC', bne_self_eq_false, cond_false]
        cases hkk : (kd != 0) <;> simp only [cond_true, cond_false] <;> exact J
  · unfold f4_L3 f4_T3
    simp only [decLt, Nat.lt_irrefl, decide_false, cond_false]
theorem chk5 {k0 : Nat} (K : Bool → Option X) (rec1 : List CV × Int × Int × Nat × Int × Nat × Int × Int × Bool × List CV × List CV → Option X) (C D F W : List Int) (ops dat : List CV) (len idx kd A Bn sec l e : Int) (t : Nat) (d : Bool) (h : Cl C D) (hC : C.length ≤ 262144) (hk : 300000 < k0) (he : e ≠ 0 → e ≠ 30 → D = C) (hkd : kd = 0 ∨ D = C) :
    iterV (f4_L5 (fun X => @f7 X k0) (fun X => @f13 X k0) (fun X => @f8 X k0) (fun X => @f14 X k0) (fun X => @f15 X k0) (fun X => @f16 X k0) (fun X => @f9 X k0) (fun X => @f17 X k0) (fun X => @f18 X k0) k0 K rec1) k0 (C.length, e, D.length, ops, len, idx, (C.length : Int), ((0 : Nat) : Int), kd, A, Bn, dat, by8 C, by8 D, F.length, sec, W.length, (t : Int), l, d, by8 F, by64 W) = rec1 (ops, len, IntKind.wrap .i64 (idx + 1), F.length, sec, W.length, (t : Int), l, d, by8 F, by64 W) := by
  refine iterV_spec (T := f4_L5 (fun X => @f7 X k0) (fun X => @f13 X k0) (fun X => @f8 X k0) (fun X => @f14 X k0) (fun X => @f15 X k0) (fun X => @f16 X k0) (fun X => @f9 X k0) (fun X => @f17 X k0) (fun X => @f18 X k0) k0 K rec1) (fun i => (C.length, e, D.length, ops, len, idx, (C.length : Int), (i : Int), kd, A, Bn, dat, by8 C, by8 D, F.length, sec, W.length, (t : Int), l, d, by8 F, by64 W)) (fun _ => rec1 (ops, len, IntKind.wrap .i64 (idx + 1), F.length, sec, W.length, (t : Int), l, d, by8 F, by64 W)) C.length (fun i rec hi hr => ?_) (fun rec => ?_) k0 0 (Nat.zero_le _) (by omega)
  · unfold f4_L5 f4_T5
    have hDi : i < D.length := by rw [h.len]; exact hi
    have ha := h.get i hi hDi
    have J : f4_J2 (fun X => @f7 X k0) (fun X => @f13 X k0) (fun X => @f8 X k0) (fun X => @f14 X k0) (fun X => @f15 X k0) (fun X => @f16 X k0) (fun X => @f9 X k0) (fun X => @f17 X k0) (fun X => @f18 X k0) k0 K rec (C.length, e, D.length, ops, len, idx, (C.length : Int), (i : Int), kd, A, Bn, dat, by8 C, by8 D, F.length, sec, W.length, (t : Int), l, d, by8 F, by64 W) () = rec1 (ops, len, IntKind.wrap .i64 (idx + 1), F.length, sec, W.length, (t : Int), l, d, by8 F, by64 W) := by
      unfold f4_J2
      rw [← hr]
      rw [wrap64_s (by omega)]
    simp only [decLt, decide_eq_true hi, cond_true, dec0, grd_true, Int.toNat_natCast, Nat.zero_add, by8_get, List.getElem?_eq_getElem hi, List.getElem?_eq_getElem hDi, Option.map_some, Option.bind_some, isI_int, toI_int, hi, hDi, decide_true, ha, bne_self_eq_false, cond_false]
    by_cases e0 : e = 0
    · rw [show (e != 0) = false by simp [e0]]
      simp only [cond_false]
      by_cases hk0 : kd = 0
      · rw [show (kd != 0) = false by simp [hk0]]
        simp only [cond_false]; exact J
      · have hDC := hkd.resolve_left hk0
        have hDC' : D[i] = C[i] := by simp only [hDC]
        rw [show (kd != 0) = true from bne_t hk0]
        simp only [cond_true, hDC', bne_self_eq_false, cond_false]; exact J
    · rw [show (e != 0) = true from bne_t e0]
      simp only [cond_true]
      by_cases e30 : e = 30
      · rw [show (e != 30) = false by simp [e30]]
        simp only [cond_false]
        by_cases hk0 : kd = 0
        · rw [show (kd != 0) = false by simp [hk0]]
          simp only [cond_false]; exact J
        · have hDC := hkd.resolve_left hk0
          have hDC' : D[i] = C[i] := by simp only [hDC]
          rw [show (kd != 0) = true from bne_t hk0]
          simp only [cond_true, hDC', bne_self_eq_false, cond_false]; exact J
      · rw [show (e != 30) = true from bne_t e30]
        have hDC := he e0 e30
        have hDC' : D[i] = C[i] := by simp only [hDC]
        simp only [cond_true, hDC', bne_self_eq_false, cond_false]
        cases hkk : (kd != 0) <;> simp only [cond_true, cond_false] <;> exact J
  · unfold f4_L5 f4_T5
    simp only [decLt, Nat.lt_irrefl, decide_false, cond_false]
theorem chk6 {k0 : Nat} (K : Bool → Option X) (rec1 : List CV × Int × Int × Nat × Int × Nat × Int × Int × Bool × List CV × List CV → Option X) (C D F W : List Int) (ops dat : List CV) (len idx kd A Bn sec l : Int) (t : Nat) (d : Bool) (h : Cl C D) (hC : C.length ≤ 262144) (hk : 300000 < k0) (hkd : kd = 0 ∨ D = C) :
    iterV (f4_L6 (fun X => @f7 X k0) (fun X => @f13 X k0) (fun X => @f8 X k0) (fun X => @f14 X k0) (fun X => @f15 X k0) (fun X => @f16 X k0) (fun X => @f9 X k0) (fun X => @f17 X k0) (fun X => @f18 X k0) k0 K rec1) k0 (C.length, D.length, ops, len, idx, (C.length : Int), ((0 : Nat) : Int), kd, A, Bn, dat, by8 C, by8 D, F.length, sec, W.length, (t : Int), l, d, by8 F, by64 W) = rec1 (ops, len, IntKind.wrap .i64 (idx + 1), F.length, sec, W.length, (t : Int), l, d, by8 F, by64 W) := by
  refine iterV_spec (T := f4_L6 (fun X => @f7 X k0) (fun X => @f13 X k0) (fun X => @f8 X k0) (fun X => @f14 X k0) (fun X => @f15 X k0) (fun X => @f16 X k0) (fun X => @f9 X k0) (fun X => @f17 X k0) (fun X => @f18 X k0) k0 K rec1) (fun i => (C.length, D.length, ops, len, idx, (C.length : Int), (i : Int), kd, A, Bn, dat, by8 C, by8 D, F.length, sec, W.length, (t : Int), l, d, by8 F, by64 W)) (fun _ => rec1 (ops, len, IntKind.wrap .i64 (idx + 1), F.length, sec, W.length, (t : Int), l, d, by8 F, by64 W)) C.length (fun i rec hi hr => ?_) (fun rec => ?_) k0 0 (Nat.zero_le _) (by omega)
  · unfold f4_L6 f4_T6
    have hDi : i < D.length := by rw [h.len]; exact hi
    have ha := h.get i hi hDi
    have J : f4_J3 (fun X => @f7 X k0) (fun X => @f13 X k0) (fun X => @f8 X k0) (fun X => @f14 X k0) (fun X => @f15 X k0) (fun X => @f16 X k0) (fun X => @f9 X k0) (fun X => @f17 X k0) (fun X => @f18 X k0) k0 K rec (C.length, D.length, ops, len, idx, (C.length : Int), (i : Int), kd, A, Bn, dat, by8 C, by8 D, F.length, sec, W.length, (t : Int), l, d, by8 F, by64 W) () = rec1 (ops, len, IntKind.wrap .i64 (idx + 1), F.length, sec, W.length, (t : Int), l, d, by8 F, by64 W) := by
      unfold f4_J3
      rw [← hr]
      rw [wrap64_s (by omega)]
    simp only [decLt, decide_eq_true hi, cond_true, dec0, grd_true, Int.toNat_natCast, Nat.zero_add, by8_get, List.getElem?_eq_getElem hi, List.getElem?_eq_getElem hDi, Option.map_some, Option.bind_some, isI_int, toI_int, hi, hDi, decide_true, ha, bne_self_eq_false, cond_false]
    by_cases hk0 : kd = 0
    · rw [show (kd != 0) = false by simp [hk0]]
      simp only [cond_false]; exact J
    · have hDC := hkd.resolve_left hk0
      have hDC' : D[i] = C[i] := by simp only [hDC]
      rw [show (kd != 0) = true from bne_t hk0]
      simp only [cond_true, hDC', bne_self_eq_false, cond_false]; exact J
  · unfold f4_L6 f4_T6
    simp only [decLt, Nat.lt_irrefl, decide_false, cond_false]
theorem chk7 {k0 : Nat} (K : Bool → Option X) (rec1 : List CV × Int × Int × Nat × Int × Nat × Int × Int × Bool × List CV × List CV → Option X) (C D F W : List Int) (ops dat : List CV) (len idx kd A Bn sec l : Int) (t : Nat) (d : Bool) (h : Cl C D) (hC : C.length ≤ 262144) (hk : 300000 < k0) (hkd : kd = 0 ∨ D = C) :
    iterV (f4_L7 (fun X => @f7 X k0) (fun X => @f13 X k0) (fun X => @f8 X k0) (fun X => @f14 X k0) (fun X => @f15 X k0) (fun X => @f16 X k0) (fun X => @f9 X k0) (fun X => @f17 X k0) (fun X => @f18 X k0) k0 K rec1) k0 (C.length, D.length, ops, len, idx, (C.length : Int), ((0 : Nat) : Int), kd, A, Bn, dat, by8 C, by8 D, F.length, sec, W.length, (t : Int), l, d, by8 F, by64 W) = rec1 (ops, len, IntKind.wrap .i64 (idx + 1), F.length, sec, W.length, (t : Int), l, d, by8 F, by64 W) := by
  refine iterV_spec (T := f4_L7 (fun X => @f7 X k0) (fun X => @f13 X k0) (fun X => @f8 X k0) (fun X => @f14 X k0) (fun X => @f15 X k0) (fun X => @f16 X k0) (fun X => @f9 X k0) (fun X => @f17 X k0) (fun X => @f18 X k0) k0 K rec1) (fun i => (C.length, D.length, ops, len, idx, (C.length : Int), (i : Int), kd, A, Bn, dat, by8 C, by8 D, F.length, sec, W.length, (t : Int), l, d, by8 F, by64 W)) (fun _ => rec1 (ops, len, IntKind.wrap .i64 (idx + 1), F.length, sec, W.length, (t : Int), l, d, by8 F, by64 W)) C.length (fun i rec hi hr => ?_) (fun rec => ?_) k0 0 (Nat.zero_le _) (by omega)
  · unfold f4_L7 f4_T7
    have hDi : i < D.length := by rw [h.len]; exact hi
    have ha := h.get i hi hDi
    have J : f4_J4 (fun X => @f7 X k0) (fun X => @f13 X k0) (fun X => @f8 X k0) (fun X => @f14 X k0) (fun X => @f15 X k0) (fun X => @f16 X k0) (fun X => @f9 X k0) (fun X => @f17 X k0) (fun X => @f18 X k0) k0 K rec (C.length, D.length, ops, len, idx, (C.length : Int), (i : Int), kd, A, Bn, dat, by8 C, by8 D, F.length, sec, W.length, (t : Int), l, d, by8 F, by64 W) () = rec1 (ops, len, IntKind.wrap .i64 (idx + 1), F.length, sec, W.length, (t : Int), l, d, by8 F, by64 W) := by
      unfold f4_J4
      rw [← hr]
      rw [wrap64_s (by omega)]
    simp only [decLt, decide_eq_true hi, cond_true, dec0, grd_true, Int.toNat_natCast, Nat.zero_add, by8_get, List.getElem?_eq_getElem hi, List.getElem?_eq_getElem hDi, Option.map_some, Option.bind_some, isI_int, toI_int, hi, hDi, decide_true, ha, bne_self_eq_false, cond_false]
    by_cases hk0 : kd = 0
    · rw [show (kd != 0) = false by simp [hk0]]
      simp only [cond_false]; exact J
    · have hDC := hkd.resolve_left hk0
      have hDC' : D[i] = C[i] := by simp only [hDC]
      rw [show (kd != 0) = true from bne_t hk0]
      simp only [cond_true, hDC', bne_self_eq_false, cond_false]; exact J
  · unfold f4_L7 f4_T7
    simp only [decLt, Nat.lt_irrefl, decide_false, cond_false]
end
end Go.Proofs.YtpdeankgekknaaaD
