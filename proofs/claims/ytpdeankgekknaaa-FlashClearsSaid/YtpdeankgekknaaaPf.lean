/- A flash: the law on what the power cuts. -/
import Derived.Test.YtpdeankgekknaaaPe
namespace Go.Proofs.YtpdeankgekknaaaD
open Go Go.Proofs.YtpdeankgekknaaaS Go.Proofs
set_option linter.unusedVariables false
set_option linter.unusedSimpArgs false
section
variable {X : Type}
/-- Behind the erase each byte is as it should be. -/
theorem cuts_two {k0 : Nat} (K : Bool → Option X) (hk : 300000 < k0) (C D W : List Int) (s z N : Nat) (g l : Int) (t : Nat) (d : Bool) (hM : Made C D ((s * z : Nat) : Int) (List.replicate z 255) N g d) (hg : g = 30 ↔ N < z) (hg0 : g = 0 ∨ g = 30) (hz : s * z + z ≤ C.length) (hC : C.length ≤ 262144) (hs : s < W.length) (hW : W[s] = 1) :
    iterV (f6_L2 (fun X => @f7 X k0) (fun X => @f8 X k0) (fun X => @f21 X k0) (fun X => @f14 X k0) (fun X => @f17 X k0) (fun X => @f16 X k0) (fun X => @f22 X k0) (fun X => @f18 X k0) (fun X => @f12 X k0) (fun X => @f11 X k0) (fun X => @f23 X k0) k0 K) k0 ((s : Int), (N : Int), C.length, g, D.length, (C.length : Int), ((0 : Nat) : Int), by8 C, by8 D, D.length, (z : Int), W.length, (t : Int), l, d, by8 D, by64 W) = K true := by
  refine iterV_spec (T := f6_L2 (fun X => @f7 X k0) (fun X => @f8 X k0) (fun X => @f21 X k0) (fun X => @f14 X k0) (fun X => @f17 X k0) (fun X => @f16 X k0) (fun X => @f22 X k0) (fun X => @f18 X k0) (fun X => @f12 X k0) (fun X => @f11 X k0) (fun X => @f23 X k0) k0 K) (fun i => ((s : Int), (N : Int), C.length, g, D.length, (C.length : Int), (i : Int), by8 C, by8 D, D.length, (z : Int), W.length, (t : Int), l, d, by8 D, by64 W)) (fun _ => K true) C.length (fun i rec hi hr => ?_) (fun rec => ?_) k0 0 (Nat.zero_le _) (by omega)
  · unfold f6_L2 f6_T2
    have hDl := hM.len
    have hDi : i < D.length := by omega
    have hget := hM.get i hi
    simp only [decLt, decide_eq_true hi, cond_true, dec0, grd_true, Int.toNat_natCast, Nat.zero_add, by8_get, List.getElem?_eq_getElem hi, Option.map_some, Option.bind_some, isI_int, toI_int, hi, decide_true]
    have J : ∀ want : Int, D[i] = want → f6_J2 (fun X => @f7 X k0) (fun X => @f8 X k0) (fun X => @f21 X k0) (fun X => @f14 X k0) (fun X => @f17 X k0) (fun X => @f16 X k0) (fun X => @f22 X k0) (fun X => @f18 X k0) (fun X => @f12 X k0) (fun X => @f11 X k0) (fun X => @f23 X k0) k0 K rec ((s : Int), (N : Int), C.length, g, D.length, (C.length : Int), (i : Int), by8 C, by8 D, D.length, (z : Int), W.length, (t : Int), l, d, by8 D, by64 W) (want, D.length, (z : Int), W.length, (t : Int), l, d, by8 D, by64 W) = K true := fun want hw => by
      unfold f6_J2
      simp only [dec0, grd_true, decLt, hDi, decide_true, Int.toNat_natCast, Nat.zero_add, by8_get, List.getElem?_eq_getElem hDi, Option.map_some, Option.bind_some, isI_int, toI_int, hw, bne_self_eq_false, cond_false]
      rw [wrap64_s (by omega)]
      exact hr
    refine (sector_eq _ (z : Int) l D W t d).trans ?_
    have ew : IntKind.wrap .i64 ((i : Int) - IntKind.wrap .i64 ((s : Int) * (z : Int))) = (i : Int) - ((s * z : Nat) : Int) := by
      have e : (s : Int) * (z : Int) = ((s * z : Nat) : Int) := by simp
      rw [e, wrap64N (by omega), wrap64 (by omega) (by omega)]
    simp only [fl, ew]
    rw [List.getElem?_eq_getElem hDi] at hget
    by_cases h1 : (i : Int) - ((s * z : Nat) : Int) ≥ 0
    · refine (bifT (decide_eq_true h1)).trans ?_
      refine (sector_eq _ (z : Int) l D W t d).trans ?_
      simp only [fl]
      by_cases h2 : (i : Int) - ((s * z : Nat) : Int) < (z : Int)
      · refine (bifT (decide_eq_true h2)).trans ?_
        by_cases h3 : (i : Int) - ((s * z : Nat) : Int) < (N : Int)
        · refine (bifT (decide_eq_true h3)).trans ?_
          refine J 255 ?_
          rw [if_pos ⟨by rw [List.length_replicate]; omega, hg0⟩, List.getElem?_replicate, if_pos (by omega)] at hget
          exact Option.some.inj hget
        · refine (bifF (decide_eq_false h3)).trans ?_
          refine J _ ?_
          rw [if_neg (fun q => h3 q.1.2.2.1), List.getElem?_eq_getElem hi] at hget
          exact Option.some.inj hget
      · refine (bifF (decide_eq_false h2)).trans ?_
        refine J _ ?_
        rw [if_neg (fun q => h2 (by have := q.1.2.1; rw [List.length_replicate] at this; exact this)), List.getElem?_eq_getElem hi] at hget
        exact Option.some.inj hget
    · refine (bifF (decide_eq_false h1)).trans ?_
      refine J _ ?_
      rw [if_neg (fun q => h1 (by have := q.1.1; omega)), List.getElem?_eq_getElem hi] at hget
      exact Option.some.inj hget
  · unfold f6_L2 f6_T2
    simp only [decLt, Nat.lt_irrefl, decide_false, cond_false]
    refine (sector_eq _ (z : Int) l D W t d).trans ?_
    simp only [fl]
    have e : ((g == 30) == decide ((N : Int) < (z : Int))) = true := by
      rcases hg0 with rfl | rfl
      · have : ¬ N < z := fun h => absurd (hg.2 h) (by decide)
        rw [decide_eq_false (by omega)]; rfl
      · have := hg.1 rfl
        rw [decide_eq_true (by omega)]; rfl
    rw [e]
    refine (wear_eq _ s (z : Int) l D W t d hs).trans ?_
    rw [hW]
    rfl
theorem cuts_eq {k : Nat} (K : Bool → Option X) (hk : 400000 < k) (x at_ so no : Int) (ws xs : List Int) (hat : at_ < 9223372036854775808) : f6 k K x (by8 ws) at_ (by8 xs) so no = K true := by
  have h2 := zN_b x
  have hb := sz_b 4 x
  unfold f6 f6_A f6_T
  refine (alive_eq _ hk).trans ?_
  simp only [Bool.not_true, cond_false, by8_length, bif_dec]
  split
  · rfl
  split
  · rfl
  split
  · rfl
  rename_i hx hxs hws
  obtain ⟨N, hN, eN⟩ := maskN no 7 (by decide)
  obtain ⟨s, hs, es⟩ := maskN so 2 (by decide)
  have eN' : bop .and .i64 no 127 = (N : Int) := eN
  have es' : bop .and .i64 so 3 = (s : Int) := es
  refine (new_eq _ hk 4 x).trans ?_
  have hlen : (List.replicate (sN 4 * zN x) (255 : Int)).length = sN 4 * zN x := by simp
  have h4 : sN 4 = 4 := by decide
  have hW : (List.replicate (sN 4) (0 : Int)).length = 4 := by simp [h4]
  have hW0 : ∀ h : s < (List.replicate (sN 4) (0 : Int)).length, (List.replicate (sN 4) (0 : Int))[s] = 0 := fun h => by simp
  have hWD : (List.replicate (sN 4) (0 : Int)).getD s 0 = 0 := by
    rw [List.getD_eq_getElem?_getD, List.getElem?_replicate]; split <;> rfl
  generalize List.replicate (sN 4 * zN x) (255 : Int) = B at hlen ⊢
  generalize hWd : List.replicate (sN 4) (0 : Int) = W at hW hW0 hWD ⊢
  have hWl : sN 4 = W.length := by rw [hW, h4]
  simp only []
  rw [← hlen, hWl]
  refine (load_eq _ ws _ (-1) B W 0 false).trans ?_
  have hBl := laid_len B ws
  generalize laid B ws = C at hBl ⊢
  simp only [eN']
  refine (image_eq _ _ (-1) C W 0 false (by omega)).trans ?_
  simp only []
  refine (cut_eq _ (N : Int) _ (-1) C W 0 false).trans ?_
  rw [if_neg (by omega)]
  simp only [fl]
  obtain ⟨D, e, l', t', d, hM, ht', hP⟩ := prog_made (k := k) at_ xs (zN x : Int) C W 0 N (by omega) (by omega) (by omega) (by simpa using hN)
  refine (hP _ _).trans ?_
  simp only [fl]
  have hDl := hM.len
  refine (image_eq _ _ l' D W t' d (by omega)).trans ?_
  simp only []
  refine Eq.trans ?_ (iterV_spec (T := f6_L1 (fun X => @f7 X k) (fun X => @f8 X k) (fun X => @f21 X k) (fun X => @f14 X k) (fun X => @f17 X k) (fun X => @f16 X k) (fun X => @f22 X k) (fun X => @f18 X k) (fun X => @f12 X k) (fun X => @f11 X k) (fun X => @f23 X k) k K) (fun i => (at_, by8 xs, so, (N : Int), C.length, e, D.length, (C.length : Int), (i : Int), by8 C, by8 D, D.length, ((zN x : Nat) : Int), W.length, (t' : Int), l', d, by8 D, by64 W)) (fun _ => K true) C.length (fun i rec hi hr => ?_) (fun rec => ?_) k 0 (Nat.zero_le _) (by omega))
  · rfl
  · unfold f6_L1 f6_T1
    have hDi : i < D.length := by omega
    have hget := hM.get i hi
    rw [List.getElem?_eq_getElem hDi] at hget
    simp only [decLt, decide_eq_true hi, cond_true, dec0, grd_true, Int.toNat_natCast, Nat.zero_add, by8_get, List.getElem?_eq_getElem hi, Option.map_some, Option.bind_some, isI_int, toI_int, hi, decide_true, by8_length]
    have J : ∀ want : Int, D[i] = want → f6_J1 (fun X => @f7 X k) (fun X => @f8 X k) (fun X => @f21 X k) (fun X => @f14 X k) (fun X => @f17 X k) (fun X => @f16 X k) (fun X => @f22 X k) (fun X => @f18 X k) (fun X => @f12 X k) (fun X => @f11 X k) (fun X => @f23 X k) k K rec (at_, by8 xs, so, (N : Int), C.length, e, D.length, (C.length : Int), (i : Int), by8 C, by8 D, D.length, ((zN x : Nat) : Int), W.length, (t' : Int), l', d, by8 D, by64 W) want = K true := fun want hw => by
      unfold f6_J1
      simp only [dec0, grd_true, decLt, hDi, decide_true, Int.toNat_natCast, Nat.zero_add, by8_get, List.getElem?_eq_getElem hDi, Option.map_some, Option.bind_some, isI_int, toI_int, hw, bne_self_eq_false, cond_false]
      rw [wrap64_s (by omega)]
      exact hr
    have Jn : ¬ ((at_ ≤ i ∧ (i : Int) - at_ < xs.length ∧ (i : Int) - at_ < N ∧ 0 ≤ at_) ∧ (e = 0 ∨ e = 30)) → D[i] = C[i] := fun hn => by
      rw [if_neg hn, List.getElem?_eq_getElem hi] at hget
      exact Option.some.inj hget
    by_cases h0 : at_ ≥ 0
    · rw [decide_eq_true h0]
      simp only [cond_true]
      rw [wrap64 (by omega) (by omega)]
      by_cases h1 : (i : Int) - at_ ≥ 0
      · rw [decide_eq_true h1]
        simp only [cond_true]
        by_cases h3 : (i : Int) - at_ < (xs.length : Int)
        · rw [decide_eq_true h3]
          simp only [cond_true]
          by_cases h5 : (i : Int) - at_ < (N : Int)
          · rw [decide_eq_true h5]
            simp only [cond_true]
            have hix : ((i : Int) - at_).toNat < xs.length := by omega
            have hpos : (e = 0 ∨ e = 30) → D[i] = xs[((i : Int) - at_).toNat] := fun he => by
              rw [if_pos ⟨⟨by omega, h3, h5, h0⟩, he⟩, List.getElem?_eq_getElem hix] at hget
              exact Option.some.inj hget
            by_cases e0 : e = 0
            · rw [show (e == 0) = true by simp [e0]]
              simp only [cond_true, List.getElem?_eq_getElem hix, Option.map_some, Option.bind_some, isI_int, grd_true, toI_int]
              exact J _ (hpos (.inl e0))
            · rw [show (e == 0) = false from beq_f e0]
              simp only [cond_false]
              by_cases e30 : e = 30
              · rw [show (e == 30) = true by simp [e30]]
                simp only [cond_true, List.getElem?_eq_getElem hix, Option.map_some, Option.bind_some, isI_int, grd_true, toI_int]
                exact J _ (hpos (.inr e30))
              · rw [show (e == 30) = false from beq_f e30]
                simp only [cond_false]
                exact J _ (Jn fun q => q.2.elim e0 e30)
          · rw [decide_eq_false h5]
            simp only [cond_false]
            exact J _ (Jn fun q => h5 q.1.2.2.1)
        · rw [decide_eq_false h3]
          simp only [cond_false]
          exact J _ (Jn fun q => h3 q.1.2.1)
      · rw [decide_eq_false h1]
        simp only [cond_false]
        exact J _ (Jn fun q => h1 (by have := q.1.1; omega))
    · rw [decide_eq_false h0]
      simp only [cond_false]
      exact J _ (Jn fun q => h0 q.1.2.2.2)
  · unfold f6_L1 f6_T1
    simp only [decLt, Nat.lt_irrefl, decide_false, cond_false, es']
    refine (down_eq _ _ l' D W t' d).trans ?_
    simp only [fl]
    rw [show (!((e == 30) == d)) = false by rw [hM.down]; cases (e == 30) <;> rfl]
    simp only [cond_false]
    refine (restore_eq _ _ l' D W t' d).trans ?_
    simp only []
    refine (cut_eq _ (N : Int) _ (-1) D W t' false).trans ?_
    rw [if_neg (by omega)]
    simp only [fl]
    have hs4 : s < 4 := by simpa using hs
    have hsW : s < W.length := by omega
    have hmul : s * zN x + zN x ≤ D.length := by
      have : (s + 1) * zN x ≤ 4 * zN x := Nat.mul_le_mul_right _ hs4
      rw [Nat.succ_mul] at this
      rw [hDl, hBl, hlen, h4]
      exact this
    have hN9 : (N : Int) < 9223372036854775808 := by
      have : N < 128 := by simpa using hN
      omega
    refine (erase_eq _ (by omega) (s : Int) (N : Int) D W (zN x) t' (by rw [hDl, hBl, hlen, hW, h4]) (by omega) (by omega) ht' hN9).trans ?_
    rw [if_neg (by omega), Int.toNat_natCast]
    obtain ⟨F, g, l2, t2, d2, hE, hM2, hg, hg0, ht2⟩ := endR_made D (s * zN x) (List.replicate (zN x) 255) (zN x : Int) (W.set s (wmin (W.getD s 0))) t' N (by rw [List.length_replicate]; exact hmul)
    rw [hE]
    simp only [fl]
    have hF := hM2.len
    refine (image_eq _ _ l2 F _ t2 d2 (by omega)).trans ?_
    simp only []
    rw [List.length_replicate] at hg
    have hWs : (W.set s (wmin (W.getD s 0)))[s]'(by rw [List.length_set]; exact hsW) = 1 := by
      rw [List.getElem_set_self, hWD]; decide
    have := cuts_two (k0 := k) K (by omega) D F (W.set s (wmin (W.getD s 0))) s (zN x) N g l2 t2 d2 hM2 hg hg0 hmul (by omega) (by rw [List.length_set]; exact hsW) hWs
    exact this
theorem law_cuts (x0 : Int) (_ : (Lit.int .i64 x0).wf = true) (x1 : List Int) (_ : x1.length ≤ maxLen ∧ ∀ y ∈ x1, (Lit.int .u8 y).wf = true) (x2 : Int) (w2 : (Lit.int .i64 x2).wf = true) (x3 : List Int) (_ : x3.length ≤ maxLen ∧ ∀ y ∈ x3, (Lit.int .u8 y).wf = true) (x4 : Int) (_ : (Lit.int .i64 x4).wf = true) (x5 : Int) (_ : (Lit.int .i64 x5).wf = true) :
    ∃ k, ∀ K : Bool → Option Out, f6 k K x0 (x1.map fun y => .int .u8 y) x2 (x3.map fun y => .int .u8 y) x4 x5 = K true := ⟨400001, fun K => cuts_eq K (by omega) x0 x2 x4 x5 x1 x3 (wf64 w2).2⟩
end
end Go.Proofs.YtpdeankgekknaaaD
