/- A body in blocks, each in a message, put together again: the law. -/
import Derived.Test.YtglpldigkhhddaaW2
namespace Go.Proofs.YtglpldigkhhddaaD
open Go Go.Proofs.YtglpldigkhhddaaS Go.Proofs
set_option linter.unusedVariables false
set_option linter.unusedSimpArgs false
section
variable {X : Type}
set_option maxRecDepth 100000 in
theorem sound_eq {k : Nat} (K : Bool → Option X) (hk : 100 < k) : f4 k K = K true := by
  obtain ⟨k, rfl⟩ : ∃ j, k = j + 60 := ⟨k - 60, by omega⟩
  clear hk
  kernel_rfl
set_option maxRecDepth 100000 in
theorem addOpt_eq {k : Nat} (K : Nat × List CV → Option X) (hk : 100 < k) (v : List Int) (hv : v.length ≤ 8) : f8 k K (ops [(11, [53])]) 27 (by8 v) = K (2, ops [(11, [53]), (27, v)]) := by
  obtain ⟨k, rfl⟩ : ∃ j, k = j + 60 := ⟨k - 60, by omega⟩
  clear hk
  have e : f8 (k + 60) K (ops [(11, [53])]) 27 (by8 v) = grd (decide ((0 + List.length (by8 v)) * 1 ≤ 140737488355328)) (K (2, [opv (11, [53]), .agg [.int .i64 27, .slc none (List.take (List.length (by8 v)) (List.drop 0 (by8 v)))]])) := by kernel_rfl
  rw [e, grdT (decide_eq_true (by rw [by8_length]; omega)), List.drop_zero, List.take_length]; rfl
set_option maxRecDepth 100000 in
theorem getOpt_eq {k : Nat} (K : List CV × Bool → Option X) (hk : 100 < k) (v : List Int) (hv : v.length ≤ 8) : f11 k K (ops [(11, [53]), (27, v)]) 27 = K (by8 v, true) := by
  obtain ⟨k, rfl⟩ : ∃ j, k = j + 60 := ⟨k - 60, by omega⟩
  clear hk
  have e : f11 (k + 60) K (ops [(11, [53]), (27, v)]) 27 = grd (decide ((0 + List.length (by8 v)) * 1 ≤ 140737488355328)) (K (List.take (List.length (by8 v)) (List.drop 0 (by8 v)), true)) := by kernel_rfl
  rw [e, grdT (decide_eq_true (by rw [by8_length]; omega)), List.drop_zero, List.take_length]
def mo (q : Int) (tok v data : List Int) : Ms := ⟨0, 3, q, tok, [(11, [53]), (27, v)], data⟩
theorem mo_flt (v : List Int) (hv : v.length ≤ 8) : flt [(11, [53]), (27, v)] = 0 := by
  have : qF (27, v) = false := decide_eq_false (by show ¬ 300 < v.length; omega)
  unfold flt
  rw [show decide (24 < ([(11, [53]), (27, v)] : List Op).length) = false from rfl, show ([(11, [53]), (27, v)] : List Op).any pF = false from rfl]
  rw [show ([(11, [53]), (27, v)] : List Op).any qF = (false || (qF (27, v) || false)) from rfl, this]; rfl
theorem mo_sort (v : List Int) : isort [(11, [53]), (27, v)] = [(11, [53]), (27, v)] := rfl
theorem mo_ok (q : Nat) (tok v data : List Int) (hq : q ≤ 65535) (ht : tok.length ≤ 8) (hv : v.length ≤ 8) (hd : data.length ≤ 1200) : (msgW (mo q tok v data)).1 = 0 := by
  have h1 : ¬ Bad (mo q tok v data) := by
    unfold Bad mo
    dsimp only
    rintro (h | h | h | h | h | h | h | h)
    · omega
    · omega
    · omega
    · omega
    · exact absurd h (by decide)
    · omega
    · omega
    · exact absurd h.1 (by decide)
  have h2 : ¬ Long (mo q tok v data) := by unfold Long mo; dsimp only; omega
  unfold msgW
  rw [if_neg h1, if_neg h2]
  have e : optW (mo q tok v data).opts = (0, enc 0 (isort (mo q tok v data).opts)) := by
    unfold optW
    rw [show flt (mo q tok v data).opts = 0 from mo_flt v hv]; rfl
  rw [e]; rfl
theorem pw_z (s : Nat) (h : s ≤ 6) : Blk.pw ((16 * 2 ^ s : Nat) : Int) = s := by
  match s, h with
  | 0, _ => rfl
  | 1, _ => rfl
  | 2, _ => rfl
  | 3, _ => rfl
  | 4, _ => rfl
  | 5, _ => rfl
  | 6, _ => rfl
theorem rd_wr (q s : Nat) (m : Bool) (hs : s ≤ 6) (hq : q ≤ 1048575) : Blk.rd (Blk.be (Blk.wnum q m ((16 * 2 ^ s : Nat) : Int))) = (Blk.blk q m ((16 * 2 ^ s : Nat) : Int), 0) ∧ (Blk.be (Blk.wnum q m ((16 * 2 ^ s : Nat) : Int))).length ≤ 3 := by
  have hn : Blk.wnum q m ((16 * 2 ^ s : Nat) : Int) = q * 16 + s + (if m = true then 8 else 0) := by
    unfold Blk.wnum
    rw [pw_z s hs]; rfl
  have hlt : Blk.wnum q m ((16 * 2 ^ s : Nat) : Int) < 16777216 := by rw [hn]; split <;> omega
  have hl := Blk.be_len_le 3 _ (show Blk.wnum q m ((16 * 2 ^ s : Nat) : Int) < 256 ^ 3 from hlt)
  refine ⟨?_, hl⟩
  unfold Blk.rd
  rw [Blk.numN_be _ (by omega), hn]
  cases m with
  | true =>
    rw [if_pos rfl] at hn ⊢
    rw [if_neg (by rw [hn] at hl; omega)]
    rw [show (q * 16 + s + 8) / 16 = q from by omega, show (q * 16 + s + 8) / 8 % 2 = 1 from by omega, show (q * 16 + s + 8) % 8 = s from by omega]; rfl
  | false =>
    rw [if_neg (show ¬ (false = true) from by decide)] at hn ⊢
    rw [if_neg (by rw [hn] at hl; omega)]
    rw [show (q * 16 + s + 0) / 16 = q from by omega, show (q * 16 + s + 0) / 8 % 2 = 0 from by omega, show (q * 16 + s + 0) % 8 = s from by omega]; rfl
theorem wb_loop {k0 : Nat} (K : Bool → Option X) (hk : 2000000 < k0) (body tok : List Int) (hb : body.length ≤ 3000) (ht : tok.length ≤ 8) (bb : Byt body) (bt : Byt tok) (s : Nat) (hs : s ≤ 6) : ∀ (k q : Nat) (on : Bool), body.length + 1 - q * (16 * 2 ^ s) < k → (q = 0 ∨ (on = true ∧ q * (16 * 2 ^ s) < body.length)) →
    iterV (f3_L1 (fun X => @f4 X k0) (fun X => @f5 X k0) (fun X => @f6 X k0) (fun X => @f7 X k0) (fun X => @f8 X k0) (fun X => @f9 X k0) (fun X => @f10 X k0) (fun X => @f11 X k0) (fun X => @f12 X k0) (fun X => @f13 X k0) (fun X => @f15 X k0) (fun X => @f14 X k0) k0 K) k (by8 body, by8 tok, ((16 * 2 ^ s : Nat) : Int), (q : Int), (body.length : Int), (body.take (q * (16 * 2 ^ s))).length, on, by8 (body.take (q * (16 * 2 ^ s)))) = K true
  | 0, q, on, h, hq => by
    rcases hq with hq | hq <;> omega
  | k + 1, q, on, h, hq => by
    obtain ⟨z1, z2⟩ := Blk.sz hs
    refine (iterV_one _ _ _).trans ?_
    have ih := wb_loop K hk body tok hb ht bb bt s hs k (q + 1) true
    generalize iterV (f3_L1 (fun X => @f4 X k0) (fun X => @f5 X k0) (fun X => @f6 X k0) (fun X => @f7 X k0) (fun X => @f8 X k0) (fun X => @f9 X k0) (fun X => @f10 X k0) (fun X => @f11 X k0) (fun X => @f12 X k0) (fun X => @f13 X k0) (fun X => @f15 X k0) (fun X => @f14 X k0) k0 K) k = rec at ih ⊢
    unfold f3_L1 f3_T1
    dsimp only
    have hq' : q * (16 * 2 ^ s) < body.length ∨ q = 0 := by rcases hq with hq | hq; exact .inr hq; exact .inl hq.2
    obtain ⟨hR, hc, hp⟩ := Blk.put_step body (by omega) q s hs hq'
    have hqs : q * 16 ≤ q * (16 * 2 ^ s) := Nat.mul_le_mul_left _ z1
    have hq3 : q ≤ 3000 := by rcases hq' with h | h <;> omega
    have hpl : (Blk.part body q ((16 * 2 ^ s : Nat) : Int)).length ≤ 1024 := by
      unfold Blk.part
      rw [List.length_take]
      show min ((16 * 2 ^ s : Nat) : Int).toNat _ ≤ 1024
      rw [Int.toNat_natCast]; omega
    have hpb : Byt (Blk.part body q ((16 * 2 ^ s : Nat) : Int)) := (bb.drop _).take _
    have hm : q * (16 * 2 ^ s) + 16 * 2 ^ s = (q + 1) * (16 * 2 ^ s) := (Nat.succ_mul q (16 * 2 ^ s)).symm
    refine (Blk.cut_eq _ (by omega) body (by omega) _ _).trans ?_
    rw [hc]
    refine (bifF rfl).trans ?_
    refine (Blk.write_eq _ (by omega) (q : Int) ((16 * 2 ^ s : Nat) : Int) (decide (q * (16 * 2 ^ s) + 16 * 2 ^ s < body.length))).trans ?_
    obtain ⟨hrd, hvl⟩ := rd_wr q s (decide (q * (16 * 2 ^ s) + 16 * 2 ^ s < body.length)) hs (by omega)
    have hwr : Blk.wr (q : Int) (decide (q * (16 * 2 ^ s) + 16 * 2 ^ s < body.length)) ((16 * 2 ^ s : Nat) : Int) = _ := if_pos hR
    rw [hwr]
    have hvb := Blk.be_byt (Blk.wnum q (decide (q * (16 * 2 ^ s) + 16 * 2 ^ s < body.length)) ((16 * 2 ^ s : Nat) : Int))
    generalize Blk.be (Blk.wnum q (decide (q * (16 * 2 ^ s) + 16 * 2 ^ s < body.length)) ((16 * 2 ^ s : Nat) : Int)) = v at hrd hvl hvb ⊢
    dsimp only
    rw [d8, d8]
    generalize hdat : Blk.part body q ((16 * 2 ^ s : Nat) : Int) = data at hp hpl hpb ⊢
    generalize hmore : decide (q * (16 * 2 ^ s) + 16 * 2 ^ s < body.length) = more at hp hrd ⊢
    refine (addOpt_eq _ (by omega) v (by omega)).trans ?_
    dsimp only
    rw [show List.take 2 (List.drop 0 (ops [(11, [53]), (27, v)])) = ops [(11, [53]), (27, v)] from rfl]
    have hw := mo_ok q tok v data (by omega) ht (by omega) (by omega)
    refine (write_eq _ (mo q tok v data) (by omega) (by show 2 < 1000; omega)).trans ?_
    unfold Res
    dsimp only
    rw [d8]
    have hbm : BytM (mo q tok v data) := ⟨bt, hpb, fun o ho => by
      simp only [mo, List.mem_cons, List.not_mem_nil, or_false] at ho
      rcases ho with rfl | rfl
      · exact Byt.cons (by omega) Byt.nil
      · exact hvb⟩
    have hby := msgW_byt hbm hw
    have hml := msgW_len (mo q tok v data)
    refine (read_eq _ _ hby (by omega) (by omega)).trans ?_
    rw [back (by omega) hw, hw, show sortM (mo q tok v data) = mo q tok v data from rfl]
    unfold ResR
    dsimp only
    rw [show List.take (mo q tok v data).opts.length (List.drop 0 (ops (mo q tok v data).opts)) = ops [(11, [53]), (27, v)] from rfl]
    refine (getOpt_eq _ (by omega) v (by omega)).trans ?_
    dsimp only
    refine (Blk.read_eq _ (by omega) v hvb).trans ?_
    rw [hrd]
    refine (grdT rfl).trans ?_
    refine (grdT rfl).trans ?_
    refine (grdT rfl).trans ?_
    refine (grdT rfl).trans ?_
    refine (bifF rfl).trans ?_
    refine (bifF rfl).trans ?_
    refine (bifF rfl).trans ?_
    refine (bifF rfl).trans ?_
    refine (bifF rfl).trans ?_
    rw [show List.take (mo q tok v data).body.length (List.drop 0 (by8 (mo q tok v data).body)) = by8 data from d8 data]
    have hput := Blk.put_eq (k := k0) (X := X)
    refine (hput _ (by omega) (body.length : Int) on (body.take (q * (16 * 2 ^ s))) data (q : Int) ((16 * 2 ^ s : Nat) : Int) more ⟨by omega, by omega⟩ (by rw [List.length_take]; omega)).trans ?_
    have hpp : Blk.put (body.length : Int) on (body.take (q * (16 * 2 ^ s))) (q : Int) more ((16 * 2 ^ s : Nat) : Int) data = (!more, 0, more, body.take (q * (16 * 2 ^ s) + 16 * 2 ^ s)) := by
      unfold Blk.put
      rcases hq with hq | hq
      · subst hq
        rw [if_pos (show ((0 : Nat) : Int) = 0 from rfl)]
        rw [Nat.zero_mul, List.take_zero] at hp
        rw [Nat.zero_mul]
        exact hp
      · split
        · next h0 =>
          have : q = 0 := by omega
          subst this
          rw [Nat.zero_mul, List.take_zero] at hp
          rw [Nat.zero_mul]
          exact hp
        · rw [hq.1]; exact hp
    rw [hpp]
    refine (bifF rfl).trans ?_
    refine (bifF (by show ((!more) == more) = false; cases more <;> rfl)).trans ?_
    dsimp only
    cases more with
    | true =>
      refine (bifF rfl).trans ?_
      have hlt := of_decide_eq_true hmore
      rw [wrap64_s (by omega), hm]
      rw [hm] at hlt
      exact ih (by rw [← hm]; omega) (.inr ⟨rfl, hlt⟩)
    | false =>
      have hge := of_decide_eq_false hmore
      rw [List.take_of_length_le (by omega)]
      refine (bifT rfl).trans ?_
      refine (Blk.bytes_eq _ _ false body (by omega)).trans ?_
      dsimp only
      rw [d8]
      refine (same_eq _ body body (by omega) (by omega)).trans ?_
      rw [decide_eq_true rfl]
theorem wb_eq {k : Nat} (K : Bool → Option X) (hk : 2000000 < k) (body tok : List Int) (x : Int) (bb : Byt body) (bt : Byt tok) : f3 k K (by8 body) x (by8 tok) = K true := by
  unfold f3 f3_A f3_T
  refine (sound_eq _ (by omega)).trans ?_
  refine (bifF rfl).trans ?_
  rw [by8_length, by8_length]
  by_cases h1 : (body.length : Int) > 3000
  · exact bifT (decide_eq_true h1)
  refine (bifF (decide_eq_false h1)).trans ?_
  by_cases h2 : (tok.length : Int) > 8
  · exact bifT (decide_eq_true h2)
  refine (bifF (decide_eq_false h2)).trans ?_
  obtain ⟨r, hr, er⟩ := Blk.masked x 7 (by decide)
  rw [show ((7 : Nat) : Int) = 7 from rfl] at er
  rw [er]
  refine (grdT (dec0 r)).trans ?_
  rw [Int.toNat_natCast, Blk.sh16 r (by omega)]
  refine (Blk.new_eq _ _).trans ?_
  rw [show Blk.mst (body.length : Int) = (body.length : Int) from by unfold Blk.mst; rw [if_neg (by omega), if_neg (by omega)]]
  have := wb_loop (k0 := k) K hk body tok (by omega) (by omega) bb bt r (by omega) k 0 false (by omega) (.inl rfl)
  rw [Nat.zero_mul, List.take_zero] at this
  exact this
theorem law_blocks (x0 : List Int) (w0 : x0.length ≤ maxLen ∧ ∀ y ∈ x0, (Lit.int .u8 y).wf = true) (x1 : Int) (_ : (Lit.int .i64 x1).wf = true) (x2 : List Int) (w2 : x2.length ≤ maxLen ∧ ∀ y ∈ x2, (Lit.int .u8 y).wf = true) : ∃ k, ∀ K : Bool → Option Out, f3 k K (x0.map fun y => .int .u8 y) x1 (x2.map fun y => .int .u8 y) = K true :=
  ⟨3000000, fun K => wb_eq K (by omega) x0 x2 x1 (wfByt w0.2) (wfByt w2.2)⟩
end
end Go.Proofs.YtglpldigkhhddaaD
