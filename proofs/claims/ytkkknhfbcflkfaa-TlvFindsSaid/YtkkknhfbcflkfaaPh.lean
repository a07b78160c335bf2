/- Bytes as lists: the document's answer. -/
import Derived.Test.YtkkknhfbcflkfaaPg
namespace Go.Proofs.YtkkknhfbcflkfaaD
open Go Go.Proofs.YtkkknhfbcflkfaaS Go.Proofs
set_option linter.unusedVariables false
set_option linter.unusedSimpArgs false
section
variable {X : Type}
abbrev Rm (k : Nat) : f39_R := fun X => @f39 X k
abbrev Rc (k : Nat) : f22_R := fun X => @f22 X k
abbrev Rr (k : Nat) : f29_R := f29_r k
abbrev S1T : Type := List CV × Int × Int × Nat × Int × List CV
theorem num_succ {bs : List Int} {i : Nat} (hb : Byt bs) (h : i < bs.length) (h3 : bs.length ≤ 3) : IntKind.wrap .i64 (IntKind.wrap .i64 (num (bs.take i) * 256) + IntKind.wrap .i64 bs[i]) = num (bs.take (i + 1)) := by
  have h1 := hb bs[i] (List.getElem_mem h)
  have h2 := num_bnd (hb.take i) (by rw [List.length_take]; omega)
  rw [wrap64 (n := num (bs.take i) * 256) (by omega) (by omega), wrap64 (n := bs[i]) (by omega) (by omega), wrap64 (by omega) (by omega)]
  unfold num
  rw [numN_take h]
  omega
theorem drop_get (b : List Int) (a i : Nat) {m : Nat} (h : i < ((b.drop a).take m).length) : (by8 b)[a + i]? = some (.int .u8 ((b.drop a).take m)[i]) := by
  rw [by8_get, List.getElem_take, List.getElem_drop]
  rw [List.getElem?_eq_getElem (by rw [List.length_take, List.length_drop] at h; omega)]
  rfl
theorem lens_loop {k : Nat} (K : Nat × Int × Int × List CV → Option X) (rec : S1T → Option X) (b : List Int) (hb : Byt b) (p cnt : Int) (A : List CV) (a m : Nat) (kd id : Int) (hm : m ≤ 3) (ham : a + m ≤ b.length) (hl : b.length ≤ 100000000000) (hk : 100 < k) :
    iterV (f29_L3 (Rm k) (Rc k) (Rr k) k K rec) k (by8 b, p, cnt, A.length, (a : Int), (m : Int), 0, 0, A, kd, id) = f29_T3 (Rm k) (Rc k) (Rr k) k K rec (fun _ => none) (by8 b, p, cnt, A.length, ((a + m : Nat) : Int), (m : Int), num ((b.drop a).take m), (m : Int), A, kd, id) := by
  have hbl : ((b.drop a).take m).length = m := by rw [List.length_take, List.length_drop]; omega
  have hbb : Byt ((b.drop a).take m) := (hb.drop a).take m
  refine (iterV_spec (T := f29_L3 (Rm k) (Rc k) (Rr k) k K rec) (fun i => (by8 b, p, cnt, A.length, ((a + i : Nat) : Int), (m : Int), num (((b.drop a).take m).take i), (i : Int), A, kd, id)) (fun _ => f29_T3 (Rm k) (Rc k) (Rr k) k K rec (fun _ => none) (by8 b, p, cnt, A.length, ((a + m : Nat) : Int), (m : Int), num ((b.drop a).take m), (m : Int), A, kd, id)) m (fun i rec3 hi hr => ?_) (fun rec3 => ?_) k 0 (Nat.zero_le _) (by omega))
  · unfold f29_L3
    conv => lhs; unfold f29_T3
    dsimp only
    refine (bifT (decide_eq_true (by omega))).trans ?_
    refine (grdT (dec0 _)).trans ?_
    rw [Int.toNat_natCast]
    refine (bAt (drop_get b a i (m := m) (by omega)) _).trans ?_
    refine (grdT rfl).trans ?_
    rw [wrap64_n (by omega), wrap64_n (by omega)]
    have e := num_succ (bs := (b.drop a).take m) (i := i) hbb (by omega) (by omega)
    refine Eq.trans ?_ hr
    exact congrArg rec3 (by rw [← e]; rfl)
  · unfold f29_L3
    rw [show ((b.drop a).take m).take m = (b.drop a).take m from List.take_of_length_le (by omega)]
    conv => lhs; unfold f29_T3
    conv => rhs; unfold f29_T3
    dsimp only
    exact (bifF (decide_eq_false (by omega))).trans (bifF (decide_eq_false (by omega))).symm
theorem lens_none {k : Nat} (K : Nat × Int × Int × List CV → Option X) (rec : S1T → Option X) (R : List CV) (p cnt at' n : Int) (A : List CV) (kd id : Int) (hk : 0 < k) :
    iterV (f29_L3 (Rm k) (Rc k) (Rr k) k K rec) k (R, p, cnt, A.length, at', 0, n, 0, A, kd, id) = f29_T3 (Rm k) (Rc k) (Rr k) k K rec (fun _ => none) (R, p, cnt, A.length, at', 0, n, 0, A, kd, id) := by
  have key : ∀ j, 0 < j → iterV (f29_L3 (Rm k) (Rc k) (Rr k) k K rec) j (R, p, cnt, A.length, at', 0, n, 0, A, kd, id) = f29_T3 (Rm k) (Rc k) (Rr k) k K rec (fun _ => none) (R, p, cnt, A.length, at', 0, n, 0, A, kd, id) := fun j hj => by
    obtain ⟨j, rfl⟩ : ∃ i, j = i + 1 := ⟨j - 1, by omega⟩
    refine (iterV_one _ _ _).trans ?_
    unfold f29_L3
    conv => lhs; unfold f29_T3
    conv => rhs; unfold f29_T3
    dsimp only
    exact (bifF (decide_eq_false (by omega))).trans (bifF (decide_eq_false (by omega))).symm
  exact key k hk
theorem ids_loop {k : Nat} (K : Nat × Int × Int × List CV → Option X) (rec : S1T → Option X) (b : List Int) (hb : Byt b) (p cnt : Int) (A : List CV) (a m l : Nat) (first kd : Int) (hm : m ≤ 3) (ham : a + m ≤ b.length) (hl : b.length ≤ 100000000000) (hk : 100 < k) :
    iterV (f29_L2 (Rm k) (Rc k) (Rr k) k K rec) k (by8 b, p, cnt, A.length, (a : Int), first, (m : Int), (l : Int), 0, A, kd, 0) = iterV (f29_L3 (Rm k) (Rc k) (Rr k) k K rec) k (by8 b, p, cnt, A.length, ((a + m : Nat) : Int), (l : Int), (if l > 0 then 0 else Int.tmod first 8), 0, A, kd, num ((b.drop a).take m)) := by
  have hbl : ((b.drop a).take m).length = m := by rw [List.length_take, List.length_drop]; omega
  have hbb : Byt ((b.drop a).take m) := (hb.drop a).take m
  refine (iterV_spec (T := f29_L2 (Rm k) (Rc k) (Rr k) k K rec) (fun i => (by8 b, p, cnt, A.length, ((a + i : Nat) : Int), first, (m : Int), (l : Int), (i : Int), A, kd, num (((b.drop a).take m).take i))) (fun _ => iterV (f29_L3 (Rm k) (Rc k) (Rr k) k K rec) k (by8 b, p, cnt, A.length, ((a + m : Nat) : Int), (l : Int), (if l > 0 then 0 else Int.tmod first 8), 0, A, kd, num ((b.drop a).take m))) m (fun i rec2 hi hr => ?_) (fun rec2 => ?_) k 0 (Nat.zero_le _) (by omega))
  · unfold f29_L2
    generalize iterV (f29_L3 (Rm k) (Rc k) (Rr k) k K rec) k = l3 at hr ⊢
    unfold f29_T2
    dsimp only
    refine (bifT (decide_eq_true (by omega))).trans ?_
    refine (grdT (dec0 _)).trans ?_
    rw [Int.toNat_natCast]
    refine (bAt (drop_get b a i (m := m) (by omega)) _).trans ?_
    refine (grdT rfl).trans ?_
    rw [wrap64_n (by omega), wrap64_n (by omega)]
    have e := num_succ (bs := (b.drop a).take m) (i := i) hbb (by omega) (by omega)
    refine Eq.trans ?_ hr
    exact congrArg rec2 (by rw [← e]; rfl)
  · unfold f29_L2
    rw [show ((b.drop a).take m).take m = (b.drop a).take m from List.take_of_length_le (by omega)]
    generalize iterV (f29_L3 (Rm k) (Rc k) (Rr k) k K rec) k = l3
    unfold f29_T2 f29_J2
    dsimp only
    refine (bifF (decide_eq_false (by omega))).trans ?_
    by_cases h : l > 0
    · rw [if_pos h]
      exact bifT (decide_eq_true (by omega))
    · rw [if_neg h]
      exact bifF (decide_eq_false (by omega))
/-- What is read behind what is there: as the document tells it. -/
def RKR (K : Nat × Int × Int × List CV → Option X) (A : List CV) (r : Int × Int × TS) : Option X := bif (r.1 != 0) then K (0, min (64 - r.2.1) 64, r.1, []) else K (A.length + r.2.2.len, 64 - r.2.1, 0, A ++ r.2.2.row)
theorem hold_kinds {c : Int} (hc : 0 ≤ c ∧ c < 256) : hold (c / 64) = true ∧ c / 64 ≠ 1 ∧ c / 64 ≠ 3 ∨ hold (c / 64) = false ∧ (c / 64 = 1 ∨ c / 64 = 3) := by
  have : c / 64 = 0 ∨ c / 64 = 1 ∨ c / 64 = 2 ∨ c / 64 = 3 := by omega
  rcases this with h | h | h | h <;> rw [h] <;> simp [hold]
theorem refread_loop : ∀ (f : Nat) (b : List Int) (a : Nat) (p cnt : Int) (A : List CV) (k kk : Nat) (K : Nat × Int × Int × List CV → Option X), (b.drop a).length < f → a ≤ b.length → b.length + 300 < k → (b.drop a).length < kk → Byt b → 0 ≤ cnt → cnt ≤ 64 → A.length + (b.length - a) ≤ 10000000000 ∧ b.length ≤ 10000000000 →
    iterV (f29_L1 (Rm k) (Rc k) (Rr k) k K) kk (by8 b, p, cnt, A.length, (a : Int), A) = RKR K A (rdT f (b.drop a) p (64 - cnt))
  | 0, b, a, p, cnt, A, k, kk, K, hf, _, _, _, _, _, _, _ => absurd hf (Nat.not_lt_zero _)
  | f + 1, b, a, p, cnt, A, k, kk, K, hf, hab, hk, hkk, hb, h0, h1, hA => by
    obtain ⟨hA, hB⟩ := hA
    obtain ⟨kk, rfl⟩ : ∃ j, kk = j + 1 := ⟨kk - 1, by omega⟩
    refine (iterV_one _ _ _).trans ?_
    rcases Nat.lt_or_ge a b.length with hal | hal
    · -- there is an item
      have hs : b.drop a = b[a] :: b.drop (a + 1) := List.drop_eq_getElem_cons hal
      generalize hcg : b[a] = c at hs
      generalize hsg : b.drop (a + 1) = s at hs
      have hsl : s.length = b.length - (a + 1) := by rw [← hsg, List.length_drop]
      rw [hs, rdT_cons]
      have hc : 0 ≤ c ∧ c < 256 := hcg ▸ hb _ (List.getElem_mem hal)
      have hcs : Byt (c :: s) := hs ▸ hb.drop a
      have hln := ln_bnd hcs
      obtain ⟨i1, i2, i3⟩ := ids_eq hc
      obtain ⟨l1, l2⟩ := lens_eq hc
      have ih := fun (a' : Nat) (cnt : Int) (A : List CV) => refread_loop f b a' p cnt A k kk K
      generalize hrec : iterV (f29_L1 (Rm k) (Rc k) (Rr k) k K) kk = rec at *
      unfold f29_L1
      have hid := fun (a' m l : Nat) (first kd : Int) => ids_loop (k := k) K rec b hb p cnt A a' m l first kd
      have hlen := fun (a' m : Nat) (kd id : Int) => lens_loop (k := k) K rec b hb p cnt A a' m kd id
      have hnon := fun (at' n kd id : Int) => lens_none (k := k) K rec (by8 b) p cnt at' n A kd id (by omega)
      generalize iterV (f29_L2 (Rm k) (Rc k) (Rr k) k K rec) k = lp2 at hid ⊢
      generalize iterV (f29_L3 (Rm k) (Rc k) (Rr k) k K rec) k = lp3 at hid hlen hnon
      conv => lhs; unfold f29_T1
      dsimp only
      refine (bifT (decide_eq_true (by rw [by8_length]; omega))).trans ?_
      refine (grdT (dec0 _)).trans ?_
      rw [Int.toNat_natCast]
      refine (bAt (c := .int .u8 c) (by rw [by8_get, List.getElem?_eq_getElem hal, hcg]; rfl) _).trans ?_
      refine (grdT rfl).trans ?_
      have hcc : CV.toI (CV.int .u8 c) = c := rfl
      rw [hcc, wrap64 (n := c) (by omega) (by omega), Int.tdiv_eq_ediv_of_nonneg hc.1, Int.tdiv_eq_ediv_of_nonneg hc.1, Int.tdiv_eq_ediv_of_nonneg hc.1, wrap64 (n := c / 64) (by omega) (by omega), wrap64 (n := c / 32) (by omega) (by omega), wrap64 (n := c / 8) (by omega) (by omega), Int.tmod_eq_emod_of_nonneg (by omega), Int.tmod_eq_emod_of_nonneg (by omega), wrap64 (n := 1 + c / 32 % 2) (by omega) (by omega), i1, l1]
      refine (may_eq _ (c / 64) p).trans ?_
      have hend : min (64 - (64 - cnt)) 64 = cnt := by omega
      cases q1 : inK (c / 64) p with
      | false =>
        rw [if_pos (.inl rfl)]
        refine (bifT rfl).trans ?_
        refine Eq.trans ?_ (bifT rfl).symm
        show K (0, cnt, 20, []) = K (0, min (64 - (64 - cnt)) 64, 20, [])
        rw [hend]
      | true =>
      refine (bifF rfl).trans ?_
      rw [by8_length, wrap64 (n := (b.length : Int) - a) (by omega) (by omega), wrap64 (n := (b.length : Int) - a - 1) (by omega) (by omega), wrap64 (n := (ids c : Int) + lens c) (by omega) (by omega)]
      by_cases q2 : s.length < ids c + lens c
      · rw [if_pos (.inr q2)]
        refine (bifT (decide_eq_true (by omega))).trans ?_
        refine Eq.trans ?_ (bifT rfl).symm
        show K (0, cnt, 20, []) = K (0, min (64 - (64 - cnt)) 64, 20, [])
        rw [hend]
      rw [if_neg (show ¬ (true = false ∨ s.length < ids c + lens c) from fun h => h.elim (fun h => by cases h) q2)]
      refine (bifF (decide_eq_false (by omega))).trans ?_
      rw [wrap64_n (by omega)]
      refine (hid (a + 1) (ids c) (lens c) c (c / 64) (by omega) (by omega) (by omega) (by omega)).trans ?_
      -- the length
      have hnlen : lp3 (by8 b, p, cnt, A.length, ((a + 1 + ids c : Nat) : Int), (lens c : Int), (if lens c > 0 then 0 else Int.tmod c 8), 0, A, c / 64, num ((b.drop (a + 1)).take (ids c))) =
          f29_T3 (Rm k) (Rc k) (Rr k) k K rec (fun _ => none) (by8 b, p, cnt, A.length, ((a + 1 + (ids c + lens c) : Nat) : Int), (lens c : Int), ln c s, (lens c : Int), A, c / 64, num (s.take (ids c))) := by
        rw [hsg]
        by_cases q : lens c > 0
        · rw [if_pos q, hlen (a + 1 + ids c) (lens c) (c / 64) _ (by omega) (by omega) (by omega) (by omega)]
          unfold ln
          rw [if_pos q, ← hsg, List.drop_drop, Nat.add_assoc (a + 1)]
        · have q0 : lens c = 0 := by omega
          rw [if_neg q, Int.tmod_eq_emod_of_nonneg hc.1]
          unfold ln
          rw [if_neg q, q0]
          exact hnon _ _ _ _
      rw [hnlen]
      conv => lhs; unfold f29_T3
      dsimp only
      refine (bifF (decide_eq_false (by omega))).trans ?_
      by_cases q3 : 64 - cnt - 1 < 0
      · rw [if_pos q3]
        have e : cnt = 64 := by omega
        refine (bifT (by rw [e]; rfl)).trans ?_
        refine Eq.trans ?_ (bifT rfl).symm
        show K (0, cnt, 3, []) = K (0, min (64 - (64 - cnt - 1)) 64, 3, [])
        rw [e]; rfl
      rw [if_neg q3]
      refine (bifF (by simp; omega)).trans ?_
      generalize hat : a + 1 + (ids c + lens c) = a2
      rw [by8_length, wrap64 (n := (b.length : Int) - a2) (by omega) (by omega), wrap64 (n := cnt + 1) (by omega) (by omega)]
      have hdr : s.drop (ids c + lens c) = b.drop a2 := by rw [← hsg, List.drop_drop, hat]
      rw [hdr]
      have hdl : (b.drop a2).length = b.length - a2 := List.length_drop
      by_cases q4 : ln c s > ((b.drop a2).length : Int)
      · rw [if_pos q4]
        refine (bifT (decide_eq_true (by omega))).trans ?_
        refine Eq.trans ?_ (bifT rfl).symm
        show K (0, cnt + 1, 20, []) = K (0, min (64 - (64 - cnt - 1)) 64, 20, [])
        rw [show min (64 - (64 - cnt - 1)) 64 = cnt + 1 by omega]
      rw [if_neg q4]
      refine (bifF (decide_eq_false (by omega))).trans ?_
      obtain ⟨m, hm⟩ : ∃ m : Nat, ln c s = m := ⟨(ln c s).toNat, by omega⟩
      rw [hm] at hln q4 ⊢
      rw [show ((a2 : Int) + (m : Int)) = ((a2 + m : Nat) : Int) by omega, wrap64 (n := ((a2 + m : Nat) : Int)) (by omega) (by omega)]
      refine (grdT (dec0 _)).trans ?_
      refine (grdT (decide_eq_true (by omega))).trans ?_
      refine (grdT (decide_eq_true (by omega))).trans ?_
      simp only [Int.toNat_natCast]
      rw [show a2 + m - a2 = m by omega, by8_drop, by8_take, List.drop_drop]
      have hbd : Byt ((b.drop a2).take m) := (hb.drop a2).take m
      -- behind an element
      have J : ∀ (v : List Int) (ks : TS) (n1 : Int) (V W : List CV) (lv lk : Nat), List.take lv (List.drop 0 V) = by8 v → List.take lk (List.drop 0 W) = ks.row → 0 ≤ n1 → n1 ≤ 64 →
          f29_J1 (Rm k) (Rc k) (Rr k) k K rec (by8 b, p, cnt, A.length, (a2 : Int), (lens c : Int), (m : Int), (lens c : Int), A, c / 64, num (s.take (ids c))) (64 - n1, lv, lk, V, W) =
            RKR K A (match rdT f (b.drop (a2 + m)) p n1 with
              | (e2, n2, r) => if e2 ≠ 0 then (e2, n2, .nil) else (0, n2, .cons (c / 64) (num (s.take (ids c))) v ks r)) := fun v ks n1 V W lv lk hV hW r0 r1 => by
        unfold f29_J1
        dsimp only
        rw [hV, hW, tk1, List.take_length]
        refine (grdT (decide_eq_true (by simp; omega))).trans ?_
        rw [show ((a2 : Int) + (m : Int)) = ((a2 + m : Nat) : Int) by omega, wrap64 (n := ((a2 + m : Nat) : Int)) (by omega) (by omega)]
        have hx := ih (a2 + m) (64 - n1) (A ++ [elv (c / 64) (num (s.take (ids c))) v ks]) (by rw [List.length_drop] at hf ⊢; omega) (by omega) (by omega) (by rw [List.length_drop] at hkk ⊢; omega) hb (by omega) (by omega) ⟨by rw [List.length_append, List.length_singleton]; omega, hB⟩
        rw [List.length_append, show (64 : Int) - (64 - n1) = n1 by omega] at hx
        refine Eq.trans ?_ (hx.trans ?_)
        · rfl
        unfold RKR
        generalize rdT f (b.drop (a2 + m)) p n1 = q
        obtain ⟨e2, n2, r⟩ := q
        dsimp only
        by_cases he : e2 = 0
        · subst he
          rw [if_neg (show ¬ ((0 : Int) ≠ 0) by simp)]
          refine (bifF rfl).trans ?_
          refine Eq.trans ?_ (bifF rfl).symm
          rw [List.length_append, List.length_singleton, List.append_assoc]
          simp only [TS.len, TS.row, List.singleton_append, elv]
          rw [show A.length + 1 + r.len = A.length + (r.len + 1) by omega]
        · rw [if_pos he]
          have hb : (e2 != 0) = true := by simpa using he
          exact (bifT hb).trans (bifT hb).symm
      have leaf : hold (c / 64) = false → f22 k (fun u39 => f29_J1 (Rm k) (Rc k) (Rr k) k K rec (by8 b, p, cnt, A.length, (a2 : Int), (lens c : Int), (m : Int), (lens c : Int), A, c / 64, num (s.take (ids c))) (cnt + 1, u39.1, 0, u39.2, [])) (by8 ((b.drop a2).take m)) =
          RKR K A (match (if hold (c / 64) = true then rdT f ((b.drop a2).take m) (c / 64) (64 - cnt - 1) else (0, 64 - cnt - 1, .nil)) with
            | (e, n1, ks) => if e ≠ 0 then (e, n1, .nil) else
              match rdT f (b.drop (a2 + m)) p n1 with
              | (e2, n2, r) => if e2 ≠ 0 then (e2, n2, .nil) else (0, n2, .cons (c / 64) (num (s.take (ids c))) (if hold (c / 64) = true then [] else (b.drop a2).take m) ks r)) := fun c5 => by
        rw [c5]
        refine (copy_eq _ _ (by rw [List.length_take]; omega) (by rw [List.length_take]; omega)).trans ?_
        dsimp only
        have := J ((b.drop a2).take m) .nil (64 - cnt - 1) (by8 ((b.drop a2).take m)) [] ((b.drop a2).take m).length 0 (d8 _) rfl (by omega) (by omega)
        rw [show (64 : Int) - (64 - cnt - 1) = cnt + 1 by omega] at this
        exact this
      rcases hold_kinds hc with ⟨c5, c6, c7⟩ | ⟨c5, c6⟩
      · refine (bifF (by simpa using c6)).trans ?_
        refine (bifF (by simpa using c7)).trans ?_
        rw [c5]
        rw [show (if true = true then rdT f ((b.drop a2).take m) (c / 64) (64 - cnt - 1) else (0, 64 - cnt - 1, TS.nil)) = rdT f ((b.drop a2).take m) (c / 64) (64 - cnt - 1) from rfl]
        have hl2 : ((b.drop a2).take m).length ≤ b.length - a2 := by rw [List.length_take]; omega
        obtain ⟨k', rfl⟩ : ∃ j, k = j + 1 := ⟨k - 1, by omega⟩
        have hx := fun (K : Nat × Int × Int × List CV → Option X) => refread_loop f ((b.drop a2).take m) 0 (c / 64) (cnt + 1) [] k' k' K (by rw [List.drop_zero]; rw [List.length_drop] at hf; omega) (Nat.zero_le _) (by omega) (by rw [List.drop_zero]; omega) hbd (by omega) (by omega) ⟨by simp; omega, by omega⟩
        rw [List.drop_zero, show (64 : Int) - (cnt + 1) = 64 - cnt - 1 by omega] at hx
        refine (hx _).trans ?_
        have hleft := rdT_left f ((b.drop a2).take m) (c / 64) (64 - cnt - 1) (by omega)
        conv => lhs; unfold RKR
        generalize rdT f ((b.drop a2).take m) (c / 64) (64 - cnt - 1) = q at hleft ⊢
        obtain ⟨e, n1, ks⟩ := q
        dsimp only at hleft ⊢
        by_cases he : e = 0
        · subst he
          refine (bifF rfl).trans ?_
          refine (bifF rfl).trans ?_
          rw [if_neg (show ¬ ((0 : Int) ≠ 0) by simp)]
          exact J [] ks n1 _ _ _ _ rfl (by rw [List.drop_zero, List.length_nil, Nat.zero_add, List.nil_append, ← row_len, List.take_length]) ((hleft.2 (by omega)).2 rfl) (by omega)
        · have hbn : (e != 0) = true := by simpa using he
          refine (bifT hbn).trans ?_
          refine (bifT hbn).trans ?_
          rw [if_pos he]
          exact (bifT hbn).symm
      · rcases c6 with c6 | c6
        · exact (bifT (by rw [c6]; rfl)).trans (leaf c5)
        · refine (bifF (by rw [c6]; rfl)).trans ?_
          exact (bifT (by rw [c6]; rfl)).trans (leaf c5)
    · -- the end
      have hn : b.drop a = [] := List.drop_of_length_le hal
      rw [hn]
      unfold f29_L1 f29_T1
      dsimp only
      refine (bifF (decide_eq_false (by rw [by8_length]; omega))).trans ?_
      rw [Nat.zero_add, List.take_length]
      show _ = K (A.length + 0, 64 - (64 - cnt), 0, A ++ [])
      rw [List.append_nil, Nat.add_zero, show (64 : Int) - (64 - cnt) = cnt by omega]
theorem refRead_eq {k : Nat} (K : Nat × Int × List CV → Option X) (b : List Int) (hb : Byt b) (hl : b.length ≤ 1000000000) (hk : b.length + 400 < k) :
    f17 k K (by8 b) = (let r := rdT (b.length + 1) b (-1) 64; bif (r.1 != 0) then K (0, r.1, []) else K (r.2.2.len, 0, r.2.2.row)) := by
  unfold f17 f17_A f17_T
  obtain ⟨k, rfl⟩ : ∃ j, k = j + 1 := ⟨k - 1, by omega⟩
  have hx := fun (K : Nat × Int × Int × List CV → Option X) => refread_loop (b.length + 1) b 0 (-1) 0 [] k k K (by rw [List.drop_zero]; omega) (Nat.zero_le _) (by omega) (by rw [List.drop_zero]; omega) hb (by omega) (by omega) ⟨by simp; omega, by omega⟩
  rw [List.drop_zero] at hx
  refine (hx _).trans ?_
  unfold RKR
  rw [show (64 : Int) - 0 = 64 from rfl]
  generalize rdT (b.length + 1) b (-1) 64 = r
  obtain ⟨e, n1, ks⟩ := r
  dsimp only
  cases h : e != 0 with
  | true => rfl
  | false =>
    show K _ = K _
    rw [List.length_nil, Nat.zero_add, Nat.zero_add, List.nil_append, ← row_len, List.take_length]
end
end Go.Proofs.YtkkknhfbcflkfaaD
