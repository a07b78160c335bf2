/- Bytes as lists: in plain words; the first answer. -/
import Derived.Test.YtkkknhfbcflkfaaPe
namespace Go.Proofs.YtkkknhfbcflkfaaD
open Go Go.Proofs.YtkkknhfbcflkfaaS Go.Proofs
set_option linter.unusedVariables false
set_option linter.unusedSimpArgs false
section
variable {X : Type}
def num (bs : List Int) : Int := (numN bs : Nat)
theorem num_bnd {bs : List Int} (h : Byt bs) (h3 : bs.length ≤ 3) : 0 ≤ num bs ∧ num bs < 16777216 := by
  have h1 := numN_lt bs h
  have h2 : 256 ^ bs.length ≤ 256 ^ 3 := Nat.pow_le_pow_right (by decide) h3
  unfold num
  omega
def ids (c : Int) : Nat := (1 + c / 32 % 2).toNat
def lens (c : Int) : Nat := (c / 8 % 4).toNat
def rdT : Nat → List Int → Int → Int → Int × Int × TS
  | 0, _, _, n => (99, n, .nil)
  | _ + 1, [], _, n => (0, n, .nil)
  | f + 1, c :: b, p, n =>
    if inK (c / 64) p = false then (20, n, .nil)
    else if b.length < ids c + lens c then (20, n, .nil)
    else if n - 1 < 0 then (3, n - 1, .nil)
    else if (if lens c > 0 then num ((b.drop (ids c)).take (lens c)) else c % 8) > ((b.drop (ids c + lens c)).length : Int) then (20, n - 1, .nil)
    else
      match (if hold (c / 64) = true then rdT f ((b.drop (ids c + lens c)).take (if lens c > 0 then num ((b.drop (ids c)).take (lens c)) else c % 8).toNat) (c / 64) (n - 1) else (0, n - 1, .nil)) with
      | (e, n1, ks) => if e ≠ 0 then (e, n1, .nil) else
        match rdT f ((b.drop (ids c + lens c)).drop (if lens c > 0 then num ((b.drop (ids c)).take (lens c)) else c % 8).toNat) p n1 with
        | (e2, n2, r) => if e2 ≠ 0 then (e2, n2, .nil) else (0, n2, .cons (c / 64) (num (b.take (ids c))) (if hold (c / 64) = true then [] else (b.drop (ids c + lens c)).take (if lens c > 0 then num ((b.drop (ids c)).take (lens c)) else c % 8).toNat) ks r)
theorem by8_take (b : List Int) (n : Nat) : List.take n (by8 b) = by8 (b.take n) := by simp [by8, List.map_take]
theorem by8_drop (b : List Int) (n : Nat) : List.drop n (by8 b) = by8 (b.drop n) := by simp [by8, List.map_drop]
theorem numb_eq {k : Nat} (K : Int × List CV × Bool → Option X) (b : List Int) (hb : Byt b) (n : Nat) (hn : n ≤ 3) (hl : b.length ≤ 1000000000000) (hk : 100 < k) :
    f44 k K (by8 b) (n : Int) = if b.length < n then K (0, [], false) else K (num (b.take n), by8 (b.drop n), true) := by
  unfold f44 f44_A f44_T
  by_cases h : b.length < n
  · rw [if_pos h]
    exact bifT (decide_eq_true (by rw [by8_length]; omega))
  rw [if_neg h]
  refine (bifF (decide_eq_false (by rw [by8_length]; omega))).trans ?_
  refine (grdT (dec0 _)).trans ?_
  refine (grdT (decide_eq_true (by rw [by8_length]; omega))).trans ?_
  rw [Int.toNat_natCast, Nat.sub_zero, List.drop_zero, by8_take, by8_length]
  have hl2 : (b.take n).length = n := by rw [List.length_take]; omega
  have hbt := hb.take n
  generalize hB : b.take n = bs at hl2 hbt
  refine (iterV_spec (T := f44_L1 k K) (fun i => (by8 b, (n : Int), num (bs.take i), by8 bs, (bs.length : Int), (i : Int))) (fun _ => K (num bs, by8 (b.drop n), true)) bs.length (fun i rec hi hr => ?_) (fun rec => ?_) k 0 (Nat.zero_le _) (by omega))
  · unfold f44_L1 f44_T1
    dsimp only
    refine (bifT (decide_eq_true (by omega))).trans ?_
    refine (grdT (dec0 _)).trans ?_
    rw [Int.toNat_natCast]
    refine (bAt (c := .int .u8 bs[i]) (by rw [by8_get, List.getElem?_eq_getElem hi]; rfl) _).trans ?_
    refine (grdT rfl).trans ?_
    have h1 := hbt bs[i] (List.getElem_mem hi)
    have h2 := num_bnd (hbt.take i) (by rw [List.length_take]; omega)
    have e1 : bop .or .i64 (IntKind.wrap .i64 (num (bs.take i) * 2 ^ 8)) (IntKind.wrap .i64 (CV.toI (CV.int .u8 bs[i]))) = num (bs.take (i + 1)) := by
      show bop .or .i64 (IntKind.wrap .i64 (((numN (bs.take i) : Nat) : Int) * 2 ^ 8)) (IntKind.wrap .i64 bs[i]) = ((numN (bs.take (i + 1)) : Nat) : Int)
      unfold num at h2
      have e1 : IntKind.wrap .i64 (((numN (bs.take i) : Nat) : Int) * 2 ^ 8) = ((numN (bs.take i) * 2 ^ 8 : Nat) : Int) := by
        rw [wrap64 (by omega) (by omega)]; rfl
      have e2 : IntKind.wrap .i64 bs[i] = ((bs[i].toNat : Nat) : Int) := by
        rw [wrap64 (by omega) (by omega)]; omega
      rw [e1, e2, bop_or64 (by omega) (by omega), or_add (by omega), numN_take hi]
    rw [e1, wrap64_n (by omega)]
    exact hr
  · unfold f44_L1 f44_T1
    dsimp only
    refine (bifF (decide_eq_false (by omega))).trans ?_
    refine (grdT (dec0 _)).trans ?_
    refine (grdT (decide_eq_true (by rw [by8_length]; omega))).trans ?_
    refine (grdT (decide_eq_true (Int.le_refl _))).trans ?_
    rw [Int.toNat_natCast, List.take_length, by8_drop, by8_length, List.take_of_length_le (by rw [by8_length, List.length_drop]; exact Nat.le_refl _)]
/-- One TLV's head. -/
theorem and_3 {c : Int} (h : 0 ≤ c ∧ c < 256) : bop .and .i64 (Int.fdiv (IntKind.wrap .i64 c) (2 ^ 3)) 3 = c / 8 % 4 := by
  obtain ⟨n, rfl⟩ := Int.eq_ofNat_of_zero_le h.1
  have : ∀ n : Nat, n < 256 → bop .and .i64 (Int.fdiv (IntKind.wrap .i64 (n : Int)) (2 ^ 3)) 3 = (n : Int) / 8 % 4 := by decide +kernel
  exact this n (by omega)
theorem and_1 {c : Int} (h : 0 ≤ c ∧ c < 256) : IntKind.wrap .i64 (1 + bop .and .i64 (Int.fdiv (IntKind.wrap .i64 c) (2 ^ 5)) 1) = 1 + c / 32 % 2 := by
  obtain ⟨n, rfl⟩ := Int.eq_ofNat_of_zero_le h.1
  have : ∀ n : Nat, n < 256 → IntKind.wrap .i64 (1 + bop .and .i64 (Int.fdiv (IntKind.wrap .i64 (n : Int)) (2 ^ 5)) 1) = 1 + (n : Int) / 32 % 2 := by decide +kernel
  exact this n (by omega)
theorem and_7 {c : Int} (h : 0 ≤ c ∧ c < 256) : bop .and .i64 (IntKind.wrap .i64 c) 7 = c % 8 := by
  obtain ⟨n, rfl⟩ := Int.eq_ofNat_of_zero_le h.1
  have : ∀ n : Nat, n < 256 → bop .and .i64 (IntKind.wrap .i64 (n : Int)) 7 = (n : Int) % 8 := by decide +kernel
  exact this n (by omega)
theorem sh_6 {c : Int} (h : 0 ≤ c ∧ c < 256) : Int.fdiv (IntKind.wrap .i64 c) (2 ^ 6) = c / 64 := by
  rw [fdiv_eq _ (by decide), wrap64 (by omega) (by omega)]; rfl
theorem ids_eq {c : Int} (h : 0 ≤ c ∧ c < 256) : 1 + c / 32 % 2 = (ids c : Int) ∧ ids c ≤ 2 ∧ 1 ≤ ids c := by unfold ids; omega
theorem lens_eq {c : Int} (h : 0 ≤ c ∧ c < 256) : c / 8 % 4 = (lens c : Int) ∧ lens c ≤ 3 := by unfold lens; omega
abbrev OutI : Type := Int × Int × Int × List CV × Bool × List CV × List CV
def ln (c : Int) (b : List Int) : Int := if lens c > 0 then num ((b.drop (ids c)).take (lens c)) else c % 8
theorem item_eq {k : Nat} (K : OutI → Option X) (c : Int) (b : List Int) (p : Int) (hb : Byt (c :: b)) (hl : b.length ≤ 100000000000) (hk : 100 < k) :
    (inK (c / 64) p = false ∨ b.length < ids c + lens c → ∃ i n rest, ∀ {X : Type} (K : OutI → Option X), f40 k K (by8 (c :: b)) p = K (c / 64, i, n, rest, false, [], [])) ∧
    (inK (c / 64) p = true → ids c + lens c ≤ b.length → f40 k K (by8 (c :: b)) p = K (c / 64, num (b.take (ids c)), ln c b, by8 (b.drop (ids c + lens c)), true, [], [])) := by
  have hc := hb c List.mem_cons_self
  have hbb : Byt b := fun x hx => hb x (List.mem_cons_of_mem _ hx)
  obtain ⟨i1, i2, i3⟩ := ids_eq hc
  obtain ⟨l1, l2⟩ := lens_eq hc
  -- what the code does, step by step
  have start : ∀ {X : Type} (K : OutI → Option X), f40 k K (by8 (c :: b)) p = bif !(inK (c / 64) p) then K (c / 64, 0, 0, [], false, [], []) else
      if b.length < ids c then K (c / 64, 0, 0, [], false, [], []) else
        bif decide ((lens c : Int) > 0) then (if (b.drop (ids c)).length < lens c then K (c / 64, num (b.take (ids c)), 0, [], false, [], []) else K (c / 64, num (b.take (ids c)), num ((b.drop (ids c)).take (lens c)), by8 ((b.drop (ids c)).drop (lens c)), true, [], []))
        else K (c / 64, num (b.take (ids c)), c % 8, by8 (b.drop (ids c)), true, [], []) := fun {X} K => by
    unfold f40 f40_A f40_T f40_J1
    refine (bAt (c := .int .u8 c) rfl _).trans ?_
    refine (grdT rfl).trans ?_
    have hcc : CV.toI (CV.int .u8 c) = c := rfl
    rw [hcc, sh_6 hc, and_1 hc, and_3 hc, and_7 hc, i1, l1]
    refine (inside_eq _ _ p).trans ?_
    cases inK (c / 64) p with
    | false => rfl
    | true =>
      refine (bifF rfl).trans ?_
      refine (grdT (decide_eq_true (by simp [by8]; omega))).trans ?_
      refine (grdT (decide_eq_true (Int.le_refl _))).trans ?_
      have e1 : List.take ((by8 (c :: b)).length - 1) (List.drop 1 (by8 (c :: b))) = by8 b := by
        rw [by8_drop, by8_take, by8_length]
        simp
      rw [e1]
      refine (numb_eq _ b hbb (ids c) (by omega) (by omega) hk).trans ?_
      show _ = (if b.length < ids c then _ else _)
      by_cases h1 : b.length < ids c
      · rw [if_pos h1, if_pos h1]; rfl
      rw [if_neg h1, if_neg h1]
      dsimp only
      refine (bifF rfl).trans ?_
      cases decide ((lens c : Int) > 0) with
      | false => rfl
      | true =>
        refine (numb_eq _ (b.drop (ids c)) (hbb.drop _) (lens c) l2 (by rw [List.length_drop]; omega) hk).trans ?_
        by_cases h2 : (b.drop (ids c)).length < lens c
        · rw [if_pos h2]
          exact (if_pos h2).symm
        · rw [if_neg h2]
          exact (if_neg h2).symm
  refine ⟨fun h => ?_, fun h1 h2 => ?_⟩
  · rcases h with h | h
    · exact ⟨0, 0, [], fun K => by rw [start, h]; rfl⟩
    · cases h0 : inK (c / 64) p with
      | false => exact ⟨0, 0, [], fun K => by rw [start, h0]; rfl⟩
      | true =>
        by_cases h1 : b.length < ids c
        · exact ⟨0, 0, [], fun K => by rw [start, h0, if_pos h1]; rfl⟩
        · refine ⟨num (b.take (ids c)), 0, [], fun K => ?_⟩
          rw [start, h0, if_neg h1, decide_eq_true (by omega), if_pos (by rw [List.length_drop]; omega)]
          rfl
  · rw [start, h1, if_neg (by omega)]
    unfold ln
    by_cases h3 : lens c > 0
    · rw [decide_eq_true (by omega), if_neg (by rw [List.length_drop]; omega), if_pos h3, List.drop_drop]
      rfl
    · rw [decide_eq_false (by omega), if_neg h3, show lens c = 0 by omega, Nat.add_zero]
      rfl
end
end Go.Proofs.YtkkknhfbcflkfaaD
