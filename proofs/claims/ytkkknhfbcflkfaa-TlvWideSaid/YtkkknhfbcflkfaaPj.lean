/- What is written is read back; what is read is right: in plain words. -/
import Derived.Test.YtkkknhfbcflkfaaPi
namespace Go.Proofs.YtkkknhfbcflkfaaD
open Go Go.Proofs.YtkkknhfbcflkfaaS Go.Proofs
set_option linter.unusedVariables false
set_option linter.unusedSimpArgs false
theorem num_nil : num [] = 0 := rfl
theorem num_one {a : Int} (h : 0 ≤ a) : num [a] = a := by
  unfold num numN; simp; omega
theorem num_two {a b : Int} (h : 0 ≤ a) (h2 : 0 ≤ b) : num [a, b] = a * 256 + b := by
  unfold num numN; simp; omega
theorem num_three {a b c : Int} (h : 0 ≤ a) (h2 : 0 ≤ b) (h3 : 0 ≤ c) : num [a, b, c] = (a * 256 + b) * 256 + c := by
  unfold num numN; simp; omega
theorem num_tail {n : Int} (h : 0 ≤ n ∧ n ≤ 65535) : num (tailB n) = n := by
  unfold tailB
  split
  · rw [num_two (by omega) (by omega)]; omega
  · rw [num_one h.1]
theorem tail_byt {n : Int} (h : 0 ≤ n ∧ n ≤ 65535) : Byt (tailB n) := by
  unfold tailB
  intro x hx
  split at hx
  · simp at hx; omega
  · simp at hx; omega
theorem hdB_byt {k i : Int} {n : Nat} (hk : 0 ≤ k ∧ k ≤ 3) (hi : 0 ≤ i ∧ i ≤ 65535) (hn : n ≤ 65535) : Byt (hdB k i n) := by
  unfold hdB
  intro x hx
  rw [List.mem_append, List.mem_append] at hx
  rcases hx with (hx | hx) | hx
  · simp only [List.mem_singleton] at hx
    unfold lenF at hx
    split at hx <;> split at hx <;> (try split at hx) <;> omega
  · exact tail_byt hi x hx
  · split at hx
    · cases hx
    · exact tail_byt (by omega) x hx
/-- A head, read. -/
theorem hdB_rd (k i : Int) (val rest : List Int) (hk : 0 ≤ k ∧ k ≤ 3) (hi : 0 ≤ i ∧ i ≤ 65535) (hn : val.length ≤ 65535) :
    ∃ c b, hdB k i val.length ++ val ++ rest = c :: b ∧ c / 64 = k ∧ num (b.take (ids c)) = i ∧ ln c b = val.length ∧ b.drop (ids c + lens c) = val ++ rest ∧ ids c + lens c ≤ b.length := by
  refine ⟨k * 64 + (if i > 255 then 32 else 0) + lenF val.length, tailB i ++ ((if (val.length : Int) < 8 then [] else tailB val.length) ++ (val ++ rest)), by unfold hdB; simp, ?_⟩
  have e1 : ids (k * 64 + (if i > 255 then 32 else 0) + lenF val.length) = (tailB i).length := by
    rw [tailB_len]; unfold ids lenF
    split <;> split <;> (try split) <;> omega
  have e2 : lens (k * 64 + (if i > 255 then 32 else 0) + lenF val.length) = (if (val.length : Int) < 8 then [] else tailB val.length).length := by
    unfold lens lenF
    have := tailB_len (val.length : Int)
    by_cases h8 : (val.length : Int) < 8
    · rw [if_pos h8, if_pos h8]; simp only [List.length_nil]; split <;> omega
    · rw [if_neg h8, if_neg h8, this]
      split <;> split <;> split <;> omega
  have e3 : (k * 64 + (if i > 255 then 32 else 0) + lenF val.length) / 64 = k := by
    unfold lenF; split <;> split <;> (try split) <;> omega
  have e4 : (val.length : Int) < 8 → (k * 64 + (if i > 255 then 32 else 0) + lenF val.length) % 8 = val.length := fun h => by
    unfold lenF; rw [if_pos h]; split <;> omega
  generalize k * 64 + (if i > 255 then 32 else 0) + lenF val.length = c at *
  refine ⟨e3, ?_, ?_, ?_, ?_⟩
  · rw [e1, List.take_left]; exact num_tail hi
  · unfold ln
    rw [e2, e1, List.drop_left, List.take_left]
    by_cases h8 : (val.length : Int) < 8
    · rw [if_pos h8, if_neg (by simp), e4 h8]
    · rw [if_neg h8, if_pos (by rw [tailB_len]; split <;> omega), num_tail (by omega)]
  · rw [e1, e2, ← List.drop_drop, List.drop_left, List.drop_left]
  · rw [e1, e2]; simp only [List.length_append]; omega
theorem wr_cons (k i : Int) (v : List Int) (ks r : TS) (h : (wr (.cons k i v ks r)).1 = 0) :
    (if hold k = true then wr ks else (0, v)).1 = 0 ∧ (if hold k = true then wr ks else (0, v)).2.length ≤ 65535 ∧ (wr r).1 = 0 ∧ wr (.cons k i v ks r) = (0, hdB k i (if hold k = true then wr ks else (0, v)).2.length ++ (if hold k = true then wr ks else (0, v)).2 ++ (wr r).2) := by
  unfold wr at h
  conv => { enter [2, 2, 2, 1]; unfold wr }
  generalize (if hold k = true then wr ks else (0, v)) = q at h ⊢
  obtain ⟨e, val⟩ := q
  dsimp only at h ⊢
  by_cases he : e = 0
  · rw [if_neg (by simp [he])] at h ⊢
    by_cases hl : val.length > 65535
    · rw [if_pos hl] at h; cases h
    · rw [if_neg hl] at h ⊢
      generalize wr r = q2 at h ⊢
      obtain ⟨e2, rest⟩ := q2
      dsimp only at h ⊢
      by_cases he2 : e2 = 0
      · rw [if_neg (by simp [he2])]
        exact ⟨he, by omega, he2, rfl⟩
      · rw [if_pos he2] at h; exact absurd h he2
  · rw [if_pos he] at h; exact absurd h he
theorem wr_mk (k i : Int) (v : List Int) (ks r : TS) (h1 : (if hold k = true then wr ks else (0, v)).1 = 0) (h2 : (if hold k = true then wr ks else (0, v)).2.length ≤ 65535) (h3 : (wr r).1 = 0) :
    wr (.cons k i v ks r) = (0, hdB k i (if hold k = true then wr ks else (0, v)).2.length ++ (if hold k = true then wr ks else (0, v)).2 ++ (wr r).2) := by
  conv => lhs; unfold wr
  generalize (if hold k = true then wr ks else (0, v)) = q at h1 h2 ⊢
  obtain ⟨e, val⟩ := q
  dsimp only at h1 h2 ⊢
  rw [if_neg (by simp [h1]), if_neg (by omega)]
  generalize wr r = q2 at h3 ⊢
  obtain ⟨e2, rest⟩ := q2
  dsimp only at h3 ⊢
  rw [if_neg (by simp [h3])]
/-- What is written is read as it. -/
theorem rd_wr : ∀ (ts : TS) (p n : Int) (f : Nat), rin ts p = true → (wr ts).1 = 0 → (ts.cnt : Int) ≤ n → (wr ts).2.length < f → rdT f (wr ts).2 p n = (0, n - ts.cnt, ts)
  | .nil, p, n, f, _, _, _, hf => by
    obtain ⟨f, rfl⟩ : ∃ j, f = j + 1 := ⟨f - 1, by omega⟩
    simp [wr, rdT, TS.cnt]
  | .cons k i v ks r, p, n, f, hr, hw, hn, hf => by
    obtain ⟨r1, r2, r3, r4, r5, r6⟩ := rin_cons hr
    obtain ⟨w1, w2, w3, w4⟩ := wr_cons k i v ks r hw
    rw [w4] at hf ⊢
    dsimp only at hf ⊢
    simp only [TS.cnt] at hn ⊢
    generalize hval : (if hold k = true then wr ks else (0, v)) = q at w1 w2 hf ⊢
    obtain ⟨e, val⟩ := q
    dsimp only at w1 w2 hf ⊢
    obtain ⟨f, rfl⟩ : ∃ j, f = j + 1 := ⟨f - 1, by omega⟩
    have hh := (hdB_len k i val.length).2
    simp only [List.length_append] at hf
    obtain ⟨c, b, b1, b2, b3, b4, b5, b6⟩ := hdB_rd k i val (wr r).2 r1 r2 w2
    rw [b1, rdT_cons, b2, b3, b4, b5, if_neg (show ¬ (inK k p = false ∨ b.length < ids c + lens c) from fun h => h.elim (fun h => by rw [r6] at h; cases h) (fun h => by omega)), if_neg (by omega), if_neg (by rw [List.length_append]; omega), Int.toNat_natCast, List.take_left, List.drop_left]
    have ihr := rd_wr r p (n - 1 - ks.cnt) f r5 w3 (by omega) (by omega)
    cases c5 : hold k with
    | false =>
      rw [c5] at hval
      have hv : v = val := by injection hval
      have hks := r4 c5
      subst hks
      rw [if_neg (by simp), if_neg (by simp)]
      simp only [TS.cnt] at ihr ⊢
      rw [if_neg (by simp), show n - 1 = n - 1 - ((0 : Nat) : Int) by omega, ihr, hv]
      dsimp only
      rw [if_neg (by simp)]
      simp only [Prod.mk.injEq, true_and, and_true]
      omega
    | true =>
      rw [c5, if_pos rfl] at hval
      have hks : rdT f val k (n - 1) = (0, n - 1 - ks.cnt, ks) := by
        have := rd_wr ks k (n - 1) f (r3 c5).2 (by rw [hval]; exact w1) (by omega) (by rw [hval]; show val.length < f; omega)
        rw [hval] at this
        exact this
      rw [if_pos rfl, hks, if_pos rfl, (r3 c5).1]
      dsimp only
      rw [if_neg (by simp), ihr]
      dsimp only
      rw [if_neg (by simp)]
      simp only [Prod.mk.injEq, true_and, and_true]
      omega
theorem ids_bnd {c : Int} {b : List Int} (hb : Byt (c :: b)) : 0 ≤ num (b.take (ids c)) ∧ num (b.take (ids c)) ≤ 65535 ∧ (tailB (num (b.take (ids c)))).length ≤ ids c := by
  have hc := hb c List.mem_cons_self
  have hbb : Byt b := fun x hx => hb x (List.mem_cons_of_mem _ hx)
  obtain ⟨_, i2, i3⟩ := ids_eq hc
  have h1 := numN_lt (b.take (ids c)) (hbb.take _)
  have h2 : (b.take (ids c)).length ≤ ids c := by rw [List.length_take]; omega
  have h3 : numN (b.take (ids c)) < 256 ^ ids c := Nat.lt_of_lt_of_le h1 (Nat.pow_le_pow_right (by decide) h2)
  rw [tailB_len]
  unfold num
  clear h1 h2
  generalize numN (b.take (ids c)) = N at h3 ⊢
  rcases (show ids c = 1 ∨ ids c = 2 by omega) with h | h <;> rw [h] at h3 ⊢ <;> refine ⟨by omega, by omega, ?_⟩ <;> split <;> omega
theorem ln_len {c : Int} {b : List Int} (hb : Byt (c :: b)) {n : Nat} (h : (n : Int) ≤ ln c b) (h2 : n ≤ 65535) : (if (n : Int) < 8 then [] else tailB n).length ≤ lens c := by
  have hc := hb c List.mem_cons_self
  have hbb : Byt b := fun x hx => hb x (List.mem_cons_of_mem _ hx)
  by_cases h8 : (n : Int) < 8
  · rw [if_pos h8]; simp
  rw [if_neg h8, tailB_len]
  unfold ln at h
  split at h
  · have h1 := numN_lt ((b.drop (ids c)).take (lens c)) ((hbb.drop _).take _)
    have h2 : ((b.drop (ids c)).take (lens c)).length ≤ lens c := by rw [List.length_take]; omega
    have h3 : numN ((b.drop (ids c)).take (lens c)) < 256 ^ lens c := Nat.lt_of_lt_of_le h1 (Nat.pow_le_pow_right (by decide) h2)
    unfold num at h
    clear h1 h2
    generalize numN ((b.drop (ids c)).take (lens c)) = N at h h3
    split
    · rcases (show lens c = 1 ∨ 2 ≤ lens c by omega) with h4 | h4
      · rw [h4] at h3; omega
      · exact h4
    · omega
  · omega
theorem inK_rng {k p : Int} (h : inK k p = true) : 0 ≤ k ∧ k ≤ 3 := by
  rcases inK_kind h with ⟨q, _⟩ | ⟨q, _⟩ <;> omega
/-- What is read is right, and comes out no longer. -/
theorem rd_rin : ∀ (f : Nat) (b : List Int) (p n : Int), Byt b → b.length ≤ 65535 → (rdT f b p n).1 = 0 →
    rin (rdT f b p n).2.2 p = true ∧ (rdT f b p n).2.1 = n - (rdT f b p n).2.2.cnt ∧ (wr (rdT f b p n).2.2).1 = 0 ∧ (wr (rdT f b p n).2.2).2.length ≤ b.length ∧ (rdT f b p n).2.2.fit ∧ (rdT f b p n).2.2.ok ∧ (rdT f b p n).2.2.len ≤ b.length
  | 0, b, p, n, hb, hl, h => by simp [rdT] at h
  | f + 1, [], p, n, hb, hl, h => by simp [rdT, rin, TS.cnt, wr, TS.fit, TS.ok, TS.len]
  | f + 1, c :: b, p, n, hb, hl, h => by
    have hbb : Byt b := fun x hx => hb x (List.mem_cons_of_mem _ hx)
    rw [rdT_cons] at h ⊢
    split at h
    · cases h
    next q1 =>
    rw [if_neg q1]
    split at h
    · cases h
    next q2 =>
    rw [if_neg q2]
    split at h
    · cases h
    next q3 =>
    rw [if_neg q3]
    have q1a : inK (c / 64) p = true := by
      cases q : inK (c / 64) p with
      | true => rfl
      | false => exact absurd (.inl q) q1
    have q1b : ids c + lens c ≤ b.length := Nat.le_of_not_lt fun q => q1 (.inr q)
    have hln := ln_bnd hb
    obtain ⟨m, hm⟩ : ∃ m : Nat, ln c b = m := ⟨(ln c b).toNat, by omega⟩
    have hll := fun {n : Nat} h h2 => ln_len (n := n) hb h h2
    obtain ⟨i1, i2, i3⟩ := ids_bnd hb
    rw [hm] at q3 hln hll
    rw [hm] at h ⊢
    rw [Int.toNat_natCast] at h ⊢
    have hdl : (b.drop (ids c + lens c)).length = b.length - (ids c + lens c) := List.length_drop
    have htl : ((b.drop (ids c + lens c)).take m).length = m := by rw [List.length_take]; omega
    simp only [List.length_cons] at hl ⊢
    have hbt : Byt ((b.drop (ids c + lens c)).take m) := (hbb.drop _).take _
    -- the kids
    have hk := rd_rin f ((b.drop (ids c + lens c)).take m) (c / 64) (n - 1) hbt (by omega)
    have hr := fun n1 => rd_rin f ((b.drop (ids c + lens c)).drop m) p n1 ((hbb.drop _).drop _) (by simp only [List.length_drop]; omega)
    generalize (b.drop (ids c + lens c)).take m = vb at h hk hbt htl ⊢
    -- what a TLV has
    have fin : ∀ (v : List Int) (ks r : TS), v.length ≤ 65535 → Byt v → (hold (c / 64) = true → v = [] ∧ rin ks (c / 64) = true) → (hold (c / 64) = false → ks = .nil) →
        (if hold (c / 64) = true then wr ks else (0, v)).1 = 0 → (if hold (c / 64) = true then wr ks else (0, v)).2.length ≤ m → ks.fit → ks.ok → ks.len ≤ 65535 →
        rin r p = true → (wr r).1 = 0 → (wr r).2.length + m + (ids c + lens c) ≤ b.length → r.fit → r.ok → r.len ≤ b.length →
        rin (.cons (c / 64) (num (b.take (ids c))) v ks r) p = true ∧ (wr (.cons (c / 64) (num (b.take (ids c))) v ks r)).1 = 0 ∧ (wr (.cons (c / 64) (num (b.take (ids c))) v ks r)).2.length ≤ b.length + 1 ∧ (TS.cons (c / 64) (num (b.take (ids c))) v ks r).fit ∧ (TS.cons (c / 64) (num (b.take (ids c))) v ks r).ok ∧ (TS.cons (c / 64) (num (b.take (ids c))) v ks r).len ≤ b.length + 1 := fun v ks r a1 a2 a3 a4 a5 a6 a7 a8 a9 b1 b2 b3 b4 b5 b6 => by
      refine ⟨?_, ?_, ?_, ⟨by omega, a2, a7, b4⟩, ⟨by omega, by omega, a8, b5⟩, by simp only [TS.len]; omega⟩
      · unfold rin
        rw [if_neg (by rw [q1a]; simp; omega)]
        rcases inK_kind q1a with ⟨d, e⟩ | ⟨d, e⟩
        · rw [if_pos d, if_neg (by rw [a4 e]; simp), b1]
        · rw [if_neg (by rcases d with d | d <;> rw [d] <;> simp), if_neg (by rw [(a3 e).1]; simp), (a3 e).2, b1]; rfl
      · rw [wr_mk _ _ _ _ _ a5 (by omega) b2]
      · rw [wr_mk _ _ _ _ _ a5 (by omega) b2]
        generalize (if hold (c / 64) = true then wr ks else (0, v)) = q at a5 a6 ⊢
        have := hll (n := q.2.length) (by omega) (by omega)
        have e : (hdB (c / 64) (num (b.take (ids c))) q.2.length).length = 1 + (tailB (num (b.take (ids c)))).length + (if (q.2.length : Int) < 8 then [] else tailB (q.2.length : Int)).length := by
          unfold hdB; simp only [List.length_append, List.length_singleton]
        simp only [List.length_append]
        omega
    have hdd : (List.drop m (List.drop (ids c + lens c) b)).length = b.length - (ids c + lens c) - m := by simp only [List.length_drop]
    cases c5 : hold (c / 64) with
    | false =>
      rw [c5] at h
      simp only [reduceIte, Bool.false_eq_true] at h ⊢
      rw [if_neg (by simp)] at h ⊢
      have hr := hr (n - 1)
      generalize rdT f ((b.drop (ids c + lens c)).drop m) p (n - 1) = q2 at h hr ⊢
      obtain ⟨e2, n2, r⟩ := q2
      dsimp only at h hr ⊢
      by_cases he2 : e2 = 0
      · rw [if_neg (by simp [he2])]
        obtain ⟨r1, r2, r3, r4, r5, r6, r7⟩ := hr he2
        have := fin vb .nil r (by omega) hbt (fun h => by rw [c5] at h; cases h) (fun _ => rfl) (by rw [c5]; rfl) (by rw [c5]; show vb.length ≤ m; omega) trivial trivial (by simp [TS.len]) r1 r3 (by omega) r5 r6 (by omega)
        exact ⟨this.1, by simp only [TS.cnt]; omega, this.2⟩
      · rw [if_pos he2] at h; exact absurd h he2
    | true =>
      rw [c5] at h
      simp only [reduceIte] at h ⊢
      generalize rdT f vb (c / 64) (n - 1) = q at h hk ⊢
      obtain ⟨e, n1, ks⟩ := q
      dsimp only at h hk ⊢
      by_cases he : e = 0
      · rw [if_neg (by simp [he])] at h ⊢
        obtain ⟨k1, k2, k3, k4, k5, k6, k7⟩ := hk he
        have hr := hr n1
        generalize rdT f ((b.drop (ids c + lens c)).drop m) p n1 = q2 at h hr ⊢
        obtain ⟨e2, n2, r⟩ := q2
        dsimp only at h hr ⊢
        by_cases he2 : e2 = 0
        · rw [if_neg (by simp [he2])]
          obtain ⟨r1, r2, r3, r4, r5, r6, r7⟩ := hr he2
          have := fin [] ks r (by simp) (by simp [Byt]) (fun _ => ⟨rfl, k1⟩) (fun h => by rw [c5] at h; cases h) (by rw [c5]; exact k3) (by rw [c5]; show (wr ks).2.length ≤ m; omega) k5 k6 (by omega) r1 r3 (by omega) r5 r6 (by omega)
          exact ⟨this.1, by simp only [TS.cnt]; omega, this.2⟩
        · rw [if_pos he2] at h; exact absurd h he2
      · rw [if_pos he] at h; exact absurd h he
theorem wr_byt : ∀ (ts : TS) (p : Int), rin ts p = true → ts.fit → (wr ts).1 = 0 → Byt (wr ts).2
  | .nil, p, _, _, _ => by simp [wr, Byt]
  | .cons k i v ks r, p, hr, hf, hw => by
    obtain ⟨r1, r2, r3, r4, r5, r6⟩ := rin_cons hr
    obtain ⟨w1, w2, w3, w4⟩ := wr_cons k i v ks r hw
    obtain ⟨f1, f2, f3, f4⟩ := hf
    rw [w4]
    have hv : Byt (if hold k = true then wr ks else (0, v)).2 := by
      split
      · next c5 => rw [if_pos c5] at w1; exact wr_byt ks k (r3 c5).2 f3 w1
      · exact f2
    have hrr := wr_byt r p r5 f4 w3
    intro x hx
    rw [List.mem_append, List.mem_append] at hx
    rcases hx with (hx | hx) | hx
    · exact hdB_byt r1 r2 w2 x hx
    · exact hv x hx
    · exact hrr x hx
/-- What can be written has short values. -/
theorem wr_fit : ∀ (ts : TS) (p : Int), rin ts p = true → ts.wf → (wr ts).1 = 0 → ts.fit
  | .nil, p, _, _, _ => trivial
  | .cons k i v ks r, p, hr, hf, hw => by
    obtain ⟨r1, r2, r3, r4, r5, r6⟩ := rin_cons hr
    obtain ⟨w1, w2, w3, w4⟩ := wr_cons k i v ks r hw
    obtain ⟨f1, f2, f3, f4, f5⟩ := hf
    refine ⟨?_, byt_wf f3.2, ?_, wr_fit r p r5 f5 w3⟩
    · split at w2
      · next c5 => rw [(r3 c5).1]; simp
      · dsimp only at w2; omega
    · split at w1
      · next c5 => exact wr_fit ks k (r3 c5).2 f4.2 w1
      · next c5 => rw [r4 (by simpa using c5)]; trivial
end Go.Proofs.YtkkknhfbcflkfaaD
