/- Reads; back; joins: the laws. -/
import Derived.Test.YtkkknhfbcflkfaaPi
namespace Go.Proofs.YtkkknhfbcflkfaaD
open Go Go.Proofs.YtkkknhfbcflkfaaS Go.Proofs
set_option linter.unusedVariables false
set_option linter.unusedSimpArgs false
theorem num_nil : num [] = 0 := rfl
theorem num_one {a : Int} (h : 0 ≤ a) : num [a] = a := by
  unfold num numN; simp; omega
theorem num_two {a b : Int} (h : 0 ≤ a) (h2 : 0 ≤ b) : num [a, b] = a * 256 + b := by
  unfold num numN; simp; omega
theorem num_three {a b c : Int} (h : 0 ≤ a) (h2 : 0 ≤ b) (h3 : 0 ≤ c) : num [a, b, c] = (a * 256 + b) * 256 + c := by
  unfold num numN; simp; omega
theorem num_tail {n : Int} (h : 0 ≤ n ∧ n ≤ 65535) : num (tailB n) = n := by
  unfold tailB
  split
  · rw [num_two (by omega) (by omega)]; omega
  · rw [num_one h.1]
theorem tail_byt {n : Int} (h : 0 ≤ n ∧ n ≤ 65535) : Byt (tailB n) := by
  unfold tailB
  intro x hx
  split at hx
  · simp at hx; omega
  · simp at hx; omega
theorem hdB_byt {k i : Int} {n : Nat} (hk : 0 ≤ k ∧ k ≤ 3) (hi : 0 ≤ i ∧ i ≤ 65535) (hn : n ≤ 65535) : Byt (hdB k i n) := by
  unfold hdB
  intro x hx
  rw [List.mem_append, List.mem_append] at hx
  rcases hx with (hx | hx) | hx
  · simp only [List.mem_singleton] at hx
    unfold lenF at hx
    split at hx <;> split at hx <;> (try split at hx) <;> omega
  · exact tail_byt hi x hx
  · split at hx
    · cases hx
    · exact tail_byt (by omega) x hx
/-- A head, read. -/
theorem hdB_rd (k i : Int) (val rest : List Int) (hk : 0 ≤ k ∧ k ≤ 3) (hi : 0 ≤ i ∧ i ≤ 65535) (hn : val.length ≤ 65535) :
    ∃ c b, hdB k i val.length ++ val ++ rest = c :: b ∧ c / 64 = k ∧ num (b.take (ids c)) = i ∧ ln c b = val.length ∧ b.drop (ids c + lens c) = val ++ rest ∧ ids c + lens c ≤ b.length := by
  refine ⟨k * 64 + (if i > 255 then 32 else 0) + lenF val.length, tailB i ++ ((if (val.length : Int) < 8 then [] else tailB val.length) ++ (val ++ rest)), by unfold hdB; simp, ?_⟩
  have e1 : ids (k * 64 + (if i > 255 then 32 else 0) + lenF val.length) = (tailB i).length := by
    rw [tailB_len]; unfold ids lenF
    split <;> split <;> (try split) <;> omega
  have e2 : lens (k * 64 + (if i > 255 then 32 else 0) + lenF val.length) = (if (val.length : Int) < 8 then [] else tailB val.length).length := by
    unfold lens lenF
    have := tailB_len (val.length : Int)
    by_cases h8 : (val.length : Int) < 8
    · rw [if_pos h8, if_pos h8]; simp only [List.length_nil]; split <;> omega
    · rw [if_neg h8, if_neg h8, this]
      split <;> split <;> split <;> omega
  have e3 : (k * 64 + (if i > 255 then 32 else 0) + lenF val.length) / 64 = k := by
    unfold lenF; split <;> split <;> (try split) <;> omega
  have e4 : (val.length : Int) < 8 → (k * 64 + (if i > 255 then 32 else 0) + lenF val.length) % 8 = val.length := fun h => by
    unfold lenF; rw [if_pos h]; split <;> omega
  generalize k * 64 + (if i > 255 then 32 else 0) + lenF val.length = c at *
  refine ⟨e3, ?_, ?_, ?_, ?_⟩
  · rw [e1, List.take_left]; exact num_tail hi
  · unfold ln
    rw [e2, e1, List.drop_left, List.take_left]
    by_cases h8 : (val.length : Int) < 8
    · rw [if_pos h8, if_neg (by simp), e4 h8]
    · rw [if_neg h8, if_pos (by rw [tailB_len]; split <;> omega), num_tail (by omega)]
  · rw [e1, e2, ← List.drop_drop, List.drop_left, List.drop_left]
  · rw [e1, e2]; simp only [List.length_append]; omega
theorem wr_cons (k i : Int) (v : List Int) (ks r : TS) (h : (wr (.cons k i v ks r)).1 = 0) :
    (if hold k = true then wr ks else (0, v)).1 = 0 ∧ (if hold k = true then wr ks else (0, v)).2.length ≤ 65535 ∧ (wr r).1 = 0 ∧ wr (.cons k i v ks r) = (0, hdB k i (if hold k = true then wr ks else (0, v)).2.length ++ (if hold k = true then wr ks else (0, v)).2 ++ (wr r).2) := by
  unfold wr at h
  conv => { enter [2, 2, 2, 1]; unfold wr }
  generalize (if hold k = true then wr ks else (0, v)) = q at h ⊢
  obtain ⟨e, val⟩ := q
  dsimp only at h ⊢
  by_cases he : e = 0
  · rw [if_neg (by simp [he])] at h ⊢
    by_cases hl : val.length > 65535
    · rw [if_pos hl] at h; cases h
    · rw [if_neg hl] at h ⊢
      generalize wr r = q2 at h ⊢
      obtain ⟨e2, rest⟩ := q2
      dsimp only at h ⊢
      by_cases he2 : e2 = 0
      · rw [if_neg (by simp [he2])]
        exact ⟨he, by omega, he2, rfl⟩
      · rw [if_pos he2] at h; exact absurd h he2
  · rw [if_pos he] at h; exact absurd h he
theorem wr_mk (k i : Int) (v : List Int) (ks r : TS) (h1 : (if hold k = true then wr ks else (0, v)).1 = 0) (h2 : (if hold k = true then wr ks else (0, v)).2.length ≤ 65535) (h3 : (wr r).1 = 0) :
    wr (.cons k i v ks r) = (0, hdB k i (if hold k = true then wr ks else (0, v)).2.length ++ (if hold k = true then wr ks else (0, v)).2 ++ (wr r).2) := by
  conv => lhs; unfold wr
  generalize (if hold k = true then wr ks else (0, v)) = q at h1 h2 ⊢
  obtain ⟨e, val⟩ := q
  dsimp only at h1 h2 ⊢
  rw [if_neg (by simp [h1]), if_neg (by omega)]
  generalize wr r = q2 at h3 ⊢
  obtain ⟨e2, rest⟩ := q2
  dsimp only at h3 ⊢
  rw [if_neg (by simp [h3])]
/-- What is written is read as it. -/
theorem rd_wr : ∀ (ts : TS) (p n : Int) (f : Nat), rin ts p = true → (wr ts).1 = 0 → (ts.cnt : Int) ≤ n → (wr ts).2.length < f → rdT f (wr ts).2 p n = (0, n - ts.cnt, ts)
  | .nil, p, n, f, _, _, _, hf => by
    obtain ⟨f, rfl⟩ : ∃ j, f = j + 1 := ⟨f - 1, by omega⟩
    simp [wr, rdT, TS.cnt]
  | .cons k i v ks r, p, n, f, hr, hw, hn, hf => by
    obtain ⟨r1, r2, r3, r4, r5, r6⟩ := rin_cons hr
    obtain ⟨w1, w2, w3, w4⟩ := wr_cons k i v ks r hw
    rw [w4] at hf ⊢
    dsimp only at hf ⊢
    simp only [TS.cnt] at hn ⊢
    generalize hval : (if hold k = true then wr ks else (0, v)) = q at w1 w2 hf ⊢
    obtain ⟨e, val⟩ := q
    dsimp only at w1 w2 hf ⊢
    obtain ⟨f, rfl⟩ : ∃ j, f = j + 1 := ⟨f - 1, by omega⟩
    have hh := (hdB_len k i val.length).2
    simp only [List.length_append] at hf
    obtain ⟨c, b, b1, b2, b3, b4, b5, b6⟩ := hdB_rd k i val (wr r).2 r1 r2 w2
    rw [b1, rdT_cons, b2, b3, b4, b5, if_neg (show ¬ (inK k p = false ∨ b.length < ids c + lens c) from fun h => h.elim (fun h => by rw [r6] at h; cases h) (fun h => by omega)), if_neg (by omega), if_neg (by rw [List.length_append]; omega), Int.toNat_natCast, List.take_left, List.drop_left]
    have ihr := rd_wr r p (n - 1 - ks.cnt) f r5 w3 (by omega) (by omega)
    cases c5 : hold k with
    | false =>
      rw [c5] at hval
      have hv : v = val := by injection hval
      have hks := r4 c5
      subst hks
      rw [if_neg (by simp), if_neg (by simp)]
      simp only [TS.cnt] at ihr ⊢
      rw [if_neg (by simp), show n - 1 = n - 1 - ((0 : Nat) : Int) by omega, ihr, hv]
      dsimp only
      rw [if_neg (by simp)]
      simp only [Prod.mk.injEq, true_and, and_true]
      omega
    | true =>
      rw [c5, if_pos rfl] at hval
      have hks : rdT f val k (n - 1) = (0, n - 1 - ks.cnt, ks) := by
        have := rd_wr ks k (n - 1) f (r3 c5).2 (by rw [hval]; exact w1) (by omega) (by rw [hval]; show val.length < f; omega)
        rw [hval] at this
        exact this
      rw [if_pos rfl, hks, if_pos rfl, (r3 c5).1]
      dsimp only
      rw [if_neg (by simp), ihr]
      dsimp only
      rw [if_neg (by simp)]
      simp only [Prod.mk.injEq, true_and, and_true]
      omega
theorem ids_bnd {c : Int} {b : List Int} (hb : Byt (c :: b)) : 0 ≤ num (b.take (ids c)) ∧ num (b.take (ids c)) ≤ 65535 ∧ (tailB (num (b.take (ids c)))).length ≤ ids c := by
  have hc := hb c List.mem_cons_self
  have hbb : Byt b := fun x hx => hb x (List.mem_cons_of_mem _ hx)
  obtain ⟨_, i2, i3⟩ := ids_eq hc
  have h1 := numN_lt (b.take (ids c)) (hbb.take _)
  have h2 : (b.take (ids c)).length ≤ ids c := by rw [List.length_take]; omega
  have h3 : numN (b.take (ids c)) < 256 ^ ids c := Nat.lt_of_lt_of_le h1 (Nat.pow_le_pow_right (by decide) h2)
  rw [tailB_len]
  unfold num
  clear h1 h2
  generalize numN (b.take (ids c)) = N at h3 ⊢
  rcases (show ids c = 1 ∨ ids c = 2 by omega) with h | h <;> rw [h] at h3 ⊢ <;> refine ⟨by omega, by omega, ?_⟩ <;> split <;> omega
theorem ln_len {c : Int} {b : List Int} (hb : Byt (c :: b)) {n : Nat} (h : (n : Int) ≤ ln c b) (h2 : n ≤ 65535) : (if (n : Int) < 8 then [] else tailB n).length ≤ lens c := by
  have hc := hb c List.mem_cons_self
  have hbb : Byt b := fun x hx => hb x (List.mem_cons_of_mem _ hx)
  by_cases h8 : (n : Int) < 8
  · rw [if_pos h8]; simp
  rw [if_neg h8, tailB_len]
  unfold ln at h
  split at h
  · have h1 := numN_lt ((b.drop (ids c)).take (lens c)) ((hbb.drop _).take _)
    have h2 : ((b.drop (ids c)).take (lens c)).length ≤ lens c := by rw [List.length_take]; omega
    have h3 : numN ((b.drop (ids c)).take (lens c)) < 256 ^ lens c := Nat.lt_of_lt_of_le h1 (Nat.pow_le_pow_right (by decide) h2)
    unfold num at h
    clear h1 h2
    generalize numN ((b.drop (ids c)).take (lens c)) = N at h h3
    split
    · rcases (show lens c = 1 ∨ 2 ≤ lens c by omega) with h4 | h4
      · rw [h4] at h3; omega
      · exact h4
    · omega
  · omega
theorem inK_rng {k p : Int} (h : inK k p = true) : 0 ≤ k ∧ k ≤ 3 := by
  rcases inK_kind h with ⟨q, _⟩ | ⟨q, _⟩ <;> omega
/-- What is read is right, and comes out no longer. -/
theorem rd_rin : ∀ (f : Nat) (b : List Int) (p n : Int), Byt b → b.length ≤ 65535 → (rdT f b p n).1 = 0 →
    rin (rdT f b p n).2.2 p = true ∧ (rdT f b p n).2.1 = n - (rdT f b p n).2.2.cnt ∧ (wr (rdT f b p n).2.2).1 = 0 ∧ (wr (rdT f b p n).2.2).2.length ≤ b.length ∧ (rdT f b p n).2.2.fit ∧ (rdT f b p n).2.2.ok ∧ (rdT f b p n).2.2.len ≤ b.length
  | 0, b, p, n, hb, hl, h => by simp [rdT] at h
  | f + 1, [], p, n, hb, hl, h => by simp [rdT, rin, TS.cnt, wr, TS.fit, TS.ok, TS.len]
  | f + 1, c :: b, p, n, hb, hl, h => by
    have hbb : Byt b := fun x hx => hb x (List.mem_cons_of_mem _ hx)
    rw [rdT_cons] at h ⊢
    split at h
    · cases h
    next q1 =>
    rw [if_neg q1]
    split at h
    · cases h
    next q2 =>
    rw [if_neg q2]
    split at h
    · cases h
    next q3 =>
    rw [if_neg q3]
    have q1a : inK (c / 64) p = true := by
      cases q : inK (c / 64) p with
      | true => rfl
      | false => exact absurd (.inl q) q1
    have q1b : ids c + lens c ≤ b.length := Nat.le_of_not_lt fun q => q1 (.inr q)
    have hln := ln_bnd hb
    obtain ⟨m, hm⟩ : ∃ m : Nat, ln c b = m := ⟨(ln c b).toNat, by omega⟩
    have hll := fun {n : Nat} h h2 => ln_len (n := n) hb h h2
    obtain ⟨i1, i2, i3⟩ := ids_bnd hb
    rw [hm] at q3 hln hll
    rw [hm] at h ⊢
    rw [Int.toNat_natCast] at h ⊢
    have hdl : (b.drop (ids c + lens c)).length = b.length - (ids c + lens c) := List.length_drop
    have htl : ((b.drop (ids c + lens c)).take m).length = m := by rw [List.length_take]; omega
    simp only [List.length_cons] at hl ⊢
    have hbt : Byt ((b.drop (ids c + lens c)).take m) := (hbb.drop _).take _
    -- the kids
    have hk := rd_rin f ((b.drop (ids c + lens c)).take m) (c / 64) (n - 1) hbt (by omega)
    have hr := fun n1 => rd_rin f ((b.drop (ids c + lens c)).drop m) p n1 ((hbb.drop _).drop _) (by simp only [List.length_drop]; omega)
    generalize (b.drop (ids c + lens c)).take m = vb at h hk hbt htl ⊢
    -- what a TLV has
    have fin : ∀ (v : List Int) (ks r : TS), v.length ≤ 65535 → Byt v → (hold (c / 64) = true → v = [] ∧ rin ks (c / 64) = true) → (hold (c / 64) = false → ks = .nil) →
        (if hold (c / 64) = true then wr ks else (0, v)).1 = 0 → (if hold (c / 64) = true then wr ks else (0, v)).2.length ≤ m → ks.fit → ks.ok → ks.len ≤ 65535 →
        rin r p = true → (wr r).1 = 0 → (wr r).2.length + m + (ids c + lens c) ≤ b.length → r.fit → r.ok → r.len ≤ b.length →
        rin (.cons (c / 64) (num (b.take (ids c))) v ks r) p = true ∧ (wr (.cons (c / 64) (num (b.take (ids c))) v ks r)).1 = 0 ∧ (wr (.cons (c / 64) (num (b.take (ids c))) v ks r)).2.length ≤ b.length + 1 ∧ (TS.cons (c / 64) (num (b.take (ids c))) v ks r).fit ∧ (TS.cons (c / 64) (num (b.take (ids c))) v ks r).ok ∧ (TS.cons (c / 64) (num (b.take (ids c))) v ks r).len ≤ b.length + 1 := fun v ks r a1 a2 a3 a4 a5 a6 a7 a8 a9 b1 b2 b3 b4 b5 b6 => by
      refine ⟨?_, ?_, ?_, ⟨by omega, a2, a7, b4⟩, ⟨by omega, by omega, a8, b5⟩, by simp only [TS.len]; omega⟩
      · unfold rin
        rw [if_neg (by rw [q1a]; simp; omega)]
        rcases inK_kind q1a with ⟨d, e⟩ | ⟨d, e⟩
        · rw [if_pos d, if_neg (by rw [a4 e]; simp), b1]
        · rw [if_neg (by rcases d with d | d <;> rw [d] <;> simp), if_neg (by rw [(a3 e).1]; simp), (a3 e).2, b1]; rfl
      · rw [wr_mk _ _ _ _ _ a5 (by omega) b2]
      · rw [wr_mk _ _ _ _ _ a5 (by omega) b2]
        generalize (if hold (c / 64) = true then wr ks else (0, v)) = q at a5 a6 ⊢
        have := hll (n := q.2.length) (by omega) (by omega)
        have e : (hdB (c / 64) (num (b.take (ids c))) q.2.length).length = 1 + (tailB (num (b.take (ids c)))).length + (if (q.2.length : Int) < 8 then [] else tailB (q.2.length : Int)).length := by
          unfold hdB; simp only [List.length_append, List.length_singleton]
        simp only [List.length_append]
        omega
    have hdd : (List.drop m (List.drop (ids c + lens c) b)).length = b.length - (ids c + lens c) - m := by simp only [List.length_drop]
    cases c5 : hold (c / 64) with
    | false =>
      rw [c5] at h
      simp only [reduceIte, Bool.false_eq_true] at h ⊢
      rw [if_neg (by simp)] at h ⊢
      have hr := hr (n - 1)
      generalize rdT f ((b.drop (ids c + lens c)).drop m) p (n - 1) = q2 at h hr ⊢
      obtain ⟨e2, n2, r⟩ := q2
      dsimp only at h hr ⊢
      by_cases he2 : e2 = 0
      · rw [if_neg (by simp [he2])]
        obtain ⟨r1, r2, r3, r4, r5, r6, r7⟩ := hr he2
        have := fin vb .nil r (by omega) hbt (fun h => by rw [c5] at h; cases h) (fun _ => rfl) (by rw [c5]; rfl) (by rw [c5]; show vb.length ≤ m; omega) trivial trivial (by simp [TS.len]) r1 r3 (by omega) r5 r6 (by omega)
        exact ⟨this.1, by simp only [TS.cnt]; omega, this.2⟩
      · rw [if_pos he2] at h; exact absurd h he2
    | true =>
      rw [c5] at h
      simp only [reduceIte] at h ⊢
      generalize rdT f vb (c / 64) (n - 1) = q at h hk ⊢
      obtain ⟨e, n1, ks⟩ := q
      dsimp only at h hk ⊢
      by_cases he : e = 0
      · rw [if_neg (by simp [he])] at h ⊢
        obtain ⟨k1, k2, k3, k4, k5, k6, k7⟩ := hk he
        have hr := hr n1
        generalize rdT f ((b.drop (ids c + lens c)).drop m) p n1 = q2 at h hr ⊢
        obtain ⟨e2, n2, r⟩ := q2
        dsimp only at h hr ⊢
        by_cases he2 : e2 = 0
        · rw [if_neg (by simp [he2])]
          obtain ⟨r1, r2, r3, r4, r5, r6, r7⟩ := hr he2
          have := fin [] ks r (by simp) (by simp [Byt]) (fun _ => ⟨rfl, k1⟩) (fun h => by rw [c5] at h; cases h) (by rw [c5]; exact k3) (by rw [c5]; show (wr ks).2.length ≤ m; omega) k5 k6 (by omega) r1 r3 (by omega) r5 r6 (by omega)
          exact ⟨this.1, by simp only [TS.cnt]; omega, this.2⟩
        · rw [if_pos he2] at h; exact absurd h he2
      · rw [if_pos he] at h; exact absurd h he
theorem wr_byt : ∀ (ts : TS) (p : Int), rin ts p = true → ts.fit → (wr ts).1 = 0 → Byt (wr ts).2
  | .nil, p, _, _, _ => by simp [wr, Byt]
  | .cons k i v ks r, p, hr, hf, hw => by
    obtain ⟨r1, r2, r3, r4, r5, r6⟩ := rin_cons hr
    obtain ⟨w1, w2, w3, w4⟩ := wr_cons k i v ks r hw
    obtain ⟨f1, f2, f3, f4⟩ := hf
    rw [w4]
    have hv : Byt (if hold k = true then wr ks else (0, v)).2 := by
      split
      · next c5 => rw [if_pos c5] at w1; exact wr_byt ks k (r3 c5).2 f3 w1
      · exact f2
    have hrr := wr_byt r p r5 f4 w3
    intro x hx
    rw [List.mem_append, List.mem_append] at hx
    rcases hx with (hx | hx) | hx
    · exact hdB_byt r1 r2 w2 x hx
    · exact hv x hx
    · exact hrr x hx
/-- What can be written has short values. -/
theorem wr_fit : ∀ (ts : TS) (p : Int), rin ts p = true → ts.wf → (wr ts).1 = 0 → ts.fit
  | .nil, p, _, _, _ => trivial
  | .cons k i v ks r, p, hr, hf, hw => by
    obtain ⟨r1, r2, r3, r4, r5, r6⟩ := rin_cons hr
    obtain ⟨w1, w2, w3, w4⟩ := wr_cons k i v ks r hw
    obtain ⟨f1, f2, f3, f4, f5⟩ := hf
    refine ⟨?_, byt_wf f3.2, ?_, wr_fit r p r5 f5 w3⟩
    · split at w2
      · next c5 => rw [(r3 c5).1]; simp
      · dsimp only at w2; omega
    · split at w1
      · next c5 => exact wr_fit ks k (r3 c5).2 f4.2 w1
      · next c5 => rw [r4 (by simpa using c5)]; trivial
section
variable {X : Type}
theorem tk_row (ts : TS) : List.take ts.len (List.drop 0 ts.row) = ts.row := by rw [List.drop_zero, ← row_len, List.take_length]
theorem reads_eq {k : Nat} (K : Bool → Option X) (b : List Int) (hb : Byt b) (hk : 5000 + (rdT (b.length + 1) b (-1) 64).2.2.sz < k) : f4 k K (by8 b) = K true := by
  unfold f4 f4_A f4_T
  refine (alive_eq _ (by omega)).trans ?_
  refine (bifF rfl).trans ?_
  by_cases h : b.length > 4000
  · exact bifT (decide_eq_true (by rw [by8_length]; omega))
  refine (bifF (decide_eq_false (by rw [by8_length]; omega))).trans ?_
  refine (readT_eq _ b hb (by omega) (by omega)).trans ?_
  have hr := rd_rin (b.length + 1) b (-1) 64 hb (by omega)
  have hq := fun (K : Nat × Int × List CV → Option X) => refRead_eq (k := k) K b hb (by omega) (by omega)
  dsimp only at hq ⊢
  generalize rdT (b.length + 1) b (-1) 64 = r at hr hq hk ⊢
  obtain ⟨e, n, ts⟩ := r
  dsimp only at hr hq hk ⊢
  cases he : e != 0 with
  | true =>
    refine (bifT rfl).trans ?_
    refine (hq _).trans ?_
    rw [he]
    refine (bifT rfl).trans ?_
    refine (bifT (beq_self_eq_true _)).trans ?_
    exact refSame_eq (k := k) _ .nil .nil (by simp [TS.sz]; omega) (by simp [TS.len]) trivial trivial
  | false =>
    have he' : e = 0 := by simpa using he
    obtain ⟨r1, r2, r3, r4, r5, r6, r7⟩ := hr he'
    refine (bifF rfl).trans ?_
    refine (hq _).trans ?_
    rw [he]
    refine (bifF rfl).trans ?_
    refine (bifT (beq_self_eq_true _)).trans ?_
    dsimp only
    rw [tk_row]
    refine (refSame_eq (k := k) _ ts ts (by omega) (by omega) r6 r5).trans ?_
    rw [decide_eq_true rfl]
theorem wr_again (ts : TS) (h : rightB ts = true) (hw : (wr ts).1 = 0) : rdT ((wr ts).2.length + 1) (wr ts).2 (-1) 64 = (0, (64 : Int) - ts.cnt, ts) := by
  have := rightB_spec h
  exact rd_wr ts (-1) 64 _ this.2 hw (by omega) (Nat.lt_succ_self _)
theorem readT_wr {k : Nat} (K : Nat × Int × List CV → Option X) (ts : TS) (h : rightB ts = true) (hw : (wr ts).1 = 0) (hf : ts.fit) (hk : 5000000 < k) : f16 k K (by8 (wr ts).2) = K (ts.len, 0, ts.row) := by
  have hl := wrT_len ts
  unfold wrT at hl
  rw [if_pos h] at hl
  refine (readT_eq K (wr ts).2 (wr_byt ts (-1) (rightB_spec h).2 hf hw) (by omega) (by omega)).trans ?_
  dsimp only
  rw [wr_again ts h hw]
  rfl
theorem wrT_ok {ts : TS} (h : (wrT ts).1 = 0) : rightB ts = true ∧ (wr ts).1 = 0 ∧ wrT ts = wr ts := by
  unfold wrT at h ⊢
  split at h
  · next q => exact ⟨q, h, by rw [if_pos q]⟩
  · cases h
theorem back_j {k : Nat} (K : Bool → Option X) (b : List Int) (hb : Byt b) (hl : b.length ≤ 4000) (hk : 30000000 + (rdT (b.length + 1) b (-1) 64).2.2.sz < k) :
    f6_J1 (fun X => @f9 X k) (fun X => @f10 X k) (fun X => @f11 X k) (fun X => @f16 X k) (fun X => @f18 X k) (fun X => @f13 X k) k K (by8 b) () = K true := by
  unfold f6_J1
  refine (readT_eq _ b hb (by omega) (by omega)).trans ?_
  have hr := rd_rin (b.length + 1) b (-1) 64 hb (by omega)
  have hn := (rdT_left (b.length + 1) b (-1) 64 (by omega)).2 (by omega)
  dsimp only
  generalize rdT (b.length + 1) b (-1) 64 = r at hr hk hn ⊢
  obtain ⟨e, n, ts⟩ := r
  dsimp only at hr hk hn ⊢
  cases he : e != 0 with
  | true =>
    refine (bifT rfl).trans ?_
    exact bifT rfl
  | false =>
    have he' : e = 0 := by simpa using he
    obtain ⟨r1, r2, r3, r4, r5, r6, r7⟩ := hr he'
    refine (bifF rfl).trans ?_
    refine (bifF rfl).trans ?_
    rw [tk_row]
    have hright : rightB ts = true := by
      unfold rightB
      have := hn.2 he'
      rw [r1, decide_eq_true (by omega)]; rfl
    have hwr : wrT ts = wr ts := by unfold wrT; rw [if_pos hright]
    refine (writeT_eq _ ts (by omega) (by omega) r6).trans ?_
    rw [hwr]
    dsimp only
    rw [d8]
    refine (readT_wr _ ts hright r3 r5 (by omega)).trans ?_
    refine (rightT_eq _ ts (by omega) (by omega) r6).trans ?_
    rw [rgt_right, hright]
    refine (bifT rfl).trans ?_
    refine (bifT (beq_iff_eq.2 r3)).trans ?_
    refine (bifT rfl).trans ?_
    refine (bifT (decide_eq_true (by rw [by8_length]; omega))).trans ?_
    dsimp only
    rw [tk_row]
    refine (refSame_eq (k := k) _ ts ts (by omega) (by omega) r6 r5).trans ?_
    rw [decide_eq_true rfl]
theorem back_eq {k : Nat} (K : Bool → Option X) (ts : TS) (b : List Int) (hb : Byt b) (hl : ts.len ≤ 9223372036854775807) (hf : ts.wf) (hk : 30000000 + ts.sz + (rdT (b.length + 1) b (-1) 64).2.2.sz < k) : f6 k K ts.row (by8 b) = K true := by
  have ho := hf.ok
  unfold f6 f6_A f6_T
  refine (alive_eq _ (by omega)).trans ?_
  refine (bifF rfl).trans ?_
  refine (few_eq _ ts (by omega) hl ho).trans ?_
  cases h : few ts with
  | false => exact bifT rfl
  | true =>
    refine (bifF rfl).trans ?_
    by_cases h4 : b.length > 4000
    · exact bifT (decide_eq_true (by rw [by8_length]; omega))
    refine (bifF (decide_eq_false (by rw [by8_length]; omega))).trans ?_
    refine (writeT_eq _ ts (by omega) hl ho).trans ?_
    dsimp only
    by_cases he : (wrT ts).1 = 0
    · refine (bifT (beq_iff_eq.2 he)).trans ?_
      obtain ⟨w1, w2, w3⟩ := wrT_ok he
      have hfit := wr_fit ts (-1) (rightB_spec w1).2 hf w2
      rw [w3, d8]
      refine (readT_wr _ ts w1 w2 hfit (by omega)).trans ?_
      refine (bifF rfl).trans ?_
      dsimp only
      rw [tk_row]
      refine (refSame_eq (k := k) _ ts ts (by omega) hl ho hfit).trans ?_
      rw [decide_eq_true rfl]
      refine (bifF rfl).trans ?_
      exact back_j K b hb (by omega) (by omega)
    · refine (bifF (beq_eq_false_iff_ne.2 he)).trans ?_
      exact back_j K b hb (by omega) (by omega)
/-- One list behind another. -/
def TS.app : TS → TS → TS
  | .nil, y => y
  | .cons k i v ks r, y => .cons k i v ks (r.app y)
theorem app_row : ∀ (x y : TS), (x.app y).row = x.row ++ y.row
  | .nil, y => rfl
  | .cons k i v ks r, y => by simp [TS.app, TS.row, app_row r y]
theorem app_len : ∀ (x y : TS), (x.app y).len = x.len + y.len
  | .nil, y => by simp [TS.app, TS.len]
  | .cons k i v ks r, y => by simp only [TS.app, TS.len, app_len r y]; omega
theorem app_sz : ∀ (x y : TS), (x.app y).sz + 1 = x.sz + y.sz
  | .nil, y => by simp only [TS.app, TS.sz]; omega
  | .cons k i v ks r, y => by have := app_sz r y; simp only [TS.app, TS.sz]; omega
theorem app_cnt : ∀ (x y : TS), (x.app y).cnt = x.cnt + y.cnt
  | .nil, y => by simp [TS.app, TS.cnt]
  | .cons k i v ks r, y => by simp only [TS.app, TS.cnt, app_cnt r y]; omega
theorem app_ok : ∀ {x y : TS}, x.ok → y.ok → (x.app y).ok
  | .nil, y, _, h => h
  | .cons k i v ks r, y, h, h2 => ⟨h.1, h.2.1, h.2.2.1, app_ok h.2.2.2 h2⟩
theorem app_fit : ∀ {x y : TS}, x.fit → y.fit → (x.app y).fit
  | .nil, y, _, h => h
  | .cons k i v ks r, y, h, h2 => ⟨h.1, h.2.1, h.2.2.1, app_fit h.2.2.2 h2⟩
theorem app_rin : ∀ (x y : TS) (p : Int), rin (x.app y) p = (rin x p && rin y p)
  | .nil, y, p => by simp [TS.app, rin]
  | .cons k i v ks r, y, p => by
    have := app_rin r y p
    generalize rin y p = z at this ⊢
    unfold TS.app
    unfold rin
    rw [this]
    split
    · rfl
    · split
      · split <;> rfl
      · split
        · rfl
        · rw [Bool.and_assoc]
theorem app_wr : ∀ (x y : TS), (wr x).1 = 0 → (wr y).1 = 0 → wr (x.app y) = (0, (wr x).2 ++ (wr y).2)
  | .nil, y, _, h => by
    unfold TS.app
    rw [show wr y = ((wr y).1, (wr y).2) from rfl, h]; rfl
  | .cons k i v ks r, y, h, h2 => by
    obtain ⟨w1, w2, w3, w4⟩ := wr_cons k i v ks r h
    have ih := app_wr r y w3 h2
    unfold TS.app
    rw [wr_mk k i v ks (r.app y) w1 w2 (by rw [ih]), ih, w4]
    simp only [List.append_assoc]
theorem len_cnt : ∀ (x : TS), x.len ≤ x.cnt
  | .nil => Nat.le_refl _
  | .cons k i v ks r => by have := len_cnt r; simp only [TS.len, TS.cnt]; omega
theorem joins_eq {k : Nat} (K : Bool → Option X) (a b : TS) (la : a.len ≤ 9223372036854775807) (fa : a.wf) (lb : b.len ≤ 9223372036854775807) (fb : b.wf) (hk : 30000000 + a.sz + b.sz < k) : f8 k K a.row b.row = K true := by
  have oa := fa.ok
  have ob := fb.ok
  unfold f8 f8_A f8_T
  refine (alive_eq _ (by omega)).trans ?_
  refine (bifF rfl).trans ?_
  refine (few_eq _ a (by omega) la oa).trans ?_
  cases few a with
  | false => exact bifT rfl
  | true =>
  refine (bifF rfl).trans ?_
  refine (few_eq _ b (by omega) lb ob).trans ?_
  cases few b with
  | false => exact bifT rfl
  | true =>
  refine (bifF rfl).trans ?_
  refine (writeT_eq _ a (by omega) la oa).trans ?_
  refine (writeT_eq _ b (by omega) lb ob).trans ?_
  dsimp only
  by_cases ea : (wrT a).1 = 0
  · refine (bifF (by rw [ea]; rfl)).trans ?_
    by_cases eb : (wrT b).1 = 0
    · refine (bifF (by rw [eb]; rfl)).trans ?_
      obtain ⟨a1, a2, a3⟩ := wrT_ok ea
      obtain ⟨b1, b2, b3⟩ := wrT_ok eb
      have ha := rightB_spec a1
      have hb := rightB_spec b1
      have fita := wr_fit a (-1) ha.2 fa a2
      have fitb := wr_fit b (-1) hb.2 fb b2
      have ca := len_cnt a
      have cb := len_cnt b
      rw [row_len, row_len]
      refine (grdT (decide_eq_true (by omega))).trans ?_
      refine (grdT (decide_eq_true (by omega))).trans ?_
      have hrow : List.take (0 + a.len + b.len) (List.drop 0 (List.take (0 + a.len) (List.take 0 [] ++ a.row) ++ b.row)) = (a.app b).row := by
        rw [app_row, List.drop_zero, List.take_nil, List.nil_append, Nat.zero_add, ← row_len a, List.take_length, ← row_len b, ← List.length_append, List.take_length]
      rw [hrow]
      have hal := app_len a b
      have hasz := app_sz a b
      have hac := app_cnt a b
      have oab := app_ok oa ob
      have fab := app_fit fita fitb
      have wab := app_wr a b a2 b2
      refine (writeT_eq _ (a.app b) (by omega) (by omega) oab).trans ?_
      refine (count_eq _ (a.app b) 64 (by omega) (by omega) oab).trans ?_
      rw [ctW_min (a.app b) 64 0 (by omega) (by omega) (by omega)]
      by_cases c : (a.app b).cnt > 64
      · refine (bifT (decide_eq_true (by omega))).trans ?_
        have : wrT (a.app b) = (1, []) := by
          unfold wrT rightB
          rw [decide_eq_false (by omega)]; rfl
        rw [this]
        rfl
      · refine (bifF (decide_eq_false (by omega))).trans ?_
        have hright : rightB (a.app b) = true := by
          unfold rightB
          rw [app_rin, ha.2, hb.2, decide_eq_true (by omega)]; rfl
        have hwr : wrT (a.app b) = (0, (wr a).2 ++ (wr b).2) := by unfold wrT; rw [if_pos hright, wab]
        rw [hwr, a3, b3]
        have lna := wrT_len a
        have lnb := wrT_len b
        rw [a3] at lna
        rw [b3] at lnb
        dsimp only
        rw [d8, d8, d8]
        refine (copy_eq _ (wr a).2 (by omega) (by omega)).trans ?_
        dsimp only
        refine (grdT (decide_eq_true (by rw [by8_length]; omega))).trans ?_
        have hb8 : List.take ((wr a).2.length + (by8 (wr b).2).length) (List.drop 0 (List.take (wr a).2.length (by8 (wr a).2) ++ by8 (wr b).2)) = by8 ((wr a).2 ++ (wr b).2) := by
          rw [List.drop_zero, t8', ← by8_append, by8_length, ← List.length_append, t8']
        rw [hb8]
        have hrd := fun (K : Nat × Int × List CV → Option X) => readT_wr (k := k) K (a.app b) hright (by rw [wab]) fab (by omega)
        rw [wab] at hrd
        refine (hrd _).trans ?_
        refine (bifT rfl).trans ?_
        refine (bifT rfl).trans ?_
        refine (copy_eq _ (wr a).2 (by omega) (by omega)).trans ?_
        dsimp only
        refine (grdT (decide_eq_true (by rw [by8_length]; omega))).trans ?_
        rw [hb8]
        refine (same_eq _ _ _ (by rw [List.length_append]; omega) (by rw [List.length_append]; omega)).trans ?_
        refine (bifT (decide_eq_true rfl)).trans ?_
        rw [tk_row]
        refine (tSame_eq _ (a.app b) (a.app b) (by omega) (by omega) oab fab fab).trans ?_
        rw [decide_eq_true rfl]
    · exact bifT (bne_iff_ne.2 eb)
  · exact bifT (bne_iff_ne.2 ea)
theorem law_reads (x0 : List Int) (w0 : x0.length ≤ maxLen ∧ ∀ y ∈ x0, (Lit.int .u8 y).wf = true) : ∃ k, ∀ K : Bool → Option Out, f4 k K (x0.map fun y => .int .u8 y) = K true :=
  ⟨5000 + (rdT (x0.length + 1) x0 (-1) 64).2.2.sz + 1, fun K => reads_eq K x0 (byt_wf w0.2) (by omega)⟩
theorem law_back (x0 : TS) (w0 : x0.len ≤ maxLen ∧ x0.wf) (x1 : List Int) (w1 : x1.length ≤ maxLen ∧ ∀ y ∈ x1, (Lit.int .u8 y).wf = true) : ∃ k, ∀ K : Bool → Option Out, f6 k K x0.row (x1.map fun y => .int .u8 y) = K true :=
  ⟨30000000 + x0.sz + (rdT (x1.length + 1) x1 (-1) 64).2.2.sz + 1, fun K => back_eq K x0 x1 (byt_wf w1.2) w0.1 w0.2 (by omega)⟩
theorem law_joins (x0 : TS) (w0 : x0.len ≤ maxLen ∧ x0.wf) (x1 : TS) (w1 : x1.len ≤ maxLen ∧ x1.wf) : ∃ k, ∀ K : Bool → Option Out, f8 k K x0.row x1.row = K true :=
  ⟨30000000 + x0.sz + x1.sz + 1, fun K => joins_eq K x0 x1 w0.1 w0.2 w1.1 w1.2 (by omega)⟩
end
end Go.Proofs.YtkkknhfbcflkfaaD
