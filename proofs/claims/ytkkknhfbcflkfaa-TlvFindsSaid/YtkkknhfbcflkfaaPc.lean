/- Right lists as bytes: the two answers. -/
import Derived.Test.YtkkknhfbcflkfaaPb
namespace Go.Proofs.YtkkknhfbcflkfaaD
open Go Go.Proofs.YtkkknhfbcflkfaaS Go.Proofs
set_option linter.unusedVariables false
set_option linter.unusedSimpArgs false
section
variable {X : Type}
theorem d8 (P : List Int) : List.take P.length (List.drop 0 (by8 P)) = by8 P := by rw [List.drop_zero]; exact t8' P
def tailB (n : Int) : List Int := if n > 255 then [n / 256, n % 256] else [n]
theorem tailB_len (n : Int) : (tailB n).length = if n > 255 then 2 else 1 := by unfold tailB; split <;> rfl
theorem tail_eq {k : Nat} (K : Nat × List CV → Option X) (n : Int) (h0 : 0 ≤ n) (h1 : n ≤ 65535) : f43 k K n = K ((tailB n).length, by8 (tailB n)) := by
  unfold f43 f43_A f43_T tailB
  by_cases h : n > 255
  · rw [if_pos h]
    refine (bifT (decide_eq_true h)).trans ?_
    rw [fdiv_eq _ (by decide), wrapU8, wrapU8]
    have e1 : n / 2 ^ 8 % 256 = n / 256 := by omega
    rw [e1]; rfl
  · rw [if_neg h]
    refine (bifF (decide_eq_false h)).trans ?_
    rw [wrapU8, show n % 256 = n by omega]; rfl
def lenF (n : Int) : Int := if n < 8 then n else if n < 256 then 8 else 16
def hdB (k i : Int) (n : Nat) : List Int := [k * 64 + (if i > 255 then 32 else 0) + lenF n] ++ tailB i ++ (if (n : Int) < 8 then [] else tailB n)
theorem or3 {k t n : Int} (hk : 0 ≤ k ∧ k ≤ 3) (ht : t = 1 ∨ t = 2) (hn : 0 ≤ n ∧ n ≤ 7) :
    IntKind.wrap .u8 (bop .or .i64 (bop .or .i64 (IntKind.wrap .i64 (k * 2 ^ 6)) (IntKind.wrap .i64 (IntKind.wrap .i64 (t - 1) * 2 ^ 5))) n) = k * 64 + (t - 1) * 32 + n := by
  have a1 : k = 0 ∨ k = 1 ∨ k = 2 ∨ k = 3 := by omega
  have a2 : n = 0 ∨ n = 1 ∨ n = 2 ∨ n = 3 ∨ n = 4 ∨ n = 5 ∨ n = 6 ∨ n = 7 := by omega
  rcases a1 with rfl | rfl | rfl | rfl <;> rcases ht with rfl | rfl <;> rcases a2 with rfl | rfl | rfl | rfl | rfl | rfl | rfl | rfl <;> rfl
theorem or3' {k t u : Int} (hk : 0 ≤ k ∧ k ≤ 3) (ht : t = 1 ∨ t = 2) (hu : u = 1 ∨ u = 2) :
    IntKind.wrap .u8 (bop .or .i64 (bop .or .i64 (IntKind.wrap .i64 (k * 2 ^ 6)) (IntKind.wrap .i64 (IntKind.wrap .i64 (t - 1) * 2 ^ 5))) (IntKind.wrap .i64 (u * 2 ^ 3))) = k * 64 + (t - 1) * 32 + u * 8 := by
  have a1 : k = 0 ∨ k = 1 ∨ k = 2 ∨ k = 3 := by omega
  rcases a1 with rfl | rfl | rfl | rfl <;> rcases ht with rfl | rfl <;> rcases hu with rfl | rfl <;> rfl
theorem head_eq {k : Nat} (K : Nat × List CV → Option X) (a i : Int) (v ks : List CV) (n : Nat) (hk : 10 < k) (ha : 0 ≤ a ∧ a ≤ 3) (hi : 0 ≤ i ∧ i ≤ 65535) (hn : n ≤ 65535) :
    f36 k K (.agg [.int .i64 a, .int .i64 i, .slc none v, .slc (some 4) ks]) (n : Int) = K ((hdB a i n).length, by8 (hdB a i n)) := by
  unfold f36 f36_A f36_T
  refine (grdT rfl).trans ?_
  refine (grdT rfl).trans ?_
  refine (grdT rfl).trans ?_
  refine (grdT rfl).trans ?_
  refine (grdT rfl).trans ?_
  refine (tail_eq _ i hi.1 hi.2).trans ?_
  dsimp only
  have ht : ((tailB i).length : Int) = 1 ∨ ((tailB i).length : Int) = 2 := by rw [tailB_len]; split <;> simp
  have hti : (((tailB i).length : Int) - 1) * 32 = if i > 255 then 32 else 0 := by rw [tailB_len]; split <;> simp
  have hcell : CV.toI (CV.cellD 0 (CV.agg [CV.int IntKind.i64 a, CV.int IntKind.i64 i, CV.slc none v, CV.slc (some 4) ks])) = a := rfl
  rw [hcell]
  by_cases h7 : n ≤ 7
  · refine (bifT (decide_eq_true (by omega))).trans ?_
    rw [or3 ha ht ⟨by omega, by omega⟩, hti, d8, by8_length]
    have e : hdB a i n = [a * 64 + (if i > 255 then 32 else 0) + n] ++ tailB i := by
      unfold hdB lenF
      rw [if_pos (show (n : Int) < 8 by omega), if_pos (show (n : Int) < 8 by omega), List.append_nil]
    rw [e]
    have tl : (tailB i).length ≤ 2 := by rw [tailB_len]; split <;> omega
    refine (grdT (decide_eq_true (by omega))).trans ?_
    rw [show List.take 1 [CV.int IntKind.u8 (a * 64 + (if i > 255 then 32 else 0) + (n : Int))] = by8 [a * 64 + (if i > 255 then 32 else 0) + (n : Int)] from rfl, ← by8_append]
    rw [show 1 + (tailB i).length = ([a * 64 + (if i > 255 then 32 else 0) + (n : Int)] ++ tailB i).length by simp; omega, t8]
  · refine (bifF (decide_eq_false (by omega))).trans ?_
    refine (tail_eq _ n (by omega) (by omega)).trans ?_
    dsimp only
    have hu : ((tailB (n : Int)).length : Int) = 1 ∨ ((tailB (n : Int)).length : Int) = 2 := by rw [tailB_len]; split <;> simp
    rw [or3' ha ht hu, hti, d8, d8]
    have e0 : List.take 3 (List.drop 0 [CV.slc none (List.take 1 (List.drop 0 (List.take 1 [CV.int IntKind.u8 (a * 64 + (if i > 255 then 32 else 0) + ((tailB (n : Int)).length : Int) * 8)]))), CV.slc none (by8 (tailB i)), CV.slc none (by8 (tailB (n : Int)))]) = parts [[a * 64 + (if i > 255 then 32 else 0) + ((tailB (n : Int)).length : Int) * 8], tailB i, tailB (n : Int)] := rfl
    have e1 : hdB a i n = [a * 64 + (if i > 255 then 32 else 0) + ((tailB (n : Int)).length : Int) * 8] ++ tailB i ++ tailB (n : Int) := by
      unfold hdB lenF
      rw [if_neg (show ¬ (n : Int) < 8 by omega), if_neg (show ¬ (n : Int) < 8 by omega)]
      have e3 : (if (n : Int) < 256 then (8 : Int) else 16) = ((tailB (n : Int)).length : Int) * 8 := by
        rw [tailB_len]
        by_cases q : (n : Int) > 255
        · rw [if_pos q, if_neg (by omega)]; rfl
        · rw [if_neg q, if_pos (by omega)]; rfl
      rw [e3]
    have tl : (tailB i).length ≤ 2 := by rw [tailB_len]; split <;> omega
    have tl2 : (tailB (n : Int)).length ≤ 2 := by rw [tailB_len]; split <;> omega
    have hc := concat_eq (k := k) (fun u3 => K (u3.1, List.take (0 + u3.1) u3.2)) [[a * 64 + (if i > 255 then 32 else 0) + ((tailB (n : Int)).length : Int) * 8], tailB i, tailB (n : Int)] (by simp; omega) (by simp; omega) (by simp)
    rw [← e0] at hc
    refine hc.trans ?_
    dsimp only
    have e2 : [[a * 64 + (if i > 255 then 32 else 0) + ((tailB (n : Int)).length : Int) * 8], tailB i, tailB (n : Int)].flatten = hdB a i n := by rw [e1]; simp
    rw [e2, t8]
/-- A right list's bytes, or the error. -/
def wr : TS → Int × List Int
  | .nil => (0, [])
  | .cons k i v ks r =>
    match (if hold k = true then wr ks else (0, v)) with
    | (e, val) => if e ≠ 0 then (e, []) else if val.length > 65535 then (2, []) else match wr r with
      | (e, rest) => if e ≠ 0 then (e, []) else (0, hdB k i val.length ++ val ++ rest)
theorem wr_err : ∀ (ts : TS), (wr ts).1 ≠ 0 → (wr ts).2 = []
  | .nil => fun h => absurd rfl h
  | .cons k i v ks r => fun h => by
    unfold wr at h ⊢
    generalize (if hold k = true then wr ks else (0, v)) = q at h ⊢
    obtain ⟨e, val⟩ := q
    dsimp only at h ⊢
    split
    · rfl
    · next he =>
      rw [if_neg he] at h
      split
      · rfl
      · next hl =>
        rw [if_neg hl] at h
        generalize wr r = q2 at h ⊢
        obtain ⟨e2, rest⟩ := q2
        dsimp only at h ⊢
        split
        · rfl
        · next he2 => rw [if_neg he2] at h; exact absurd rfl h
theorem hdB_len (k i : Int) (n : Nat) : (hdB k i n).length ≤ 5 ∧ 2 ≤ (hdB k i n).length := by
  have h1 := tailB_len i
  have h2 := tailB_len (n : Int)
  unfold hdB
  by_cases q : (n : Int) < 8
  · rw [if_pos q]; simp only [List.length_append, List.length_cons, List.length_nil]; split at h1 <;> omega
  · rw [if_neg q]; simp only [List.length_append, List.length_cons, List.length_nil]; split at h1 <;> split at h2 <;> omega
theorem wr_len : ∀ (ts : TS), (wr ts).2.length ≤ 65540 * ts.cnt
  | .nil => by simp [wr]
  | .cons k i v ks r => by
    have hr := wr_len r
    unfold wr TS.cnt
    generalize (if hold k = true then wr ks else (0, v)) = q
    obtain ⟨e, val⟩ := q
    dsimp only
    split
    · simp
    · split
      · simp
      · next hl =>
        generalize wr r = q2 at hr
        obtain ⟨e2, rest⟩ := q2
        dsimp only at hr ⊢
        split
        · simp
        · have := (hdB_len k i val.length).1
          simp only [List.length_append]
          omega
theorem rin_cons {k i : Int} {v : List Int} {ks r : TS} {p : Int} (h : rin (.cons k i v ks r) p = true) : (0 ≤ k ∧ k ≤ 3) ∧ (0 ≤ i ∧ i ≤ 65535) ∧ (hold k = true → v = [] ∧ rin ks k = true) ∧ (hold k = false → ks = .nil) ∧ rin r p = true ∧ inK k p = true := by
  unfold rin at h
  split at h
  · cases h
  · next hb =>
    have hb' : inK k p = true ∧ 0 ≤ i ∧ i ≤ 65535 := by
      refine ⟨?_, ?_, ?_⟩
      · cases q : inK k p with
        | true => rfl
        | false => exact absurd (.inl q) hb
      · exact Int.not_lt.1 fun q => hb (.inr (.inl q))
      · exact Int.not_lt.1 fun q => hb (.inr (.inr q))
    have hk := inK_kind hb'.1
    split at h
    · next d =>
      have e : hold k = false := by rcases d with rfl | rfl <;> rfl
      split at h
      · cases h
      · next hn =>
        have hn' : ks = .nil := by simpa using hn
        exact ⟨by rcases d with rfl | rfl <;> omega, hb'.2, (fun q => by rw [e] at q; cases q), fun _ => hn', h, hb'.1⟩
    · next d =>
      have e : k = 0 ∨ k = 2 := by
        rcases hk with ⟨q, _⟩ | ⟨q, _⟩
        · exact absurd q d
        · exact q
      have e2 : hold k = true := by rcases e with rfl | rfl <;> rfl
      split at h
      · cases h
      · next hn =>
        rw [Bool.and_eq_true] at h
        exact ⟨by rcases e with rfl | rfl <;> omega, hb'.2, fun _ => ⟨by simpa using hn, h.1⟩, (fun q => by rw [e2] at q; cases q), h.2, hb'.1⟩
/-- What comes out behind what is there. -/
def WRes (K : Nat × Int × List CV → Option X) (P : List Int) (r : Int × List Int) : Option X := bif (r.1 != 0) then K (0, r.1, []) else K ((P ++ r.2).length, 0, by8 (P ++ r.2))
theorem write_loop : ∀ (ts : TS) (k kk i : Nat) (R : List CV) (p : Int) (P : List Int) (K : Nat × Int × List CV → Option X), ts.sz + 10 < k → ts.len < kk → R.drop i = ts.row → R.length ≤ 9223372036854775807 → ts.ok → rin ts p = true → P.length + 65540 * ts.cnt ≤ 1000000000 →
    iterV (f24_L1 (fun X => @f34 X k) (fun X => @f36 X k) (fun X => @f35 X k) (f24_r k) k K) kk (P.length, R, (R.length : Int), (i : Int), by8 P) = WRes K P (wr ts)
  | .nil, k, kk, i, R, p, P, K, hk, hkk, hR, hl, _, _, _ => by
    obtain ⟨kk, rfl⟩ : ∃ j, kk = j + 1 := ⟨kk - 1, by simp [TS.len] at hkk; omega⟩
    refine (iterV_one _ _ _).trans ?_
    unfold f24_L1 f24_T1
    dsimp only
    have := drop_none hR
    refine (bifF (decide_eq_false (by omega))).trans ?_
    rw [t8]
    show _ = K ((P ++ []).length, 0, by8 (P ++ []))
    rw [List.append_nil]
  | .cons a id v ks r, k, kk, i, R, p, P, K, hk, hkk, hR, hl, hok, hrin, hP => by
    obtain ⟨ho1, ho2, ho3, ho4⟩ := hok
    obtain ⟨r1, r2, r3, r4, r5, _⟩ := rin_cons hrin
    obtain ⟨kk, rfl⟩ : ∃ j, kk = j + 1 := ⟨kk - 1, by simp [TS.len] at hkk; omega⟩
    obtain ⟨h1, h2, h3⟩ := drop_next hR
    simp only [TS.sz, TS.len, TS.cnt] at hk hkk hP
    refine (iterV_one _ _ _).trans ?_
    have ih := fun P => write_loop r k kk (i + 1) R p P K
    generalize hrec : iterV (f24_L1 (fun X => @f34 X k) (fun X => @f36 X k) (fun X => @f35 X k) (f24_r k) k K) kk = rec at *
    -- behind the value
    have tl : ∀ val : List Int, f24_J1 (fun X => @f34 X k) (fun X => @f36 X k) (fun X => @f35 X k) (f24_r k) k K (CV.agg [CV.int IntKind.i64 a, CV.int IntKind.i64 id, CV.slc none (by8 v), CV.slc (some 4) ks.row]) rec (P.length, R, (R.length : Int), (i : Int), by8 P) (by8 val) =
        if val.length > 65535 then K (0, 2, []) else WRes K P (match wr r with
          | (e, rest) => if e ≠ 0 then (e, []) else (0, hdB a id val.length ++ val ++ rest)) := fun val => by
      unfold f24_J1
      dsimp only
      by_cases c : val.length > 65535
      · rw [if_pos c]
        exact bifT (decide_eq_true (by rw [by8_length]; omega))
      rw [if_neg c]
      refine (bifF (decide_eq_false (by rw [by8_length]; omega))).trans ?_
      rw [by8_length]
      refine (head_eq _ a id (by8 v) ks.row val.length (by omega) r1 r2 (by omega)).trans ?_
      dsimp only
      have hh := (hdB_len a id val.length).1
      rw [d8, d8]
      have hc := concat_eq (k := k) (fun u28 => rec (u28.1, R, (R.length : Int), IntKind.wrap .i64 ((i : Int) + 1), u28.2)) [P, hdB a id val.length, val] (by simp; omega) (by simp; omega) (by simp)
      have e0 : List.take 3 (List.drop 0 [CV.slc none (by8 P), CV.slc none (by8 (hdB a id val.length)), CV.slc none (by8 val)]) = parts [P, hdB a id val.length, val] := rfl
      rw [e0]
      refine hc.trans ?_
      dsimp only
      have e1 : [P, hdB a id val.length, val].flatten = P ++ (hdB a id val.length ++ val) := by simp
      rw [e1, wrap64_n (by omega)]
      refine (ih (P ++ (hdB a id val.length ++ val)) (by omega) (by omega) h2 hl ho4 r5 (by simp only [List.length_append]; omega)).trans ?_
      unfold WRes
      generalize wr r = q
      obtain ⟨e, rest⟩ := q
      dsimp only
      by_cases he : e = 0
      · rw [if_neg (by simp [he])]
        rw [he]
        simp only [bne_self_eq_false, cond_false, List.append_assoc]
      · rw [if_pos he]
        have : (e != 0) = true := by simpa using he
        simp only [this, cond_true]
    unfold f24_L1 f24_T1
    dsimp only
    refine (bifT (decide_eq_true (by omega))).trans ?_
    refine (grdT (dec0 _)).trans ?_
    rw [Int.toNat_natCast]
    refine (bAt h1 _).trans ?_
    refine (grdT rfl).trans ?_
    refine (grdT rfl).trans ?_
    refine (grdT rfl).trans ?_
    refine (grdT rfl).trans ?_
    refine (grdT rfl).trans ?_
    refine (holds_eq _ a).trans ?_
    have hres : ∀ val : List Int, (if val.length > 65535 then K (0, 2, []) else WRes K P (match wr r with
          | (e, rest) => if e ≠ 0 then (e, []) else (0, hdB a id val.length ++ val ++ rest))) = WRes K P (if val.length > 65535 then (2, []) else match wr r with
          | (e, rest) => if e ≠ 0 then (e, []) else (0, hdB a id val.length ++ val ++ rest)) := fun val => by
      split <;> rfl
    cases c5 : hold a with
    | false =>
      refine (bifF rfl).trans ?_
      rw [show wr (.cons a id v ks r) = (if v.length > 65535 then (2, []) else match wr r with
          | (e, rest) => if e ≠ 0 then (e, []) else (0, hdB a id v.length ++ v ++ rest)) by
        conv => lhs; unfold wr
        rw [c5]; rfl]
      exact (tl v).trans (hres v)
    | true =>
      refine (bifT rfl).trans ?_
      obtain ⟨k', rfl⟩ : ∃ j, k = j + 1 := ⟨k - 1, by omega⟩
      have hls := len_sz ks
      refine (write_loop ks k' k' 0 ks.row a [] _ (by omega) (by omega) rfl (by rw [row_len]; exact ho2) ho3 (r3 c5).2 (by simp; omega)).trans ?_
      unfold WRes
      rw [List.nil_append]
      have hw := wr_err ks
      rw [show wr (.cons a id v ks r) = (match wr ks with
          | (e, val) => if e ≠ 0 then (e, []) else if val.length > 65535 then (2, []) else match wr r with
          | (e, rest) => if e ≠ 0 then (e, []) else (0, hdB a id val.length ++ val ++ rest)) by
        conv => lhs; unfold wr
        rw [c5]; rfl]
      generalize wr ks = q at hw ⊢
      obtain ⟨e, val⟩ := q
      dsimp only at hw ⊢
      by_cases he : e = 0
      · subst he
        refine (bifF rfl).trans ?_
        rw [d8]
        refine (tl val).trans ?_
        rw [if_neg (show ¬ ((0 : Int) ≠ 0) by simp)]
        exact hres val
      · have hb : (e != 0) = true := by simpa using he
        refine (bifT hb).trans ?_
        refine (bifT hb).trans ?_
        rw [if_pos he]
        exact (bifT hb).symm
def wrT (ts : TS) : Int × List Int := if rightB ts = true then wr ts else (1, [])
theorem rightB_spec {ts : TS} (h : rightB ts = true) : ts.cnt ≤ 64 ∧ rin ts (-1) = true := by
  unfold rightB at h
  rw [Bool.and_eq_true] at h
  exact ⟨of_decide_eq_true h.1, h.2⟩
theorem wrT_len (ts : TS) : (wrT ts).2.length ≤ 4194560 := by
  unfold wrT
  split
  · next h => have := wr_len ts; have := (rightB_spec h).1; omega
  · simp
theorem wrT_err {ts : TS} (h : (wrT ts).1 ≠ 0) : (wrT ts).2 = [] := by
  unfold wrT at h ⊢
  split
  · next q => rw [if_pos q] at h; exact wr_err ts h
  · rfl
theorem writeT_eq {k : Nat} (K : Nat × Int × List CV → Option X) (ts : TS) (hk : ts.sz + 100 < k) (hl : ts.len ≤ 9223372036854775807) (ho : ts.ok) : f11 k K ts.row = K ((wrT ts).2.length, (wrT ts).1, by8 (wrT ts).2) := by
  unfold f11 f11_A f11_T wrT
  refine (rightT_eq _ ts (by omega) hl ho).trans ?_
  rw [rgt_right]
  cases h : rightB ts with
  | false => rfl
  | true =>
    rw [if_pos rfl]
    refine (bifF rfl).trans ?_
    have hs := rightB_spec h
    obtain ⟨k, rfl⟩ : ∃ j, k = j + 1 := ⟨k - 1, by omega⟩
    have := len_sz ts
    refine (write_loop ts k k 0 ts.row (-1) [] _ (by omega) (by omega) rfl (by rw [row_len]; exact hl) ho hs.2 (by simp; omega)).trans ?_
    unfold WRes
    have he := wr_err ts
    cases h2 : (wr ts).1 != 0 with
    | true =>
      rw [he (by simpa using h2)]; rfl
    | false =>
      have h3 : (wr ts).1 = 0 := by simpa using h2
      rw [h3, List.nil_append]
      show K _ = _
      rw [t8]
end
end Go.Proofs.YtkkknhfbcflkfaaD
