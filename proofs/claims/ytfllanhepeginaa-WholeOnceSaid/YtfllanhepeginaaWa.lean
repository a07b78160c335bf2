/- A request is done once: the law. -/
import Derived.Test.YtfllanhepeginaaW1
import Derived.Test.YtfllanhepeginaaW2
import Derived.Test.YtfllanhepeginaaW3
namespace Go.Proofs.YtfllanhepeginaaD
open Go Go.Proofs.YtfllanhepeginaaS Go.Proofs
set_option linter.unusedVariables false
set_option linter.unusedSimpArgs false
section
variable {X : Type}
theorem iterV_1 {V : Type} (T : (V → Option X) → V → Option X) (k : Nat) (v : V) : iterV T (k + 1) v = T (iterV T k) v := rfl
set_option maxRecDepth 100000 in
theorem sound_eq {k : Nat} (K : Bool → Option X) (hk : 100 < k) : f4 k K = K true := by
  obtain ⟨k, rfl⟩ : ∃ j, k = j + 60 := ⟨k - 60, by omega⟩
  clear hk
  kernel_rfl
/-- Powers, and their sums. -/
def p2 : Nat → Int
  | 0 => 1 | 1 => 2 | 2 => 4 | 3 => 8 | 4 => 16 | _ => 32
def q2 : Nat → Int
  | 0 => 0 | 1 => 1 | 2 => 3 | 3 => 7 | 4 => 15 | _ => 31
/-- The exchange, sent so many times again. -/
def Y (i : Int) (d : List Int) (F W : Int) (m : Nat) : Exc.Ex := ⟨7, i, d, F + W * q2 (m + 1), W * p2 m, 4 - m⟩
def nw (F W : Int) (m : Nat) : Int := F + W * q2 m
theorem m4 {m : Nat} (h : m ≤ 4) : m = 0 ∨ m = 1 ∨ m = 2 ∨ m = 3 ∨ m = 4 := by omega
structure FW (F W : Int) : Prop where
  f0 : 0 ≤ F
  f1 : F ≤ 100000
  w0 : 20 ≤ W
  w1 : W ≤ 30
theorem nw_bd {F W : Int} (h : FW F W) {m : Nat} (hm : m ≤ 4) : F ≤ nw F W m ∧ nw F W m ≤ F + 450 ∧ (m < 4 → nw F W m < nw F W (m + 1)) := by
  have h1 := h.w0
  have h2 := h.w1
  unfold nw
  rcases m4 hm with rfl | rfl | rfl | rfl | rfl <;> simp only [q2] <;> refine ⟨by omega, by omega, fun _ => ?_⟩ <;> omega
theorem Y_good {F W : Int} (h : FW F W) (i : Int) (d : List Int) (hd : d.length ≤ 100000) {m : Nat} (hm : m ≤ 4) : Exc.Goods [Y i d F W m] := fun x hx => by
  rw [List.mem_singleton] at hx
  subst hx
  obtain ⟨h1, h2, h3, h4⟩ := h
  unfold Y
  refine ⟨?_, ?_, ?_, ?_, ?_, hd⟩ <;> rcases m4 hm with rfl | rfl | rfl | rfl | rfl <;> simp only [q2, p2] <;> omega
theorem Y_meas (i : Int) (d : List Int) (F W : Int) (m : Nat) : Exc.meas [Y i d F W m] ≤ 10 := by
  have := Exc.meas_len [Y i d F W m]
  simp only [Exc.meas, Y]
  omega
theorem Y_up {F W : Int} (h : FW F W) (i : Int) (d : List Int) {m : Nat} (hm : m < 4) : Exc.upE [Y i d F W m] 0 = [Y i d F W (m + 1)] := by
  obtain ⟨h1, h2, h3, h4⟩ := h
  have e : Exc.upE [Y i d F W m] 0 = if (Y i d F W m).l = 0 then [] else [Exc.upX (Y i d F W m)] := rfl
  have hl : (Y i d F W m).l = 4 - m := rfl
  rw [e, hl, if_neg (by omega)]
  unfold Exc.upX Y Exc.mx
  rcases (show m = 0 ∨ m = 1 ∨ m = 2 ∨ m = 3 by omega) with rfl | rfl | rfl | rfl <;> simp only [q2, p2] <;> rw [if_neg (by omega)] <;> simp only [List.cons.injEq, Exc.Ex.mk.injEq, true_and, and_true] <;> omega
theorem Y_pass {F W : Int} (h : FW F W) (i : Int) (d : List Int) {m : Nat} (hm : m < 4) : Exc.passP 10 (nw F W (m + 1)) [Y i d F W m] = ([⟨7, i, d, false⟩], [Y i d F W (m + 1)]) := by
  have e : Exc.passP 10 (nw F W (m + 1)) [Y i d F W m] = if (Y i d F W m).a > nw F W (m + 1) then ([], [Y i d F W m]) else (Exc.upS (Y i d F W m) :: (Exc.passP 9 (nw F W (m + 1)) (Exc.upE [Y i d F W m] 0)).1, (Exc.passP 9 (nw F W (m + 1)) (Exc.upE [Y i d F W m] 0)).2) := rfl
  have ha : (Y i d F W m).a = nw F W (m + 1) := rfl
  rw [e, ha, if_neg (by omega), Y_up h i d hm]
  have e2 : Exc.passP 9 (nw F W (m + 1)) [Y i d F W (m + 1)] = if (Y i d F W (m + 1)).a > nw F W (m + 1) then ([], [Y i d F W (m + 1)]) else (Exc.upS (Y i d F W (m + 1)) :: (Exc.passP 8 (nw F W (m + 1)) (Exc.upE [Y i d F W (m + 1)] 0)).1, (Exc.passP 8 (nw F W (m + 1)) (Exc.upE [Y i d F W (m + 1)] 0)).2) := rfl
  have hb : (Y i d F W (m + 1)).a > nw F W (m + 1) := by
    obtain ⟨h1, h2, h3, h4⟩ := h
    show F + W * q2 (m + 1 + 1) > F + W * q2 (m + 1)
    rcases (show m = 0 ∨ m = 1 ∨ m = 2 ∨ m = 3 by omega) with rfl | rfl | rfl | rfl <;> simp only [q2] <;> omega
  rw [e2, if_pos hb]
  have : Exc.upS (Y i d F W m) = ⟨7, i, d, false⟩ := by
    rcases (show m = 0 ∨ m = 1 ∨ m = 2 ∨ m = 3 by omega) with rfl | rfl | rfl | rfl <;> rfl
  rw [this]
theorem clk_le {a b : Int} (h : b ≤ a) (h2 : a ≤ 1099511627776) : Exc.clk a b = a := by
  unfold Exc.clk
  rw [if_neg (by omega), if_neg (by omega)]
theorem cl_in {a : Int} (h : 0 ≤ a) (h2 : a ≤ 1099511627776) : Cch.cl a = a := by
  unfold Cch.cl
  rw [if_neg (show ¬ (0 > a) by omega), if_neg (by omega)]
theorem fr_in {t : Int} {x : Cch.Kp} (h : 0 ≤ t) (h2 : t ≤ 1099511627776) (ha : 0 ≤ x.a) (hb : x.a ≤ 1099511627776) : Cch.fr t x = decide (t - x.a < 247) := by
  unfold Cch.fr
  rw [cl_in h h2, wrap64 (by omega) (by omega)]
/-- What is kept. -/
structure Ks (ks : List Cch.Kp) (i : Nat) : Prop where
  un : Cch.Uniq ks
  al : ∀ x ∈ ks, x.f = 7 ∧ x.i < i ∧ 0 ≤ x.a ∧ x.a ≤ 1000000 ∧ x.r.length ≤ 20000
  len : ks.length ≤ i
theorem keep_is {ks : List Cch.Kp} (h : Cch.Uniq ks) (a b now : Int) (r : List Int) (hl : (Cch.refAt ks a b now r).length ≤ 8) : Cch.keepP ks a b now r = Cch.refAt ks a b now r := by
  rw [Cch.keep_ref h]
  unfold Cch.refKeep
  rw [if_pos hl]
theorem find_at (ks : List Cch.Kp) (a b now : Int) (r : List Int) : (Cch.refAt ks a b now r).find? (Cch.is a b) = some ⟨a, b, Cch.cl now, r⟩ := by
  unfold Cch.refAt
  rw [List.find?_append]
  have : (ks.filter (fun x => !Cch.is a b x)).find? (Cch.is a b) = none := by
    rw [List.find?_eq_none]
    intro x hx
    have := (List.mem_filter.1 hx).2
    simpa using this
  rw [this, Option.none_or]
  have e : Cch.is a b ⟨a, b, Cch.cl now, r⟩ = true := by simp [Cch.is]
  rw [List.find?_cons_of_pos e]
theorem at_len_none {ks : List Cch.Kp} {a b now : Int} {r : List Int} : (Cch.refAt ks a b now r).length ≤ ks.length + 1 := Cch.refAt_length ks a b now r
theorem at_len_some {ks : List Cch.Kp} {a b now : Int} {r : List Int} {x : Cch.Kp} (h : ks.find? (Cch.is a b) = some x) : (Cch.refAt ks a b now r).length ≤ ks.length := by
  unfold Cch.refAt
  rw [List.length_append, List.length_singleton]
  have hx : x ∈ ks := List.mem_of_find?_eq_some h
  have hp : Cch.is a b x = true := List.find?_some h
  have : (ks.filter (fun x => !Cch.is a b x)).length < ks.length := List.length_filter_lt_length_iff_exists.2 ⟨x, hx, by simp [hp]⟩
  omega
/-- What is kept behind a request's turn. -/
theorem Ks.at {ks : List Cch.Kp} {i : Nat} (h : Ks ks i) {j : Nat} (hj : j < i + 1) (hij : i ≤ j + 1) {now : Int} {r : List Int} (h0 : 0 ≤ now) (h1 : now ≤ 1000000) (hr : r.length ≤ 20000) (hl : (Cch.refAt ks 7 (j : Int) now r).length ≤ j + 1) : Ks (Cch.refAt ks 7 (j : Int) now r) (j + 1) := by
  refine ⟨Cch.refAt_uniq h.un _ _ _ _, fun x hx => ?_, hl⟩
  unfold Cch.refAt at hx
  rcases List.mem_append.1 hx with hx | hx
  · have := h.al x (List.mem_filter.1 hx).1
    exact ⟨this.1, by omega, this.2.2⟩
  · rw [List.mem_singleton] at hx
    subst hx
    rw [cl_in h0 (by omega)]
    exact ⟨rfl, by show (j : Int) < ((j + 1 : Nat) : Int); omega, h0, h1, hr⟩
/-- Between the turns. -/
structure Btw (i : Nat) (now done asked : Int) (ks : List Cch.Kp) (tn : Int) : Prop where
  ks : Ks ks i
  n0 : 0 ≤ now
  n1 : now ≤ 1000 * i
  t1 : tn ≤ now
  d0 : asked ≤ done
  d1 : done ≤ 5 * i
  a0 : 0 ≤ asked
abbrev V1 := List CV × Int × Int × Int × Int × List CV × Int × Int × Nat × List CV × Nat × Int × List CV
abbrev V2 := List CV × Int × Int × Int × Int × Int × List CV × Int × Int × Nat × Int × List CV × Int × Int × List CV × Nat × List CV × Nat × Int × List CV
theorem inner {k : Nat} (K : Bool → Option X) (rec1 : V1 → Option X) (lo msr : List CV) (rand len F W asked : Int) (i n : Nat) (m : Ms) (hF : FW F W) (hn : n ≤ 4) (hi : i ≤ 7) (hk : 3000000 < k)
    (hw : (msgW m).1 = 0) (hm : BytM m) (hmi : m.id = (i : Int)) (hF2 : F ≤ 1000 * i) (ha : 0 ≤ asked)
    (hrec : ∀ (now done tn : Int) (ks : List Cch.Kp), Btw (i + 1) now done asked ks tn → rec1 (lo, rand, now, done, asked, msr, len, ((i + 1 : Nat) : Int), ks.length, Cch.row ks, 0, tn, Exc.row []) = K true) :
    ∀ (j mm kk : Nat) (done : Int) (ks : List Cch.Kp) (fr : List Int), mm + j = n + 1 → j < kk → 0 ≤ done → done ≤ 5 * i + mm →
      (mm = 0 → Ks ks i ∧ ks.find? (Cch.is 7 i) = none ∧ asked ≤ done + 1) →
      (0 < mm → Ks ks (i + 1) ∧ asked ≤ done ∧ ∃ x, ks.find? (Cch.is 7 i) = some x ∧ x.a ≤ nw F W (mm - 1) ∧ F ≤ x.a ∧ (nw F W (mm - 1) - F < 247 → x.a = F ∧ x.r = fr)) →
      iterV (f3_L2 (fun X => @f4 X k) (fun X => @f5 X k) (fun X => @f6 X k) (fun X => @f7 X k) (fun X => @f8 X k) (fun X => @f9 X k) (fun X => @f10 X k) (fun X => @f11 X k) (fun X => @f12 X k) (fun X => @f13 X k) (fun X => @f14 X k) (fun X => @f15 X k) (fun X => @f16 X k) (fun X => @f17 X k) (fun X => @f18 X k) (fun X => @f19 X k) k K rec1) kk (lo, rand, nw F W (mm - 1), done, asked, (i : Int), by8 (msgW m).2, (n : Int), F, fr.length, (mm : Int), msr, len, (i : Int), by8 fr, ks.length, Cch.row ks, 1, nw F W (mm - 1), Exc.row [Y i (msgW m).2 F W (mm - 1)]) = K true
  | j, mm, 0, done, ks, fr, h, hj, _, _, _, _ => absurd hj (Nat.not_lt_zero _)
  | 0, mm, kk + 1, done, ks, fr, h, hj, hd0, hd1, hz, hs => by
    refine (iterV_1 _ _ _).trans ?_
    generalize iterV (f3_L2 (fun X => @f4 X k) (fun X => @f5 X k) (fun X => @f6 X k) (fun X => @f7 X k) (fun X => @f8 X k) (fun X => @f9 X k) (fun X => @f10 X k) (fun X => @f11 X k) (fun X => @f12 X k) (fun X => @f13 X k) (fun X => @f14 X k) (fun X => @f15 X k) (fun X => @f16 X k) (fun X => @f17 X k) (fun X => @f18 X k) (fun X => @f19 X k) k K rec1) kk = rec2
    unfold f3_L2 f3_T2
    dsimp only
    refine (bifF (decide_eq_false (by omega))).trans ?_
    obtain ⟨hks, had, _⟩ := hs (by omega)
    have hb := nw_bd hF (m := mm - 1) (by omega)
    have st := Exc.stop_eq (k := k) (fun u224 => bif (!u224.1) then K false else rec1 (lo, rand, nw F W (mm - 1), done, asked, msr, len, IntKind.wrap .i64 ((i : Int) + 1), ks.length, Cch.row ks, u224.2.1, u224.2.2.1, u224.2.2.2)) [Y i (msgW m).2 F W (mm - 1)] 7 (i : Int) (nw F W (mm - 1)) (by simp; omega) (by simp)
    refine Eq.trans ?_ (st.trans ?_)
    · rfl
    have e1 : [Y i (msgW m).2 F W (mm - 1)].any (Exc.is 7 i) = true := by simp [Exc.is, Y]
    have e2 : Exc.stopP [Y i (msgW m).2 F W (mm - 1)] 7 i = [] := by
      unfold Exc.stopP
      have : [Y i (msgW m).2 F W (mm - 1)].findIdx? (Exc.is 7 i) = some 0 := by simp [List.findIdx?_cons, Exc.is, Y]
      rw [this]; rfl
    rw [e1, e2]
    refine (bifF rfl).trans ?_
    dsimp only
    rw [wrap64_s (by omega)]
    exact hrec _ _ _ _ ⟨hks, by have := hF.f0; omega, by omega, Int.le_refl _, had, by omega, ha⟩
  | j + 1, mm, kk + 1, done, ks, fr, h, hj, hd0, hd1, hz, hs => by
    have hmm : mm ≤ 4 := by omega
    have hb := nw_bd hF (m := mm) hmm
    have hbp := nw_bd hF (m := mm - 1) (by omega)
    have hf0 := hF.f0
    have ih := fun done ks fr h1 h2 h3 h4 h5 h6 => inner (k := k) K rec1 lo msr rand len F W asked i n m hF hn hi hk hw hm hmi hF2 ha hrec j (mm + 1) kk done ks fr h1 h2 h3 h4 h5 h6
    rw [show mm + 1 - 1 = mm by omega] at ih
    refine (iterV_1 _ _ _).trans ?_
    generalize iterV (f3_L2 (fun X => @f4 X k) (fun X => @f5 X k) (fun X => @f6 X k) (fun X => @f7 X k) (fun X => @f8 X k) (fun X => @f9 X k) (fun X => @f10 X k) (fun X => @f11 X k) (fun X => @f12 X k) (fun X => @f13 X k) (fun X => @f14 X k) (fun X => @f15 X k) (fun X => @f16 X k) (fun X => @f17 X k) (fun X => @f18 X k) (fun X => @f19 X k) k K rec1) kk = rec2 at ih ⊢
    have hbyt := msgW_byt hm hw
    have hlen := msgW_len m
    obtain ⟨hbad, hlong, _, _⟩ := msgW_ok hw
    -- what is done at a time
    have J3 : f3_J3 (fun X => @f4 X k) (fun X => @f5 X k) (fun X => @f6 X k) (fun X => @f7 X k) (fun X => @f8 X k) (fun X => @f9 X k) (fun X => @f10 X k) (fun X => @f11 X k) (fun X => @f12 X k) (fun X => @f13 X k) (fun X => @f14 X k) (fun X => @f15 X k) (fun X => @f16 X k) (fun X => @f17 X k) (fun X => @f18 X k) (fun X => @f19 X k) k K rec2 (lo, rand, nw F W (mm - 1), done, asked, (i : Int), by8 (msgW m).2, (n : Int), F, fr.length, (mm : Int), msr, len, (i : Int), by8 fr, ks.length, Cch.row ks, 1, nw F W (mm - 1), Exc.row [Y i (msgW m).2 F W (mm - 1)]) (nw F W mm, 1, nw F W mm, Exc.row [Y i (msgW m).2 F W mm]) = K true := by
      unfold f3_J3
      refine (read_eq _ (msgW m).2 hbyt (by omega) (by omega)).trans ?_
      rw [back (by omega) hw]
      unfold ResR
      dsimp only
      have hid : (sortM m).id = (i : Int) := hmi
      rw [hid]
      have hksl : ks.length ≤ 8 ∧ (∀ x ∈ ks, x.r.length < 70368744177664 ∧ 0 ≤ x.a ∧ x.a ≤ 1000000) ∧ Cch.Uniq ks := by
        rcases Nat.eq_zero_or_pos mm with h0 | h0
        · have := (hz h0).1
          exact ⟨by have := this.len; omega, fun x hx => by have := this.al x hx; exact ⟨by omega, this.2.2.1, this.2.2.2.1⟩, this.un⟩
        · have := (hs h0).1
          exact ⟨by have := this.len; omega, fun x hx => by have := this.al x hx; exact ⟨by omega, this.2.2.1, this.2.2.2.1⟩, this.un⟩
      refine (Cch.find_eq _ ks 7 (i : Int) (nw F W mm) (by omega) (by omega) (fun x hx => (hksl.2.1 x hx).1)).trans ?_
      -- a new reply
      have fresh : Cch.findP ks 7 i (nw F W mm) = none → (0 < mm → 247 ≤ nw F W mm - F) → (∀ r : List Int, (Cch.refAt ks 7 (i : Int) (nw F W mm) r).length ≤ i + 1) → (∃ i', Ks ks i' ∧ i < i' + 1 ∧ i' ≤ i + 1) → asked ≤ done + 1 →
          (fun u207 : Nat × Bool × Nat × List CV × List CV => bif (!u207.2.1) then f16 k (fun u214 => f8 k (fun u215 => f17 k (fun u216 => f3_J2 (fun X => @f4 X k) (fun X => @f5 X k) (fun X => @f6 X k) (fun X => @f7 X k) (fun X => @f8 X k) (fun X => @f9 X k) (fun X => @f10 X k) (fun X => @f11 X k) (fun X => @f12 X k) (fun X => @f13 X k) (fun X => @f14 X k) (fun X => @f15 X k) (fun X => @f16 X k) (fun X => @f17 X k) (fun X => @f18 X k) (fun X => @f19 X k) k K rec2 ((sortM m).kind, (sortM m).code, (i : Int), (sortM m).tok.length, (sortM m).opts.length, (sortM m).body.length, 0, by8 (sortM m).tok, ops (sortM m).opts, by8 (sortM m).body) (nw F W mm, 1, nw F W mm, Exc.row [Y i (msgW m).2 F W mm]) (lo, rand, nw F W (mm - 1), done, asked, (i : Int), by8 (msgW m).2, (n : Int), F, fr.length, (mm : Int), msr, len, (i : Int), by8 fr, ks.length, Cch.row ks, 1, nw F W (mm - 1), Exc.row [Y i (msgW m).2 F W (mm - 1)]) (IntKind.wrap .i64 (done + 1), u215.1, u215.2.2, u216.1, u216.2)) 7 (i : Int) (nw F W mm) (List.take u215.1 (List.drop 0 u215.2.2)) u207.2.2.1 u207.2.2.2.1) (CV.agg [CV.int .i64 u214.1, CV.int .i64 u214.2.1, CV.int .i64 u214.2.2.1, CV.slc none (List.take u214.2.2.2.1 (List.drop 0 u214.2.2.2.2.2.2.1)), CV.slc (some 2) (List.take u214.2.2.2.2.1 (List.drop 0 u214.2.2.2.2.2.2.2.1)), CV.slc none (List.take u214.2.2.2.2.2.1 (List.drop 0 u214.2.2.2.2.2.2.2.2))])) (CV.agg [CV.int .i64 (sortM m).kind, CV.int .i64 (sortM m).code, CV.int .i64 (i : Int), CV.slc none (List.take (sortM m).tok.length (List.drop 0 (by8 (sortM m).tok))), CV.slc (some 2) (List.take (sortM m).opts.length (List.drop 0 (ops (sortM m).opts))), CV.slc none (List.take (sortM m).body.length (List.drop 0 (by8 (sortM m).body)))]) 68 0 [] (List.take 1 (List.drop 0 [CV.int .u8 (IntKind.wrap .u8 (IntKind.wrap .i64 (done + 1)))])) else f3_J2 (fun X => @f4 X k) (fun X => @f5 X k) (fun X => @f6 X k) (fun X => @f7 X k) (fun X => @f8 X k) (fun X => @f9 X k) (fun X => @f10 X k) (fun X => @f11 X k) (fun X => @f12 X k) (fun X => @f13 X k) (fun X => @f14 X k) (fun X => @f15 X k) (fun X => @f16 X k) (fun X => @f17 X k) (fun X => @f18 X k) (fun X => @f19 X k) k K rec2 ((sortM m).kind, (sortM m).code, (i : Int), (sortM m).tok.length, (sortM m).opts.length, (sortM m).body.length, 0, by8 (sortM m).tok, ops (sortM m).opts, by8 (sortM m).body) (nw F W mm, 1, nw F W mm, Exc.row [Y i (msgW m).2 F W mm]) (lo, rand, nw F W (mm - 1), done, asked, (i : Int), by8 (msgW m).2, (n : Int), F, fr.length, (mm : Int), msr, len, (i : Int), by8 fr, ks.length, Cch.row ks, 1, nw F W (mm - 1), Exc.row [Y i (msgW m).2 F W (mm - 1)]) (done, u207.1, u207.2.2.2.2, u207.2.2.1, u207.2.2.2.1)) (Cch.fnd none ks) = K true := fun hnone hold hl ⟨i', hk1, hk2, hk3⟩ had => by
        unfold Cch.fnd
        refine (bifT rfl).trans ?_
        dsimp only
        have hcv : CV.agg [CV.int .i64 (sortM m).kind, CV.int .i64 (sortM m).code, CV.int .i64 (i : Int), CV.slc none (List.take (sortM m).tok.length (List.drop 0 (by8 (sortM m).tok))), CV.slc (some 2) (List.take (sortM m).opts.length (List.drop 0 (ops (sortM m).opts))), CV.slc none (List.take (sortM m).body.length (List.drop 0 (by8 (sortM m).body)))] = (sortM m).cv := by
          rw [← hid]; exact cvR (sortM m)
        rw [hcv]
        have hone : List.take 1 (List.drop 0 [CV.int .u8 (IntKind.wrap .u8 (IntKind.wrap .i64 (done + 1)))]) = by8 [IntKind.wrap .u8 (IntKind.wrap .i64 (done + 1))] := rfl
        rw [hone]
        have htok : (sortM m).tok.length ≤ 8 := by
          unfold Long at hlong
          show m.tok.length ≤ 8
          omega
        refine (reply_eq _ (sortM m) 68 0 [] [IntKind.wrap .u8 (IntKind.wrap .i64 (done + 1))] (by omega) (by omega) (by simp) (fun p hp => by simp at hp) (by simp)).trans ?_
        dsimp only
        rw [cvR (reply (sortM m) 68 0 [] [IntKind.wrap .u8 (IntKind.wrap .i64 (done + 1))])]
        have hro : (reply (sortM m) 68 0 [] [IntKind.wrap .u8 (IntKind.wrap .i64 (done + 1))]).opts.length = 0 := by
          unfold reply
          cases (sortM m).kind == 0 <;> rfl
        generalize reply (sortM m) 68 0 [] [IntKind.wrap .u8 (IntKind.wrap .i64 (done + 1))] = rp at hro ⊢
        refine (write_eq _ rp (by omega) (by omega)).trans ?_
        unfold Res
        dsimp only
        rw [d8]
        have hrl := msgW_len rp
        generalize (msgW rp).2 = rb at hrl ⊢
        refine (Cch.keep_eq _ ks 7 (i : Int) (nw F W mm) rb (by omega) (by omega) (by omega)).trans ?_
        have hat := hl rb
        rw [keep_is hksl.2.2 7 (i : Int) (nw F W mm) rb (by omega)]
        have hKs : Ks (Cch.refAt ks 7 (i : Int) (nw F W mm) rb) (i + 1) := hk1.at hk2 hk3 (by omega) (by omega) (by omega) hat
        have hfind := find_at ks 7 (i : Int) (nw F W mm) rb
        rw [cl_in (by omega) (by omega)] at hfind
        generalize Cch.refAt ks 7 (i : Int) (nw F W mm) rb = ks' at hKs hfind ⊢
        rw [wrap64 (n := done + 1) (by omega) (by omega)]
        unfold f3_J2 f3_J1
        dsimp only
        rw [wrap64 (n := nw F W mm - F) (by omega) (by omega), wrap64_s (by omega), d8, d8]
        rcases Nat.eq_zero_or_pos mm with h0 | h0
        · refine (bifT (by rw [h0]; rfl)).trans ?_
          refine (bifF rfl).trans ?_
          have hend := ih (done + 1) ks' rb (by omega) (by omega) (by omega) (by omega) (fun h => by omega) (fun _ => ⟨hKs, by omega, _, hfind, Int.le_refl _, by show F ≤ nw F W mm; omega, fun _ => ⟨by show nw F W mm = F; subst h0; show F + W * 0 = F; omega, rfl⟩⟩)
          by_cases c : nw F W mm - F < 247
          · refine (bifT (decide_eq_true c)).trans ?_
            refine (same_eq _ rb rb (by omega) (by omega)).trans ?_
            refine (bifF (by rw [decide_eq_true rfl]; rfl)).trans ?_
            exact hend
          · refine (bifF (decide_eq_false c)).trans ?_
            exact hend
        · have hc := hold h0
          refine (bifF (by simp; omega)).trans ?_
          refine (bifF rfl).trans ?_
          refine (bifF (decide_eq_false (by omega))).trans ?_
          exact ih (done + 1) ks' fr (by omega) (by omega) (by omega) (by omega) (fun h => by omega) (fun _ => ⟨hKs, by omega, _, hfind, Int.le_refl _, by show F ≤ nw F W mm; omega, fun hh => by omega⟩)
      rcases Nat.eq_zero_or_pos mm with h0 | h0
      · obtain ⟨z1, z2, z3⟩ := hz h0
        have hnone : Cch.findP ks 7 i (nw F W mm) = none := by unfold Cch.findP; rw [z2]
        rw [hnone]
        refine fresh hnone (fun h => by omega) (fun r => ?_) ⟨i, z1, by omega, by omega⟩ z3
        have := at_len_none (ks := ks) (a := 7) (b := (i : Int)) (now := nw F W mm) (r := r)
        have := z1.len
        omega
      · obtain ⟨s1, s2, x, s3, s4, s5, s6⟩ := hs h0
        have hx := hksl.2.1 x (List.mem_of_find?_eq_some s3)
        have hfr := fr_in (t := nw F W mm) (x := x) (by omega) (by omega) hx.2.1 (by omega)
        have hmono : nw F W (mm - 1) < nw F W mm := by
          have := hbp.2.2 (by omega)
          rw [show mm - 1 + 1 = mm by omega] at this
          exact this
        by_cases c : nw F W mm - x.a < 247
        · have hsome : Cch.findP ks 7 i (nw F W mm) = some x.r := by
            unfold Cch.findP
            rw [s3]
            show (if Cch.fr (nw F W mm) x then some x.r else none) = _
            rw [hfr, decide_eq_true c]; rfl
          rw [hsome]
          unfold Cch.fnd
          refine (bifF rfl).trans ?_
          unfold f3_J2 f3_J1
          dsimp only
          rw [wrap64 (n := nw F W mm - F) (by omega) (by omega), wrap64_s (by omega), d8, d8]
          refine (bifF (by simp; omega)).trans ?_
          refine (bifF rfl).trans ?_
          have hend := ih done ks fr (by omega) (by omega) (by omega) (by omega) (fun h => by omega) (fun _ => ⟨s1, s2, x, s3, by omega, s5, fun hh => s6 (by omega)⟩)
          by_cases c2 : nw F W mm - F < 247
          · refine (bifT (decide_eq_true c2)).trans ?_
            have hxr := (s6 (by omega)).2
            refine (same_eq _ x.r fr (by have := (s1.al x (List.mem_of_find?_eq_some s3)).2.2.2.2; omega) (by omega)).trans ?_
            refine (bifF (by rw [decide_eq_true hxr]; rfl)).trans ?_
            exact hend
          · refine (bifF (decide_eq_false c2)).trans ?_
            exact hend
        · have hnone : Cch.findP ks 7 i (nw F W mm) = none := by
            unfold Cch.findP
            rw [s3]
            show (if Cch.fr (nw F W mm) x then some x.r else none) = _
            rw [hfr, decide_eq_false c]; rfl
          rw [hnone]
          refine fresh hnone (fun _ => by omega) (fun r => ?_) ⟨i + 1, s1, by omega, Nat.le_refl _⟩ (by omega)
          have := at_len_some (ks := ks) (a := 7) (b := (i : Int)) (now := nw F W mm) (r := r) s3
          have := s1.len
          omega
    unfold f3_L2 f3_T2
    dsimp only
    refine (bifT (decide_eq_true (by omega))).trans ?_
    rcases Nat.eq_zero_or_pos mm with h0 | h0
    · refine (bifF (decide_eq_false (by omega))).trans ?_
      have e : nw F W (mm - 1) = nw F W mm := by rw [h0]
      have e2 : Y i (msgW m).2 F W (mm - 1) = Y i (msgW m).2 F W mm := by rw [h0]
      rw [e, e2] at J3 ⊢
      exact J3
    · refine (bifT (decide_eq_true (by omega))).trans ?_
      have hnx := Exc.next_eq (k := k) (fun u217 => bif (!u217.2.1) then K false else f12 k (fun u218 => bif (((u218.1 : Nat) : Int) != 1) then K false else grd (decide (0 < ((u218.1 : Nat) : Int))) (Option.bind (u218.2.2.2.2)[0]? fun e219 => Option.bind (CV.cell e219 3) fun c220 => grd (CV.isB c220) (bif (CV.toB c220) then K false else grd (decide (0 < ((u218.1 : Nat) : Int))) (Option.bind (u218.2.2.2.2)[0]? fun e221 => Option.bind (CV.cell e221 2) fun c222 => grd (CV.isL none c222) (f13 k (fun u223 => bif (!u223) then K false else f3_J3 (fun X => @f4 X k) (fun X => @f5 X k) (fun X => @f6 X k) (fun X => @f7 X k) (fun X => @f8 X k) (fun X => @f9 X k) (fun X => @f10 X k) (fun X => @f11 X k) (fun X => @f12 X k) (fun X => @f13 X k) (fun X => @f14 X k) (fun X => @f15 X k) (fun X => @f16 X k) (fun X => @f17 X k) (fun X => @f18 X k) (fun X => @f19 X k) k K rec2 (lo, rand, nw F W (mm - 1), done, asked, (i : Int), by8 (msgW m).2, (n : Int), F, fr.length, (mm : Int), msr, len, (i : Int), by8 fr, ks.length, Cch.row ks, 1, nw F W (mm - 1), Exc.row [Y i (msgW m).2 F W (mm - 1)]) (u217.1, u218.2.1, u218.2.2.1, u218.2.2.2.1)) (CV.toL c222) (by8 (msgW m).2)))))) u217.1 u217.2.2.1 u217.2.2.2.1 u217.2.2.2.2) [Y i (msgW m).2 F W (mm - 1)] (nw F W (mm - 1)) (by simp; omega) (by simp)
      refine Eq.trans ?_ (hnx.trans ?_)
      · rfl
      have efu : Exc.fU [Y i (msgW m).2 F W (mm - 1)] [Y i (msgW m).2 F W (mm - 1)].length = some 0 := rfl
      rw [efu]
      refine (bifF rfl).trans ?_
      dsimp only
      have ea : ([Y (i : Int) (msgW m).2 F W (mm - 1)].getD 0 default).a = nw F W mm := by
        show F + W * q2 (mm - 1 + 1) = F + W * q2 mm
        rw [show mm - 1 + 1 = mm by omega]
      rw [ea]
      refine (Exc.pass_eq _ [Y i (msgW m).2 F W (mm - 1)] (nw F W mm) (nw F W (mm - 1)) 10 (Y_meas _ _ _ _ _) (by omega) (by omega) (Y_good hF _ _ (by omega) (by omega))).trans ?_
      have hmono : nw F W (mm - 1) ≤ nw F W mm := by
        have := hbp.2.2 (by omega)
        rw [show mm - 1 + 1 = mm by omega] at this
        omega
      rw [clk_le hmono (by omega)]
      have hyp := Y_pass hF (i : Int) (msgW m).2 (m := mm - 1) (by omega)
      rw [show mm - 1 + 1 = mm by omega] at hyp
      rw [hyp]
      refine (bifF rfl).trans ?_
      refine (grdT rfl).trans ?_
      refine (bAt (c := Exc.Snt.en ⟨7, i, (msgW m).2, false⟩) rfl _).trans ?_
      refine (bAt (c := .bool false) rfl _).trans ?_
      refine (grdT rfl).trans ?_
      refine (bifF rfl).trans ?_
      refine (grdT rfl).trans ?_
      refine (bAt (c := Exc.Snt.en ⟨7, i, (msgW m).2, false⟩) rfl _).trans ?_
      refine (bAt (c := .slc none (by8 (msgW m).2)) rfl _).trans ?_
      refine (grdT rfl).trans ?_
      refine (same_eq _ (msgW m).2 (msgW m).2 (by omega) (by omega)).trans ?_
      refine (bifF (by rw [decide_eq_true rfl]; rfl)).trans ?_
      exact J3
end
end Go.Proofs.YtfllanhepeginaaD
