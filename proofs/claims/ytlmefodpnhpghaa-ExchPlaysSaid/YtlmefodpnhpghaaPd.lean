/- A message that nobody answers is sent again four times. -/
import Derived.Test.YtlmefodpnhpghaaPc
namespace Go.Proofs.YtlmefodpnhpghaaD
open Go Go.Proofs.YtlmefodpnhpghaaS Go.Proofs
set_option linter.unusedVariables false
set_option linter.unusedSimpArgs false
section
variable {X : Type}
theorem and63 (a : Int) : 0 ≤ bop .and .i64 a 63 ∧ bop .and .i64 a 63 ≤ 63 := bop_and a 63 (by decide)
theorem and255 (a : Int) : 0 ≤ bop .and .i64 a 255 ∧ bop .and .i64 a 255 ≤ 255 := bop_and a 255 (by decide)
theorem copy_eq {k : Nat} (K : Nat × List CV → Option X) (r : List Int) (hk : r.length < k) (hr : r.length < 70368744177664) : f9 k K (by8 r) = K (r.length, by8 r) := by
  unfold f9 f9_T
  refine iterV_spec (T := f9_L1 k K) (fun i => (by8 r, i, (i : Int), by8 (r.take i))) (fun i => K (r.length, by8 r)) r.length (fun i rec hi hx => ?_) (fun rec => ?_) k 0 (Nat.zero_le _) (by omega)
  · rw [← hx]
    unfold f9_L1 f9_T1
    have e3 : ∀ n : Int, List.take 1 (List.drop 0 [CV.int .u8 n]) = by8 [n] := fun n => rfl
    have e4 : ∀ n : Int, (by8 [n]).length = 1 := fun n => rfl
    have e5 : List.take i (by8 (r.take i)) = by8 (r.take i) := List.take_of_length_le (by simp [by8]; omega)
    simp only [by8_length, by8_get, Int.toNat_natCast, List.getElem?_eq_getElem hi, Option.map_some, Option.bind_some, grd_true, dec0, decLt, hi, decide_true, cond_true, isI_int, toI_int, e3, e4, e5, wrap64_succ (show i < 4611686018427387904 by omega), ← by8_append]
    rw [grd_dec (by omega), List.take_succ_eq_append_getElem hi]
  · unfold f9_L1 f9_T1
    simp [by8_length, List.take_of_length_le]
/-- The time at which it is sent for the m-th time. -/
def aT (F W : Int) (m : Nat) : Int := F + W * (2 ^ (m + 1) - 1)
def Xm (F W : Int) (d : List Int) (m : Nat) : Ex := ⟨3, 9, d, aT F W m, W * 2 ^ m, 4 - m⟩
def tbl (F W : Int) (d : List Int) (m : Nat) : List Ex := if m < 5 then [Xm F W d m] else []
def ev (d : List Int) (m : Nat) : Snt := ⟨3, 9, d, m == 4⟩
def run (F W now : Int) (d : List Int) : Nat → Nat → List Snt × Nat
  | 0, m => ([], m)
  | j + 1, m => if aT F W m ≤ now then (ev d m :: (run F W now d j (m + 1)).1, (run F W now d j (m + 1)).2) else ([], m)
structure Pm (F W : Int) (d : List Int) : Prop where
  f0 : 0 ≤ F
  f1 : F ≤ 549755813888
  w0 : 20 ≤ W
  w1 : W ≤ 30
  dl : d.length ≤ 200
theorem m5 {m : Nat} (h : m < 5) : m = 0 ∨ m = 1 ∨ m = 2 ∨ m = 3 ∨ m = 4 := by omega
section
variable {F W now : Int} {d : List Int}
theorem aT_step (hp : Pm F W d) {m : Nat} (h : m < 5) : aT F W m + W * 2 ^ (m + 1) = aT F W (m + 1) ∧ 0 ≤ aT F W m ∧ aT F W m ≤ F + 930 ∧ F < aT F W m ∧ 0 ≤ W * 2 ^ (m + 1) ∧ W * 2 ^ (m + 1) ≤ 960 := by
  have := hp.f0; have := hp.w0; have := hp.w1
  rcases m5 h with rfl | rfl | rfl | rfl | rfl <;> simp only [aT] <;> omega
theorem good_X (hp : Pm F W d) {m : Nat} (h : m < 5) : Good (Xm F W d m) := by
  have h1 := hp.f0; have h2 := hp.f1; have h3 := hp.w0; have h4 := hp.w1; have h5 := hp.dl
  have hs := aT_step hp h
  refine ⟨hs.2.1, ?_, ?_, ?_, by show 4 - m ≤ 4; omega, by show d.length ≤ 100000; omega⟩
  · show aT F W m ≤ _; omega
  · show 0 < W * 2 ^ m
    rcases m5 h with rfl | rfl | rfl | rfl | rfl <;> omega
  · show W * 2 ^ m * 2 ^ (4 - m) ≤ 480
    rcases m5 h with rfl | rfl | rfl | rfl | rfl <;> simp <;> omega
theorem tbl_good (hp : Pm F W d) (m : Nat) : Goods (tbl F W d m) := fun x hx => by
  unfold tbl at hx
  split at hx
  · next h => rw [List.mem_singleton] at hx; subst hx; exact good_X hp h
  · cases hx
theorem tbl_len (m : Nat) : (tbl F W d m).length ≤ 1 := by unfold tbl; split <;> simp
theorem tbl_up (hp : Pm F W d) {m : Nat} (h : m < 5) : upE [Xm F W d m] 0 = tbl F W d (m + 1) := by
  have h1 := hp.f0; have h2 := hp.f1; have h3 := hp.w0; have h4 := hp.w1
  have hs := aT_step hp h
  unfold upE
  show (if 4 - m = 0 then [] else [upX (Xm F W d m)]) = tbl F W d (m + 1)
  unfold tbl
  by_cases h4' : m = 4
  · subst h4'; rfl
  · rw [if_neg (by omega), if_pos (by omega)]
    have e : W * 2 ^ m * 2 = W * 2 ^ (m + 1) := by rw [Int.pow_succ, Int.mul_assoc]
    have e2 : mx (aT F W m + W * 2 ^ m * 2) = aT F W (m + 1) := by
      rw [e, hs.1]
      have hs2 := aT_step hp (show m + 1 < 5 by omega)
      unfold mx
      rw [if_neg (by omega)]
    show [(⟨3, 9, d, mx (aT F W m + W * 2 ^ m * 2), W * 2 ^ m * 2, 4 - m - 1⟩ : Ex)] = [⟨3, 9, d, aT F W (m + 1), W * 2 ^ (m + 1), 4 - (m + 1)⟩]
    rw [e2, e, show 4 - m - 1 = 4 - (m + 1) by omega]
theorem pass_tbl (hp : Pm F W d) : ∀ (j m n : Nat), j + m = 5 → j ≤ n → passP n now (tbl F W d m) = ((run F W now d j m).1, tbl F W d (run F W now d j m).2)
  | 0, m, n, h, hn => by
    have : m = 5 := by omega
    subst this
    cases n <;> rfl
  | j + 1, m, 0, h, hn => absurd hn (by omega)
  | j + 1, m, n + 1, h, hn => by
    have hm : m < 5 := by omega
    have ht : tbl F W d m = [Xm F W d m] := by unfold tbl; rw [if_pos hm]
    have ih := pass_tbl hp j (m + 1) n (by omega) (by omega)
    have e : passP (n + 1) now [Xm F W d m] = if aT F W m > now then ([], [Xm F W d m]) else (upS (Xm F W d m) :: (passP n now (upE [Xm F W d m] 0)).1, (passP n now (upE [Xm F W d m] 0)).2) := rfl
    rw [ht, e, tbl_up hp hm, ih]
    have es : upS (Xm F W d m) = ev d m := by
      show (⟨3, 9, d, 4 - m == 0⟩ : Snt) = ⟨3, 9, d, m == 4⟩
      rcases m5 hm with rfl | rfl | rfl | rfl | rfl <;> rfl
    have er : run F W now d (j + 1) m = if aT F W m ≤ now then (ev d m :: (run F W now d j (m + 1)).1, (run F W now d j (m + 1)).2) else ([], m) := rfl
    rw [er, es]
    by_cases hc : aT F W m ≤ now
    · rw [if_neg (by omega), if_pos hc]
    · rw [if_pos (by omega), if_neg hc]
      simp only [ht]
theorem run_spec : ∀ (j m : Nat), m ≤ (run F W now d j m).2 ∧ (run F W now d j m).2 ≤ m + j ∧ (run F W now d j m).1.length = (run F W now d j m).2 - m ∧ (∀ i, i < (run F W now d j m).1.length → (run F W now d j m).1[i]? = some (ev d (m + i))) ∧ (∀ i, m ≤ i → i < (run F W now d j m).2 → aT F W i ≤ now) ∧ ((run F W now d j m).2 < m + j → now < aT F W (run F W now d j m).2)
  | 0, m => ⟨Nat.le_refl _, Nat.le_refl _, by simp [run], fun i hi => by simp [run] at hi, fun i h1 h2 => by simp [run] at h2; omega, fun h => by simp [run] at h⟩
  | j + 1, m => by
    have er : run F W now d (j + 1) m = if aT F W m ≤ now then (ev d m :: (run F W now d j (m + 1)).1, (run F W now d j (m + 1)).2) else ([], m) := rfl
    rw [er]
    by_cases hc : aT F W m ≤ now
    · rw [if_pos hc]
      obtain ⟨h1, h2, h3, h4, h5, h6⟩ := run_spec j (m + 1)
      refine ⟨by show m ≤ (run F W now d j (m + 1)).2; omega, by show (run F W now d j (m + 1)).2 ≤ _; omega, by show (_ :: _).length = (run F W now d j (m + 1)).2 - m; rw [List.length_cons]; omega, fun i hi => ?_, fun i g1 g2 => ?_, fun g => ?_⟩
      · cases i with
        | zero => rfl
        | succ i =>
          have := h4 i (by simpa using hi)
          show (run F W now d j (m + 1)).1[i]? = _
          rw [this, show m + 1 + i = m + (i + 1) by omega]
      · rcases Nat.eq_or_lt_of_le g1 with rfl | g1
        · exact hc
        · exact h5 i (by omega) g2
      · exact h6 (by show (run F W now d j (m + 1)).2 < _; have : (run F W now d j (m + 1)).2 < m + (j + 1) := g; omega)
    · rw [if_neg hc]
      exact ⟨Nat.le_refl _, by simp, by simp, fun i hi => by simp at hi, fun i g1 g2 => by simp at g2; omega, fun g => by show now < aT F W m; omega⟩
/-- How often it is sent up to a time. -/
def C (F W now : Int) (d : List Int) : Nat := (run F W now d 5 0).2
theorem run_mono (F W now : Int) (d : List Int) : ∀ (j m a : Nat), (∀ i, a ≤ i → i < m → aT F W i ≤ now) → a ≤ m → (run F W now d (m - a + j) a).2 = (run F W now d j m).2
  | j, 0, a, h, ha => by
    have : a = 0 := by omega
    subst this; simp
  | j, m + 1, a, h, ha => by
    rcases Nat.eq_or_lt_of_le ha with rfl | ha
    · simp
    · have hh := run_mono F W now d j (m + 1) (a + 1) (fun i h1 h2 => h i (by omega) h2) (by omega)
      rw [show m + 1 - a + j = (m + 1 - (a + 1) + j) + 1 by omega]
      have er : run F W now d ((m + 1 - (a + 1) + j) + 1) a = if aT F W a ≤ now then (ev d a :: (run F W now d (m + 1 - (a + 1) + j) (a + 1)).1, (run F W now d (m + 1 - (a + 1) + j) (a + 1)).2) else ([], a) := rfl
      rw [er, if_pos (h a (Nat.le_refl _) (by omega))]
      exact hh
  termination_by j m a => m - a
theorem C_run {now' : Int} (h : now ≤ now') : (run F W now' d (5 - C F W now d) (C F W now d)).2 = C F W now' d := by
  obtain ⟨h1, h2, h3, h4, h5, h6⟩ := run_spec (F := F) (W := W) (now := now) (d := d) 5 0
  have h2' : C F W now d ≤ 5 := by unfold C; omega
  have := run_mono F W now' d (5 - C F W now d) (C F W now d) 0 (fun i g1 g2 => by
    have := h5 i g1 g2
    omega) (Nat.zero_le _)
  rw [← this, Nat.sub_zero, show C F W now d + (5 - C F W now d) = 5 by omega]
  rfl
abbrev V2 := List CV × Int × Int × Int × Int × Int × Bool × List CV × Int × Int × Nat × Int × List CV
theorem J_eq {k : Nat} (K : Bool → Option X) (rec : V2 → Option X) (ts : List Int) (es : List Ex) (stop now : Int) (m i want kk : Int) (at_ : Int) (b : Bool) (iN : Nat) (hi : i = (iN : Int)) (hiN : iN < 1000) (hk : es.length + 10 < k) (hl : es.length < 1000)
    (hst : i = bop .and .i64 stop 63 → m < 5 → es.any (is 3 9) = true) :
    (f3_J1 k K rec (by8 d, F, stop, W, now, m, b, i, want, at_, kk, ts.map (CV.int .i64), ((ts.length : Nat) : Int), i, es.length, now, row es) (es.length, now, row es) =
      (if i = bop .and .i64 stop 63 ∧ m < 5 then rec (by8 d, F, stop, W, now, m, true, ts.map (CV.int .i64), ((ts.length : Nat) : Int), ((iN + 1 : Nat) : Int), (stopP es 3 9).length, now, row (stopP es 3 9))
       else rec (by8 d, F, stop, W, now, m, b, ts.map (CV.int .i64), ((ts.length : Nat) : Int), ((iN + 1 : Nat) : Int), es.length, now, row es))) ∧
    f3_J2 k K rec (by8 d, F, stop, W, now, m, b, i, want, at_, kk, ts.map (CV.int .i64), ((ts.length : Nat) : Int), i, es.length, now, row es) (es.length, now, row es) = f3_J1 k K rec (by8 d, F, stop, W, now, m, b, i, want, at_, kk, ts.map (CV.int .i64), ((ts.length : Nat) : Int), i, es.length, now, row es) (es.length, now, row es) := by
  refine ⟨?_, rfl⟩
  unfold f3_J1
  subst hi
  simp only [wrap64_succ (show iN < 4611686018427387904 by omega)]
  by_cases h1 : ((iN : Nat) : Int) = bop .and .i64 stop 63
  · have e1 : (((iN : Nat) : Int) == bop .and .i64 stop 63) = true := by rw [h1]; exact beq_self_eq_true _
    simp only [e1, cond_true]
    by_cases h2 : m < 5
    · rw [if_pos ⟨h1, h2⟩, stop_eq _ _ _ _ _ (by omega) (by omega), hst h1 h2]
      simp only [h2, decide_true, cond_true, Bool.not_true, cond_false]
    · rw [if_neg (fun h => h2 h.2)]
      simp only [h2, decide_false, cond_false]
  · rw [if_neg (fun h => h1 h.1)]
    simp only [beq_f h1, cond_false]
theorem tbl_any (m : Nat) : (tbl F W d m).any (is 3 9) = decide (m < 5) := by
  unfold tbl
  by_cases h : m < 5
  · rw [if_pos h]; simp [h, is, Xm]
  · rw [if_neg h]; simp [h]
theorem tbl_stop {m : Nat} (h : m < 5) : stopP (tbl F W d m) 3 9 = [] := by
  unfold tbl
  rw [if_pos h]
  rfl
/-- What a state of the law's loop is. -/
structure In (F W : Int) (d : List Int) (stop now : Int) (i m : Nat) (b : Bool) (es : List Ex) : Prop where
  live : b = false → es = tbl F W d m ∧ m = C F W now d
  over : b = true → es = [] ∧ bop .and .i64 stop 63 < i
  m5 : m ≤ 5
theorem C_le : C F W now d ≤ 5 := by
  have := (run_spec (F := F) (W := W) (now := now) (d := d) 5 0).2.1
  unfold C; omega
theorem In.after {stop : Int} {i m : Nat} {b : Bool} {es : List Ex} (h : In F W d stop now i m b es) :
    (if ((i : Nat) : Int) = bop .and .i64 stop 63 ∧ ((m : Nat) : Int) < 5 then In F W d stop now (i + 1) m true (stopP es 3 9) else In F W d stop now (i + 1) m b es) ∧ (((i : Nat) : Int) = bop .and .i64 stop 63 → ((m : Nat) : Int) < 5 → es.any (is 3 9) = true) := by
  constructor
  · split
    · next hc =>
      cases b with
      | true => have := (h.over rfl).2; omega
      | false =>
        refine ⟨fun e => (by cases e), fun _ => ⟨?_, by omega⟩, h.m5⟩
        rw [(h.live rfl).1, tbl_stop (by omega)]
    · exact ⟨h.live, fun e => ⟨(h.over e).1, by have := (h.over e).2; omega⟩, h.m5⟩
  · intro h1 h2
    cases b with
    | true => have := (h.over rfl).2; omega
    | false => rw [(h.live rfl).1, tbl_any]; exact decide_eq_true (by omega)
/-- The count of what should have been sent; and what is held behind it. -/
theorem want_eq {k0 : Nat} (hp : Pm F W d) (K : Bool → Option X) (rec : V2 → Option X) (ts : List Int) (es : List Ex) (stop : Int) (i m : Nat) (b : Bool) (hin : In F W d stop now i m b es) (hi : i < 1000) (hk : 100 ≤ k0) (hes : es.length ≤ 1)
    (hr : ∀ b2 es2, In F W d stop now (i + 1) m b2 es2 → es2.length ≤ 1 → rec (by8 d, F, stop, W, now, ((m : Nat) : Int), b2, ts.map (CV.int .i64), ((ts.length : Nat) : Int), ((i + 1 : Nat) : Int), es2.length, now, row es2) = K true) :
    iterV (f3_L4 k0 K rec) k0 (by8 d, F, stop, W, now, ((m : Nat) : Int), b, ((i : Nat) : Int), 0, IntKind.wrap .i64 (F + W), 0, ts.map (CV.int .i64), ((ts.length : Nat) : Int), ((i : Nat) : Int), es.length, now, row es) = K true := by
  obtain ⟨s1, s2, s3, s4, s5, s6⟩ := run_spec (F := F) (W := W) (now := now) (d := d) 5 0
  have hC5 : C F W now d ≤ 5 := C_le
  have f0 := hp.f0; have f1 := hp.f1; have w0 := hp.w0; have w1 := hp.w1
  have e0 : IntKind.wrap .i64 (F + W) = aT F W 0 := by
    rw [wrap64 (by omega) (by omega)]; simp only [aT]; omega
  rw [e0]
  have haft := hin.after
  have fin : ∀ want at_ kk : Int, f3_J1 k0 K rec (by8 d, F, stop, W, now, ((m : Nat) : Int), b, ((i : Nat) : Int), want, at_, kk, ts.map (CV.int .i64), ((ts.length : Nat) : Int), ((i : Nat) : Int), es.length, now, row es) (es.length, now, row es) = K true ∧ f3_J2 k0 K rec (by8 d, F, stop, W, now, ((m : Nat) : Int), b, ((i : Nat) : Int), want, at_, kk, ts.map (CV.int .i64), ((ts.length : Nat) : Int), ((i : Nat) : Int), es.length, now, row es) (es.length, now, row es) = K true := fun want at_ kk => by
    have hJ := J_eq (F := F) (W := W) (d := d) (k := k0) K rec ts es stop now m i want kk at_ b i rfl hi (by omega) (by omega) haft.2
    have h1 := haft.1
    refine ⟨?_, hJ.2.trans ?_⟩ <;>
    · rw [hJ.1]
      split
      · next hc =>
        rw [if_pos hc] at h1
        refine hr true _ h1 ?_
        rw [(h1.over rfl).1]; exact Nat.zero_le _
      · next hc =>
        rw [if_neg hc] at h1
        exact hr b es h1 hes
  have hany : es.any (is 3 9) = (!b && decide (((m : Nat) : Int) < 5)) := by
    cases b with
    | true => rw [(hin.over rfl).1]; rfl
    | false =>
      rw [(hin.live rfl).1, tbl_any]
      simp only [Bool.not_false, Bool.true_and]
      exact decide_eq_decide.2 (by omega)
  refine iterV_spec (T := f3_L4 k0 K rec) (fun kk => (by8 d, F, stop, W, now, ((m : Nat) : Int), b, ((i : Nat) : Int), ((kk : Nat) : Int), aT F W kk, ((kk : Nat) : Int), ts.map (CV.int .i64), ((ts.length : Nat) : Int), ((i : Nat) : Int), es.length, now, row es)) (fun kk => K true) (C F W now d) (fun kk r4 hkk hx => ?_) (fun r4 => ?_) k0 0 (Nat.zero_le _) (by omega)
  · rw [← hx]
    unfold f3_L4 f3_T4
    have h5 := s5 kk (Nat.zero_le _) hkk
    have hst := aT_step hp (show kk < 5 by omega)
    simp only [wrap64_succ (show kk < 4611686018427387904 by omega)]
    have e1 : decide (((kk : Nat) : Int) < 5) = true := decide_eq_true (by omega)
    have e2 : decide (aT F W kk ≤ now) = true := decide_eq_true h5
    have e3 : min (Int.toNat ((kk + 1 : Nat) : Int)) 64 = kk + 1 := by rw [Int.toNat_natCast]; omega
    have e4 : IntKind.wrap .i64 (W * 2 ^ (kk + 1)) = W * 2 ^ (kk + 1) := wrap64 (by omega) (by omega)
    have e5 : IntKind.wrap .i64 (aT F W kk + W * 2 ^ (kk + 1)) = aT F W (kk + 1) := by rw [hst.1, wrap64 (by omega) (by omega)]
    simp only [e1, e2, cond_true, dec0, grd_true, e3, e4, e5]
  · unfold f3_L4 f3_T4
    have hbne : b = false → (((m : Nat) : Int) != ((C F W now d : Nat) : Int)) = false := fun e => by
      rw [(hin.live e).2]; exact bne_self_eq_false _
    have hH : ∀ KK : Bool × Nat × Int × List CV → Option X, f13 k0 KK 3 9 es.length now (row es) = KK (es.any (is 3 9), es.length, now, row es) := fun KK => has_eq KK es 3 9 now (by omega) (by omega)
    by_cases h5 : C F W now d < 5
    · have e1 : decide (((C F W now d : Nat) : Int) < 5) = true := decide_eq_true (by omega)
      have h6 : now < aT F W (C F W now d) := s6 (by show C F W now d < _; omega)
      have e2 : decide (aT F W (C F W now d) ≤ now) = false := decide_eq_false (by omega)
      simp only [e1, e2, cond_true, cond_false, hH, hany]
      cases b with
      | true => simp only [Bool.not_true, Bool.false_and, cond_false, beq_self_eq_true]; exact (fin _ _ _).1
      | false => simp only [Bool.not_false, Bool.true_and, cond_true, hbne rfl, cond_false, beq_self_eq_true, Bool.not_true]; exact (fin _ _ _).1
    · have e1 : decide (((C F W now d : Nat) : Int) < 5) = false := decide_eq_false (by omega)
      simp only [e1, cond_false, hH, hany]
      cases b with
      | true => simp only [Bool.not_true, Bool.false_and, cond_false, beq_self_eq_true]; exact (fin _ _ _).2
      | false => simp only [Bool.not_false, Bool.true_and, cond_true, hbne rfl, cond_false, beq_self_eq_true, Bool.not_true]; exact (fin _ _ _).2
theorem ev_isA (x : Snt) : CV.isA 4 x.en = true := rfl
theorem times_loop {k0 : Nat} (hp : Pm F W d) (K : Bool → Option X) (ts : List Int) (stop : Int) (hk0 : 1000 ≤ k0) (ht : ts.length ≤ 40) : ∀ (k i m : Nat) (now : Int) (b : Bool) (es : List Ex), ts.length - i < k → i ≤ ts.length → F ≤ now → now ≤ F + 255 * i → In F W d stop now i m b es → es.length ≤ 1 →
    iterV (f3_L2 k0 K) k (by8 d, F, stop, W, now, ((m : Nat) : Int), b, ts.map (CV.int .i64), ((ts.length : Nat) : Int), ((i : Nat) : Int), es.length, now, row es) = K true
  | 0, i, m, now, b, es, hk, _, _, _, _, _ => absurd hk (Nat.not_lt_zero _)
  | k + 1, i, m, now, b, es, hk, hi, hn0, hn1, hin, hes => by
    show f3_L2 k0 K (iterV (f3_L2 k0 K) k) _ = _
    have ih := times_loop hp K ts stop hk0 ht k
    generalize iterV (f3_L2 k0 K) k = R at *
    have f0 := hp.f0; have f1 := hp.f1; have w0 := hp.w0; have w1 := hp.w1; have dl := hp.dl
    unfold f3_L2 f3_T2
    rcases Nat.lt_or_ge i ts.length with hl | hl
    · simp only [List.getElem?_map, Int.toNat_natCast, List.getElem?_eq_getElem hl, Option.map_some, Option.bind_some, grd_true, dec0, decLt, hl, decide_true, cond_true, isI_int, toI_int]
      have h5 := and255 ts[i]
      generalize bop .and .i64 ts[i] 255 = sd at *
      have ew : IntKind.wrap .i64 (now + sd) = now + sd := wrap64 (by omega) (by omega)
      rw [ew]
      have hg : Goods es := by
        cases b with
        | true => rw [(hin.over rfl).1]; exact fun x hx => by cases hx
        | false => rw [(hin.live rfl).1]; exact tbl_good hp m
      have hm := meas_le hg
      have hc : clk (now + sd) now = now + sd := by
        unfold clk
        repeat' split
        all_goals omega
      rw [pass_eq _ _ _ _ 20 (by omega) (by omega) (by omega) hg, hc]
      -- what is sent now
      have hq : ∃ m2 es2, (passP 20 (now + sd) es).2 = es2 ∧ es2.length ≤ 1 ∧ In F W d stop (now + sd) i m2 b es2 ∧ m2 = m + (passP 20 (now + sd) es).1.length ∧ (b = true → (passP 20 (now + sd) es).1 = []) ∧ ∀ j, j < (passP 20 (now + sd) es).1.length → (passP 20 (now + sd) es).1[j]? = some (ev d (m + j)) := by
        cases b with
        | true =>
          obtain ⟨h1, h2⟩ := hin.over rfl
          subst h1
          exact ⟨m, [], rfl, Nat.zero_le _, ⟨fun e => (by cases e), fun _ => ⟨rfl, h2⟩, hin.m5⟩, rfl, fun _ => rfl, fun j hj => absurd hj (Nat.not_lt_zero _)⟩
        | false =>
          obtain ⟨h1, h2⟩ := hin.live rfl
          have hmc : m ≤ 5 := hin.m5
          have hpt := pass_tbl (now := now + sd) hp (5 - m) m 20 (by omega) (by omega)
          obtain ⟨s1, s2, s3, s4, s5, s6⟩ := run_spec (F := F) (W := W) (now := now + sd) (d := d) (5 - m) m
          rw [h1, hpt]
          have hCr : (run F W (now + sd) d (5 - m) m).2 = C F W (now + sd) d := by rw [h2]; exact C_run (by omega)
          exact ⟨_, _, rfl, tbl_len _, ⟨fun _ => ⟨rfl, hCr⟩, fun e => (by cases e), by omega⟩, by simp only; omega, fun e => (by cases e), s4⟩
      obtain ⟨m2, es2, hes2, hl2, hin2, hm2, hb2, hev⟩ := hq
      rw [hes2]
      have hm25 := hin2.m5
      generalize (passP 20 (now + sd) es).1 = L at *
      unfold f3_L3
      refine iterV_spec (T := f3_L3 k0 K R) (fun j => (by8 d, F, stop, W, now + sd, ((m + j : Nat) : Int), b, ((i : Nat) : Int), ts.map (CV.int .i64), ((ts.length : Nat) : Int), ((i : Nat) : Int), L.length, ((L.length : Nat) : Int), ((j : Nat) : Int), es2.length, now + sd, row es2, srow L)) (fun j => K true) L.length (fun j r3 hj hx => ?_) (fun r3 => ?_) k0 0 (Nat.zero_le _) (by omega)
      · rw [← hx]
        unfold f3_L3 f3_T3
        have hbf : b = false := by
          cases b with
          | false => rfl
          | true => rw [hb2 rfl] at hj; exact absurd hj (Nat.not_lt_zero _)
        subst hbf
        have hget : (srow L)[j]? = some (ev d (m + j)).en := by rw [srow_get, hev j hj]; rfl
        have e1 : IntKind.wrap .i64 (((m + j : Nat) : Int) + 1) = ((m + (j + 1) : Nat) : Int) := wrap64_succ (by omega)
        have e2 : ((ev d (m + j)).lost == (((m + (j + 1) : Nat) : Int) == 5)) = true := by
          show ((m + j == 4) == (((m + (j + 1) : Nat) : Int) == 5)) = true
          by_cases h4 : m + j = 4
          · have : ((m + (j + 1) : Nat) : Int) = 5 := by omega
            rw [h4, this]; rfl
          · have : ((m + (j + 1) : Nat) : Int) ≠ 5 := by omega
            rw [beq_f this]
            simp [h4]
        have e3 : (((ev d (m + j)).t) != 3) = false := rfl
        have e4 : (((ev d (m + j)).i) != 9) = false := rfl
        have e5 : (ev d (m + j)).d = d := rfl
        simp only [Int.toNat_natCast, Nat.zero_add, hget, Option.bind_some, grd_true, dec0, decLt, hj, decide_true, cond_true, cond_false, sen_isA, sen_0, sen_1, sen_2, sen_3, isI_int, isL_slc, isB_bool, toI_int, toL_slc, toB_bool, e1, e2, e3, e4, e5, wrap64_succ (show j < 4611686018427387904 by omega)]
        rw [same_eq _ _ _ (by omega) (by omega)]
        simp
      · unfold f3_L3 f3_T3
        simp only [decLt, Nat.lt_irrefl, decide_false, cond_false]
        rw [← hm2]
        exact want_eq hp K R ts es2 stop i m2 b hin2 (by omega) (by omega) hl2 (fun b3 es3 h3 h4 => ih (i + 1) m2 (now + sd) b3 es3 (by omega) (by omega) (by omega) (by omega) h3 h4)
    · have : i = ts.length := by omega
      subst this
      simp only [decLt, Nat.lt_irrefl, decide_false, cond_false]
theorem C_start (hp : Pm F W d) : C F W F d = 0 := by
  have h := aT_step hp (show 0 < 5 by omega)
  unfold C
  show (if aT F W 0 ≤ F then _ else (([], 0) : List Snt × Nat)).2 = 0
  rw [if_neg (by omega)]
theorem times_eq {k : Nat} (K : Bool → Option X) (d : List Int) (from_ rand : Int) (ts : List Int) (stop : Int) (hk : 2000 ≤ k) (hd : d.length < 9223372036854775808) (ht : ts.length < 9223372036854775808) : f3 k K (by8 d) from_ rand (ts.map (CV.int .i64)) stop = K true := by
  unfold f3 f3_T
  obtain ⟨n, rfl⟩ : ∃ n, k = n + 20 := ⟨k - 20, by omega⟩
  rw [alive_eq]
  simp only [Bool.not_true, cond_false, by8_length, List.length_map]
  by_cases h1 : d.length > 200
  · rw [show decide (((d.length : Nat) : Int) > 200) = true by simp; omega]; rfl
  rw [show decide (((d.length : Nat) : Int) > 200) = false by simp; omega]
  simp only [cond_false]
  by_cases h2 : ts.length > 40
  · rw [show decide (((ts.length : Nat) : Int) > 40) = true by simp; omega]; rfl
  rw [show decide (((ts.length : Nat) : Int) > 40) = false by simp; omega]
  simp only [cond_false]
  by_cases h3 : from_ < 0
  · rw [decide_eq_true h3]; rfl
  rw [decide_eq_false h3]
  simp only [cond_false]
  by_cases h4 : from_ > 549755813888
  · rw [decide_eq_true h4]; rfl
  rw [decide_eq_false h4]
  simp only [cond_false]
  have hw := wt_bd rand
  have hp : Pm from_ (wt rand) d := ⟨by omega, by omega, hw.1, hw.2, by omega⟩
  rw [new_eq, copy_eq _ _ (by omega) (by omega)]
  simp only
  have e1 : List.take d.length (List.drop 0 (by8 d)) = by8 d := by rw [List.drop_zero, List.take_of_length_le (by rw [by8_length]; exact Nat.le_refl _)]
  have hc : clk from_ 0 = from_ := by
        unfold clk
        repeat' split
        all_goals omega
  rw [e1]
  refine (start_eq _ [] 3 9 d from_ rand 0 (by simp) (by simp) (by omega) (by omega)).trans ?_
  rw [hc]
  have hs : startP [] 3 9 d from_ rand = (0, tbl from_ (wt rand) d 0) := by
    have ha := aT_step hp (show 0 < 5 by omega)
    have e : mx (from_ + wt rand) = aT from_ (wt rand) 0 := by
      unfold mx; rw [if_neg (by omega)]; simp only [aT]; omega
    show ((0 : Int), [(⟨3, 9, d, mx (from_ + wt rand), wt rand, 4⟩ : Ex)]) = (0, [(⟨3, 9, d, aT from_ (wt rand) 0, wt rand * 2 ^ 0, 4⟩ : Ex)])
    rw [e, Int.pow_zero, Int.mul_one]
  rw [hs]
  have z : ((0 : Int) != 0) = false := rfl
  simp only [z, cond_false]
  have key := iterV_spec (T := f3_L1 (n + 20) K) (fun i => (by8 d, from_, rand, ts.map (CV.int .i64), stop, d.length, ((d.length : Nat) : Int), (i : Int), by8 (incU d i), (tbl from_ (wt rand) d 0).length, from_, row (tbl from_ (wt rand) d 0))) (fun i => K true) d.length (fun i rec hi hx => ?_) (fun rec => ?_) (n + 20) 0 (Nat.zero_le _) (by omega)
  · exact key
  · rw [← hx]
    unfold f3_L1 f3_T1
    simp only [Int.toNat_natCast, Nat.zero_add, by8_get, incU_get d i i hi, Option.map_some, Option.bind_some, grd_true, dec0, decLt, hi, decide_true, cond_true, isI_int, toI_int, by8_length, incU_length, wrap64_succ (show i < 4611686018427387904 by omega), by8_set]
    rfl
  · unfold f3_L1 f3_T1
    simp only [decLt, Nat.lt_irrefl, decide_false, cond_false, List.length_map]
    exact times_loop hp K ts stop (by omega) (by omega) (n + 20) 0 0 from_ false _ (by omega) (Nat.zero_le _) (Int.le_refl _) (by omega) ⟨fun _ => ⟨rfl, (C_start hp).symm⟩, fun e => (by cases e), by omega⟩ (tbl_len _)
end
theorem law_times (d : List Int) (hd : d.length ≤ maxLen ∧ ∀ x ∈ d, (Lit.int .u8 x).wf = true) (from_ : Int) (_ : (Lit.int .i64 from_).wf = true) (rand : Int) (_ : (Lit.int .i64 rand).wf = true) (ts : List Int) (ht : ts.length ≤ maxLen ∧ ∀ x ∈ ts, (Lit.int .i64 x).wf = true) (stop : Int) (_ : (Lit.int .i64 stop).wf = true) :
    ∃ k, ∀ K : Bool → Option Out, f3 k K (by8 d) from_ rand (ts.map (CV.int .i64)) stop = K true := ⟨2000, fun K => times_eq K d from_ rand ts stop (Nat.le_refl _) (Nat.lt_of_le_of_lt hd.1 maxLen_lt) (Nat.lt_of_le_of_lt ht.1 maxLen_lt)⟩
end
end Go.Proofs.YtlmefodpnhpghaaD
