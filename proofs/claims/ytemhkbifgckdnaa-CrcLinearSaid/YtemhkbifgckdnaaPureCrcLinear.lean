/- Proved: of any two rows of bytes, held against each other by exclusive or, the check sum is that of both sums and that of as many bytes 0; no condition (the statement's own guard: up to 1000 bytes). -/
import Derived.Test.YtemhkbifgckdnaaCrcFn
namespace Go.Proofs.Ytemhkbifgckdnaa.Pure
open Go.RowKit Go.Proofs.Ytemhkbifgckdnaa.PAll Go.Proofs.YtemhkbifgckdnaaW.PrintWords Go.Proofs.YtemhkbifgckdnaaW.PrintLast Go.Proofs.YtemhkbifgckdnaaW.PrintMore Go.Proofs.Ytemhkbifgckdnaa.Crc Go.Proofs.Ytemhkbifgckdnaa.Fn

def bx (x y : Int) : Int := ((x.toNat ^^^ y.toNat : Nat) : Int)
theorem bx_by {x y : Int} (hx : 0 ≤ x ∧ x < 256) (hy : 0 ≤ y ∧ y < 256) : 0 ≤ bx x y ∧ bx x y < 256 := by
  have : x.toNat ^^^ y.toNat < 2 ^ 8 := Nat.xor_lt_two_pow (by omega) (by omega)
  unfold bx; omega
theorem bits_bx {x y : Int} (hx : 0 ≤ x ∧ x < 256) (hy : 0 ≤ y ∧ y < 256) : Go.bits .xor .u8 x y = bx x y := u8_xor x y hx.1 hx.2 hy.1 hy.2
theorem zip_by {a : List Int} : ∀ {b : List Int}, By a → By b → By (List.zipWith bx a b) := by
  induction a with
  | nil => intro b _ _ x hx; simp at hx
  | cons x a ih =>
    intro b ha hb
    cases b with
    | nil => intro x hx; simp at hx
    | cons y b =>
      intro z hz
      simp only [List.zipWith_cons_cons, List.mem_cons] at hz
      rcases hz with rfl | hz
      · exact bx_by (ha x List.mem_cons_self) (hb y List.mem_cons_self)
      · exact ih (fun u hu => ha u (List.mem_cons_of_mem _ hu)) (fun u hu => hb u (List.mem_cons_of_mem _ hu)) z hz
theorem nat_zip (a : List Int) : ∀ (b : List Int), nat (List.zipWith bx a b) = List.zipWith (· ^^^ ·) (nat a) (nat b) := by
  induction a with
  | nil => intro b; rfl
  | cons x a ih =>
    intro b
    cases b with
    | nil => rfl
    | cons y b => have := ih b; simp only [nat] at this; simp [nat, bx, this]
theorem zip_zeros (l : List Nat) : List.zipWith (· ^^^ ·) l (List.replicate l.length 0) = l := by
  induction l with
  | nil => rfl
  | cons x l ih => simp [List.replicate_succ, ih]
theorem nat_zeros (n : Nat) : nat (List.replicate n 0) = List.replicate n 0 := by simp [nat]
theorem sum_linear {a b : List Int} (h : a.length = b.length) : sum 0 (List.zipWith bx a b) = sum 0 a ^^^ sum 0 b ^^^ sum 0 (List.replicate a.length 0) := by
  unfold sum
  simp only [Nat.xor_zero]
  rw [nat_zip, nat_zeros]
  have h1 : (nat a).length = (nat b).length := by simp [nat, h]
  have h2 : (List.zipWith (· ^^^ ·) (nat a) (nat b)).length = (List.replicate a.length 0).length := by simp [nat, h]
  have e := run_xor (List.zipWith (· ^^^ ·) (nat a) (nat b)) (List.replicate a.length 0) (4294967295 ^^^ 4294967295) 4294967295 h2
  have e2 := run_xor (nat a) (nat b) 4294967295 4294967295 h1
  have e3 : List.zipWith (· ^^^ ·) (List.zipWith (· ^^^ ·) (nat a) (nat b)) (List.replicate a.length 0) = List.zipWith (· ^^^ ·) (nat a) (nat b) := by
    have := zip_zeros (List.zipWith (· ^^^ ·) (nat a) (nat b))
    rwa [h2, List.length_replicate] at this
  rw [e3, e2, Nat.xor_self, Nat.zero_xor] at e
  rw [e]
  generalize run 4294967295 (nat a) = x
  generalize run 4294967295 (nat b) = y
  generalize run 4294967295 (List.replicate a.length 0) = z
  apply Nat.eq_of_testBit_eq
  intro i
  simp only [Nat.testBit_xor]
  generalize Nat.testBit 4294967295 i = p
  cases p <;> cases x.testBit i <;> cases y.testBit i <;> cases z.testBit i <;> rfl

theorem set_mid {α : Type} (A : List α) (v u : α) (B : List α) (j : Nat) (h : A.length = j) : (A ++ u :: B).set j v = A ++ v :: B := by
  subst h; simp
theorem take_succ_zip {a b : List Int} {j : Nat} (ha : j < a.length) (hb : j < b.length) : List.zipWith bx (a.take (j + 1)) (b.take (j + 1)) = List.zipWith bx (a.take j) (b.take j) ++ [bx (rd a j) (rd b j)] := by
  rw [take_snoc ha, take_snoc hb, List.zipWith_append (by simp; omega), rd_getElem ha, rd_getElem hb]
  rfl
theorem loop (a b : List Int) (ha : By a) (hb : By b) (n : Nat) (hn : n ≤ 1000) (hna : n ≤ a.length) (hnb : n ≤ b.length) (d : Nat) : ∀ (j : Nat), j + d = n →
    Ev (fun k => outpostlaw02_CrcLinear.l0 k a b (n : Int) (List.zipWith bx (a.take j) (b.take j) ++ List.replicate d 0) (n : Int) (j : Int)) true := by
  have hat : By (a.take n) := ha.take n
  have hbt : By (b.take n) := hb.take n
  induction d with
  | zero =>
    intro j hj
    obtain rfl : j = n := by omega
    have hlen : (List.zipWith bx (a.take j) (b.take j)).length = j := by simp; omega
    have hz : By (List.replicate j 0) := fun x hx => by have := List.eq_of_mem_replicate hx; omega
    have s1 := sum_f (List.zipWith bx (a.take j) (b.take j)) (zip_by hat hbt) (by omega)
    have s2 := sum_f (a.take j) hat (by simp; omega)
    have s3 := sum_f (b.take j) hbt (by simp; omega)
    have s4 := sum_f (List.replicate j 0) hz (by simp; omega)
    have e := sum_linear (a := a.take j) (b := b.take j) (by simp; omega)
    rw [show (a.take j).length = j by simp; omega] at e
    have x1 := xorN (sum_lt (r := 0) (by omega) hat) (sum_lt (r := 0) (by omega) hbt)
    have x2 := xorN (Nat.xor_lt_two_pow (n := 32) (sum_lt (r := 0) (by omega) hat) (sum_lt (r := 0) (by omega) hbt)) (sum_lt (r := 0) (by omega) hz)
    refine Ev.step (f := fun k => (crc_Sum.f k (List.zipWith bx (a.take j) (b.take j))).bind fun t286 => (crc_Sum.f k (a.take j)).bind fun t288 => (crc_Sum.f k (b.take j)).bind fun t290 => (crc_Sum.f k (List.replicate j 0)).bind fun t294 => some (t286 == (Go.bits .xor .u32 (Go.bits .xor .u32 t288 t290) t294))) (fun k => ?_) ?_
    · simp only [outpostlaw02_CrcLinear.l0, List.replicate_zero, List.append_nil]
      have q1 : (0 : Int) ≤ (j : Int) := by omega
      have q2 : (j : Int) ≤ (a.length : Int) := by omega
      have q3 : (j : Int) ≤ (b.length : Int) := by omega
      have q5 : ((j : Int)).toNat = j := by omega
      have q4 : j ≤ 281474976710656 := by omega
      rw [if_neg (by omega)]
      simp only [if_pos q1, if_pos q2, if_pos q3, q5, if_pos q4]
    · refine Ev.bind s1 (Ev.bind s2 (Ev.bind s3 (Ev.bind s4 ?_)))
      rw [x1, x2, ← e]
      simp only [beq_self_eq_true]
      exact Ev.now _
  | succ d ih =>
    intro j hj
    have h1 := rd_by ha (show j < a.length by omega)
    have h2 := rd_by hb (show j < b.length by omega)
    refine Ev.step (fun k => ?_) (ih (j + 1) (by omega))
    simp only [outpostlaw02_CrcLinear.l0]
    rw [if_pos (by omega), if_pos (by omega), if_pos (by omega), if_pos (by omega), if_pos (by simp; omega), w64 (by omega) (by omega), bits_bx h1 h2, List.replicate_succ,
      show (((j : Int)).toNat) = j by omega, set_mid _ _ _ _ _ (by simp; omega), take_succ_zip (by omega) (by omega), List.append_assoc]
    rfl
theorem alive_f : Ev (fun k => outpostlaw02_alive.f k) true := Ev.of (fun k => outpostlaw02_alive.mono k) (k := 40) (by kernel_rfl)
theorem CrcLinear : outpostlaw02_CrcLinear.Pure := by
  intro a b hm1 hr1 hw1 hm2 hr2 hw2
  refine Ev.rounds ?_
  obtain ⟨n, hn, hna, hnb⟩ : ∃ n : Nat, mn (a.length : Int) (b.length : Int) = (n : Int) ∧ n ≤ a.length ∧ n ≤ b.length := ⟨min a.length b.length, by unfold mn; split <;> omega, by omega, by omega⟩
  unfold outpostlaw02_CrcLinear.f
  refine Ev.bind alive_f ?_
  rw [hn]
  simp only [if_true]
  by_cases h : (n : Int) > 1000
  · simp only [if_pos h]; exact Ev.now _
  · simp only [if_neg h, if_pos (Int.natCast_nonneg n), Option.bind_some]
    refine Ev.congr (fun k => ?_) (loop a b (By.of_wf hw1) (By.of_wf hw2) n (by omega) hna hnb n 0 (by omega))
    rw [if_pos (by omega)]
    simp
end Go.Proofs.Ytemhkbifgckdnaa.Pure
