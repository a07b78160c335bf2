/- Plain facts on the check sum of 32 bits, over natural numbers: no program in sight. -/
namespace Go.Proofs.Ytemhkbifgckdnaa.Crc

/-- One bit's step of the register. -/
def T (r : Nat) : Nat := (r >>> 1) ^^^ (if r.testBit 0 then 3988292384 else 0)
/-- n steps. -/
def Tn : Nat → Nat → Nat
  | 0, r => r
  | n + 1, r => Tn n (T r)

theorem xor4 (a b c d : Nat) : a ^^^ b ^^^ (c ^^^ d) = a ^^^ c ^^^ (b ^^^ d) := by
  apply Nat.eq_of_testBit_eq; intro i; simp only [Nat.testBit_xor]
  cases a.testBit i <;> cases b.testBit i <;> cases c.testBit i <;> cases d.testBit i <;> rfl
theorem ifx (p q : Bool) (P : Nat) : (if (p ^^ q) = true then P else 0) = (if p = true then P else 0) ^^^ (if q = true then P else 0) := by
  cases p <;> cases q <;> simp
theorem T_xor (a b : Nat) : T (a ^^^ b) = T a ^^^ T b := by
  unfold T
  rw [Nat.shiftRight_xor_distrib, Nat.testBit_xor, ifx, xor4]
theorem T_zero : T 0 = 0 := by simp [T]
theorem Tn_xor (n : Nat) : ∀ a b, Tn n (a ^^^ b) = Tn n a ^^^ Tn n b := by
  induction n with
  | zero => intro a b; rfl
  | succ n ih => intro a b; simp only [Tn]; rw [T_xor, ih]
theorem Tn_zero (n : Nat) : Tn n 0 = 0 := by
  induction n with
  | zero => rfl
  | succ n ih => simp only [Tn]; rw [T_zero, ih]
theorem T_lt {r : Nat} (h : r < 4294967296) : T r < 4294967296 := by
  unfold T
  refine Nat.xor_lt_two_pow (n := 32) ?_ ?_
  · rw [Nat.shiftRight_eq_div_pow]; omega
  · split <;> omega
theorem Tn_lt (n : Nat) : ∀ {r : Nat}, r < 4294967296 → Tn n r < 4294967296 := by
  induction n with
  | zero => intro r h; exact h
  | succ n ih => intro r h; exact ih (T_lt h)
theorem T_eq_zero {r : Nat} (h : r < 4294967296) (h0 : T r = 0) : r = 0 := by
  unfold T at h0
  have e : r >>> 1 = r / 2 := by rw [Nat.shiftRight_eq_div_pow]
  have hb : r.testBit 0 = decide (r % 2 = 1) := by rw [Nat.testBit_zero]
  rw [e, hb] at h0
  by_cases hp : r % 2 = 1
  · simp only [hp, decide_true, if_true] at h0
    have h1 : r / 2 ^^^ 3988292384 ^^^ 3988292384 = 0 ^^^ 3988292384 := by rw [h0]
    rw [Nat.xor_assoc, Nat.xor_self, Nat.xor_zero, Nat.zero_xor] at h1
    omega
  · simp only [hp, decide_false, Bool.false_eq_true, if_false, Nat.xor_zero] at h0
    omega
theorem Tn_eq_zero (n : Nat) : ∀ {r : Nat}, r < 4294967296 → Tn n r = 0 → r = 0 := by
  induction n with
  | zero => intro r _ h; exact h
  | succ n ih => intro r h h0; exact T_eq_zero h (ih (T_lt h) h0)
theorem T_double (y : Nat) : T (2 * y) = y := by
  unfold T
  rw [Nat.testBit_zero, Nat.shiftRight_eq_div_pow]
  have : 2 * y % 2 = 0 := by omega
  simp [this]
theorem Tn_add (m n r : Nat) : Tn (m + n) r = Tn n (Tn m r) := by
  induction m generalizing r with
  | zero => simp [Tn]
  | succ m ih => rw [Nat.succ_add]; simp only [Tn]; exact ih _

/-- A byte's step. -/
def stp (r b : Nat) : Nat := Tn 8 (r ^^^ b)
def run (r : Nat) (l : List Nat) : Nat := l.foldl stp r
theorem run_nil (r : Nat) : run r [] = r := rfl
theorem run_cons (r b : Nat) (l : List Nat) : run r (b :: l) = run (stp r b) l := rfl
theorem run_append (r : Nat) (l m : List Nat) : run r (l ++ m) = run (run r l) m := List.foldl_append
theorem run_snoc (r b : Nat) (l : List Nat) : run r (l ++ [b]) = stp (run r l) b := by rw [run_append]; rfl
theorem stp_lt {r b : Nat} (hr : r < 4294967296) (hb : b < 256) : stp r b < 4294967296 :=
  Tn_lt 8 (Nat.xor_lt_two_pow (n := 32) (by omega) (by omega))
theorem run_lt {l : List Nat} (hl : ∀ x ∈ l, x < 256) : ∀ {r : Nat}, r < 4294967296 → run r l < 4294967296 := by
  induction l with
  | nil => intro r h; exact h
  | cons b l ih => intro r h; exact ih (fun x hx => hl x (List.mem_cons_of_mem _ hx)) (stp_lt h (hl b List.mem_cons_self))
theorem stp_xor (r s b c : Nat) : stp (r ^^^ s) (b ^^^ c) = stp r b ^^^ stp s c := by
  unfold stp; rw [xor4, Tn_xor]
theorem run_xor (l : List Nat) : ∀ (m : List Nat) (r s : Nat), l.length = m.length → run (r ^^^ s) (List.zipWith (· ^^^ ·) l m) = run r l ^^^ run s m := by
  induction l with
  | nil => intro m r s h; cases m with
    | nil => rfl
    | cons _ _ => simp at h
  | cons b l ih => intro m r s h; cases m with
    | nil => simp at h
    | cons c m =>
      simp only [List.zipWith_cons_cons, run_cons, stp_xor]
      exact ih m _ _ (by simpa using h)

/-- The register after the bits of a row of bits. -/
def bitrun (r : Nat) (l : List Nat) : Nat := l.foldl (fun r c => T (r ^^^ c)) r
/-- The number that a row of bits is, the first one the lowest. -/
def num : List Nat → Nat
  | [] => 0
  | c :: l => c + 2 * num l
theorem bit_xor {c : Nat} (hc : c < 2) (y : Nat) : c + 2 * y = c ^^^ (2 * y) := by
  have : c = 0 ∨ c = 1 := by omega
  rcases this with rfl | rfl
  · simp
  · apply Nat.eq_of_testBit_eq
    intro i
    rw [Nat.testBit_xor]
    cases i with
    | zero => simp [Nat.testBit_zero]
    | succ i => rw [Nat.testBit_succ, Nat.testBit_succ, Nat.testBit_succ]; simp; congr 1; omega
theorem bitrun_num (l : List Nat) : ∀ (r : Nat), (∀ c ∈ l, c < 2) → bitrun r l = Tn l.length (r ^^^ num l) := by
  induction l with
  | nil => intro r _; simp [bitrun, num, Tn]
  | cons c l ih =>
    intro r h
    show bitrun (T (r ^^^ c)) l = _
    rw [ih _ (fun x hx => h x (List.mem_cons_of_mem _ hx))]
    simp only [List.length_cons, Tn, num]
    rw [bit_xor (h c List.mem_cons_self), ← Nat.xor_assoc, T_xor (r ^^^ c), T_double]
theorem num_lt (l : List Nat) (h : ∀ c ∈ l, c < 2) : num l < 2 ^ l.length := by
  induction l with
  | nil => simp [num]
  | cons c l ih =>
    have h1 := ih (fun x hx => h x (List.mem_cons_of_mem _ hx))
    have h2 := h c List.mem_cons_self
    simp only [num, List.length_cons, Nat.pow_succ]
    omega
theorem num_zero (l : List Nat) (h0 : num l = 0) : ∀ c ∈ l, c = 0 := by
  induction l with
  | nil => intro c hc; cases hc
  | cons a l ih =>
    simp only [num] at h0
    intro c hc
    rcases List.mem_cons.1 hc with rfl | hc
    · omega
    · exact ih (by omega) c hc
theorem bitrun_append (r : Nat) (l m : List Nat) : bitrun r (l ++ m) = bitrun (bitrun r l) m := List.foldl_append
theorem bitrun_zeros (n : Nat) : ∀ r, bitrun r (List.replicate n 0) = Tn n r := by
  induction n with
  | zero => intro r; rfl
  | succ n ih =>
    intro r
    rw [List.replicate_succ]
    show bitrun (T (r ^^^ 0)) (List.replicate n 0) = Tn n (T r)
    rw [Nat.xor_zero, ih]
/-- A row of bits of which none stands beyond a window of 32 leads to 0 alone if all are 0. -/
theorem window (i j : Nat) (m : List Nat) (hm : ∀ c ∈ m, c < 2) (hl : m.length ≤ 32) (h0 : bitrun 0 (List.replicate i 0 ++ m ++ List.replicate j 0) = 0) : ∀ c ∈ m, c = 0 := by
  rw [bitrun_append, bitrun_append, bitrun_zeros i, Tn_zero, bitrun_num _ _ hm, bitrun_zeros j, Nat.zero_xor, ← Tn_add] at h0
  have hlt : num m < 4294967296 := Nat.lt_of_lt_of_le (num_lt m hm) (by
    have : (2 : Nat) ^ m.length ≤ 2 ^ 32 := Nat.pow_le_pow_right (by omega) hl
    omega)
  exact num_zero m (Tn_eq_zero _ hlt h0)

/-- The bits of a byte, the lowest first; of bytes. -/
def bits8 (b : Nat) : List Nat := (List.range 8).map fun k => b / 2 ^ k % 2
def bitsOf (l : List Nat) : List Nat := l.flatMap bits8
theorem bits8_lt (b : Nat) : ∀ c ∈ bits8 b, c < 2 := by
  intro c hc
  simp only [bits8, List.mem_map] at hc
  obtain ⟨k, _, rfl⟩ := hc
  exact Nat.mod_lt _ (by omega)
theorem bitsOf_lt (l : List Nat) : ∀ c ∈ bitsOf l, c < 2 := by
  intro c hc
  simp only [bitsOf, List.mem_flatMap] at hc
  obtain ⟨b, _, hc⟩ := hc
  exact bits8_lt b c hc
theorem num_bits8 {b : Nat} (hb : b < 256) : num (bits8 b) = b := by
  have e : bits8 b = [b % 2, b / 2 % 2, b / 4 % 2, b / 8 % 2, b / 16 % 2, b / 32 % 2, b / 64 % 2, b / 128 % 2] := by
    simp [bits8, List.range_succ, List.range_zero]
  rw [e]
  simp only [num]
  omega
theorem step_bits {b : Nat} (hb : b < 256) (r : Nat) : stp r b = bitrun r (bits8 b) := by
  rw [bitrun_num _ _ (bits8_lt b), num_bits8 hb]
  rfl
theorem run_bits (l : List Nat) (hl : ∀ x ∈ l, x < 256) : ∀ r, run r l = bitrun r (bitsOf l) := by
  induction l with
  | nil => intro r; rfl
  | cons b l ih =>
    intro r
    rw [run_cons, step_bits (hl b List.mem_cons_self), ih (fun x hx => hl x (List.mem_cons_of_mem _ hx))]
    show _ = bitrun r (bits8 b ++ bitsOf l)
    rw [bitrun_append]
/-- The document's own step of a byte: bit by bit. -/
def U (r c : Nat) : Nat := (r >>> 1) ^^^ (if r.testBit 0 ^^ c.testBit 0 then 3988292384 else 0)
theorem T_U (r c : Nat) : T (r ^^^ c) = U r c ^^^ (c >>> 1) := by
  unfold T U
  rw [Nat.shiftRight_xor_distrib, Nat.testBit_xor, Nat.xor_assoc, Nat.xor_assoc, Nat.xor_comm (c >>> 1)]
end Go.Proofs.Ytemhkbifgckdnaa.Crc
