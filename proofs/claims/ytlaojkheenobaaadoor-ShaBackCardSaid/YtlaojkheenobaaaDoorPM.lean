/- Plain words: numbers, bits, rows. -/
import Derived.Test.YtlaojkheenobaaaDoorPL
namespace Go.Proofs.YtlaojkheenobaaaDoorS
open Go Go.RowKit
set_option linter.unusedVariables false
set_option linter.unusedSimpArgs false
section
variable {X V : Type}
theorem wrapU8 (n : Int) : IntKind.wrap .u8 n = n % 256 := by simp only [IntKind.wrap, IntKind.bits, IntKind.signed]; simp
theorem wrapU32 (n : Int) : IntKind.wrap .u32 n = n % 4294967296 := by simp only [IntKind.wrap, IntKind.bits, IntKind.signed]; simp
theorem wrapU64 (n : Int) : IntKind.wrap .u64 n = n % 18446744073709551616 := by simp only [IntKind.wrap, IntKind.bits, IntKind.signed]; simp
theorem wrap64N {m : Nat} (h : m < 9223372036854775808) : IntKind.wrap .i64 (m : Int) = m := wrap64 (by omega) (by omega)
theorem ofInt_toNat (w a : Nat) : (BitVec.ofInt w (a : Int)).toNat = a % 2 ^ w := by simp
/-- Bits of numbers that are not below 0. -/
theorem bop_or64 {a b : Nat} (ha : a < 2 ^ 63) (hb : b < 2 ^ 63) : bop .or .i64 (a : Int) (b : Int) = ((a ||| b : Nat) : Int) := by
  show IntKind.wrap .i64 (((BitVec.ofInt 64 (a : Int) ||| BitVec.ofInt 64 (b : Int)).toNat : Nat) : Int) = _
  rw [BitVec.toNat_or, ofInt_toNat, ofInt_toNat]
  rw [Nat.mod_eq_of_lt (by omega), Nat.mod_eq_of_lt (by omega)]
  exact wrap64N (Nat.or_lt_two_pow ha hb)
theorem bop_and64 {a b : Nat} (ha : a < 2 ^ 63) (hb : b < 2 ^ 63) : bop .and .i64 (a : Int) (b : Int) = ((a &&& b : Nat) : Int) := by
  show IntKind.wrap .i64 (((BitVec.ofInt 64 (a : Int) &&& BitVec.ofInt 64 (b : Int)).toNat : Nat) : Int) = _
  rw [BitVec.toNat_and, ofInt_toNat, ofInt_toNat]
  rw [Nat.mod_eq_of_lt (by omega), Nat.mod_eq_of_lt (by omega)]
  exact wrap64N (Nat.lt_of_le_of_lt Nat.and_le_left ha)
/-- The last bits of a number. -/
theorem bop_mask64 (a : Int) (n : Nat) (hn : n < 62) : bop .and .i64 a ((2 ^ n - 1 : Nat) : Int) = a % (2 ^ n : Nat) := by
  show IntKind.wrap .i64 (((BitVec.ofInt 64 a &&& BitVec.ofInt 64 ((2 ^ n - 1 : Nat) : Int)).toNat : Nat) : Int) = _
  rw [BitVec.toNat_and, ofInt_toNat]
  have hp : 2 ^ n ≤ 2 ^ 62 := Nat.pow_le_pow_right (by decide) (by omega)
  have h1 : 2 ^ n - 1 < 2 ^ 64 := by omega
  rw [Nat.mod_eq_of_lt h1, Nat.and_two_pow_sub_one_eq_mod, BitVec.toNat_ofInt]
  have h2 : (0 : Int) ≤ a % ((2 ^ 64 : Nat) : Int) := Int.emod_nonneg _ (by decide)
  have hdvd : ((2 ^ n : Nat) : Int) ∣ ((2 ^ 64 : Nat) : Int) := by
    rw [Int.natCast_dvd_natCast]
    exact Nat.pow_dvd_pow 2 (by omega)
  have hpos : 0 < 2 ^ n := Nat.two_pow_pos n
  have e : (((a % ((2 ^ 64 : Nat) : Int)).toNat % 2 ^ n : Nat) : Int) = a % (2 ^ n : Nat) := by
    rw [Int.natCast_emod, Int.toNat_of_nonneg h2, Int.emod_emod_of_dvd _ hdvd]
  rw [e]
  have h3 : (0 : Int) ≤ a % ((2 ^ n : Nat) : Int) := Int.emod_nonneg _ (by omega)
  have h4 : a % ((2 ^ n : Nat) : Int) < ((2 ^ n : Nat) : Int) := Int.emod_lt_of_pos _ (by omega)
  refine wrap64 (by omega) ?_
  have : ((2 ^ n : Nat) : Int) ≤ ((2 ^ 62 : Nat) : Int) := by exact_mod_cast hp
  omega
theorem fdiv_eq (a : Int) {b : Int} (hb : 0 ≤ b) : Int.fdiv a b = a / b := Int.fdiv_eq_ediv_of_nonneg a hb
theorem tdiv_eq {a : Int} (ha : 0 ≤ a) (b : Int) : Int.tdiv a b = a / b := Int.tdiv_eq_ediv_of_nonneg ha
theorem tmod_eq {a : Int} (ha : 0 ≤ a) (b : Int) : Int.tmod a b = a % b := Int.tmod_eq_emod_of_nonneg ha
/-- A number and one below a power of 2, put together bit by bit. -/
theorem or_add {a b n : Nat} (hb : b < 2 ^ n) : (a * 2 ^ n) ||| b = a * 2 ^ n + b := by
  rw [Nat.mul_comm, ← Nat.two_pow_add_eq_or_of_lt hb]
theorem take_app_len {α : Type} (A B : List α) (n : Nat) (h : A.length = n) : List.take n (A ++ B) = A := by subst h; exact List.take_left
theorem take_all {α : Type} (A : List α) (n : Nat) (h : A.length ≤ n) : List.take n A = A := List.take_of_length_le h
/-- Are these bytes? -/
def Byt (bs : List Int) : Prop := ∀ b ∈ bs, 0 ≤ b ∧ b < 256
theorem Byt.nil : Byt [] := fun b h => by simp at h
theorem Byt.cons {b : Int} {bs : List Int} (h : 0 ≤ b ∧ b < 256) (k : Byt bs) : Byt (b :: bs) := fun c hc => by
  rcases List.mem_cons.1 hc with rfl | hc
  · exact h
  · exact k c hc
theorem Byt.app {a b : List Int} (h : Byt a) (k : Byt b) : Byt (a ++ b) := fun c hc => (List.mem_append.1 hc).elim (h c) (k c)
theorem Byt.rev {a : List Int} (h : Byt a) : Byt a.reverse := fun c hc => h c (List.mem_reverse.1 hc)
theorem Byt.take {a : List Int} (h : Byt a) (n : Nat) : Byt (a.take n) := fun c hc => h c (List.mem_of_mem_take hc)
theorem Byt.drop {a : List Int} (h : Byt a) (n : Nat) : Byt (a.drop n) := fun c hc => h c (List.mem_of_mem_drop hc)
theorem wf8 {n : Int} (h : (Lit.int .u8 n).wf = true) : 0 ≤ n ∧ n < 256 := by
  simp only [Lit.wf, Bool.and_eq_true, decide_eq_true_eq] at h
  simp [IntKind.min, IntKind.max, IntKind.bits, IntKind.signed] at h
  omega
theorem wf64 {n : Int} (h : (Lit.int .i64 n).wf = true) : -9223372036854775808 ≤ n ∧ n < 9223372036854775808 := by
  simp only [Lit.wf, Bool.and_eq_true, decide_eq_true_eq] at h
  simp [IntKind.min, IntKind.max, IntKind.bits, IntKind.signed] at h
  omega
theorem wfByt {bs : List Int} (h : ∀ y ∈ bs, (Lit.int .u8 y).wf = true) : Byt bs := fun b hb => wf8 (h b hb)
theorem grdT {b : Bool} {k : Option X} (h : b = true) : grd b k = k := by rw [h]; rfl
theorem bifT {b : Bool} {α : Type} {x y : α} (h : b = true) : (bif b then x else y) = x := by rw [h]; rfl
theorem bifF {b : Bool} {α : Type} {x y : α} (h : b = false) : (bif b then x else y) = y := by rw [h]; rfl
end
end Go.Proofs.YtlaojkheenobaaaDoorS
