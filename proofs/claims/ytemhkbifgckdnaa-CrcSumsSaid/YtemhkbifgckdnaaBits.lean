/- Plain facts on the machine's numbers: masks, joins, shifts. -/
import Derived.Test.YtemhkbifgckdnaaWMore
import Derived.Laws.BitsAllLaws
import Derived.Laws.BitsLemmas
namespace Go.Proofs.Ytemhkbifgckdnaa.Bits
open Go.RowKit Go.Proofs.YtemhkbifgckdnaaW.PrintWords Go.Proofs.YtemhkbifgckdnaaW.PrintLast Go.Proofs.YtemhkbifgckdnaaW.PrintMore
theorem i64_mask (n : Int) (i : Nat) (hi : i ≤ 62) : Go.bits .and .i64 n (2 ^ i - 1) = n % 2 ^ i := by
  have hpos : (0 : Nat) < 2 ^ i := Nat.two_pow_pos i
  have hle : (2 : Nat) ^ i ≤ 2 ^ 62 := Nat.pow_le_pow_right (by omega) hi
  have hc : ((2 : Int) ^ i - 1) = ((2 ^ i - 1 : Nat) : Int) := by
    rw [Int.natCast_sub hpos]; simp
  have hcast : ((2 : Int) ^ i) = ((2 ^ i : Nat) : Int) := by simp
  have hm : (BitVec.ofInt 64 ((2 ^ i - 1 : Nat) : Int)).toNat = 2 ^ i - 1 := by
    rw [BitVec.ofInt_natCast, BitVec.toNat_ofNat]; exact Nat.mod_eq_of_lt (by omega)
  have key : (BitVec.ofInt 64 n &&& BitVec.ofInt 64 ((2 ^ i - 1 : Nat) : Int)).toNat = (n % ((2 ^ 64 : Nat) : Int)).toNat % 2 ^ i := by
    rw [BitVec.toNat_and, BitVec.toNat_ofInt, hm, Nat.and_two_pow_sub_one_eq_mod]
  rw [hc]
  show IntKind.i64.wrap ((BitVec.ofInt 64 n &&& BitVec.ofInt 64 ((2 ^ i - 1 : Nat) : Int)).toNat : Nat) = _
  rw [key, IntKind.wrap_i64, hcast]
  have hlt : (n % ((2 ^ 64 : Nat) : Int)).toNat % 2 ^ i < 2 ^ i := Nat.mod_lt _ hpos
  have h0 : 0 ≤ n % ((2 ^ 64 : Nat) : Int) := Int.emod_nonneg _ (by decide)
  have e : (((n % ((2 ^ 64 : Nat) : Int)).toNat % 2 ^ i : Nat) : Int) = n % ((2 ^ i : Nat) : Int) := by
    rw [Int.natCast_emod, Int.toNat_of_nonneg h0]
    have hd : ((2 ^ i : Nat) : Int) ∣ ((2 ^ 64 : Nat) : Int) := by
      refine ⟨((2 ^ (64 - i) : Nat) : Int), ?_⟩
      rw [← Int.natCast_mul, ← Nat.pow_add, show i + (64 - i) = 64 by omega]
    exact Int.emod_emod_of_dvd n hd
  rw [e] at *
  have h1 : n % ((2 ^ i : Nat) : Int) < ((2 ^ i : Nat) : Int) := Int.emod_lt_of_pos _ (by omega)
  have h2 : 0 ≤ n % ((2 ^ i : Nat) : Int) := Int.emod_nonneg _ (by omega)
  generalize hp : (2 ^ i : Nat) = p at *
  omega
theorem wraps_i64 (n : Int) (h₀ : 0 ≤ n) (h₁ : n < 2 ^ 62) : IntKind.i64.wrap n = n := by rw [IntKind.wrap_i64]; omega
theorem wraps_u32 (n : Int) (h₀ : 0 ≤ n) (h₁ : n < 2 ^ 32) : IntKind.u32.wrap n = n := by rw [IntKind.wrap_u32]; omega
theorem wraps_u64 (n : Int) (h₀ : 0 ≤ n) (h₁ : n < 2 ^ 64) : IntKind.u64.wrap n = n := by rw [IntKind.wrap_u64]; omega
/-- high ||| low, the low below the high's last bit. -/
theorem i64_join (i : Nat) (x y : Int) (hx₀ : 0 ≤ x) (hx : x % 2 ^ i = 0) (hx₁ : x < 2 ^ 62) (hy₀ : 0 ≤ y) (hy : y < 2 ^ i) (hy₁ : y < 2 ^ 62) : Go.bits .or .i64 x y = x + y :=
  bits_join .i64 62 (by decide) wraps_i64 i x y hx₀ hx hx₁ hy₀ hy hy₁
theorem u32_join (i : Nat) (x y : Int) (hx₀ : 0 ≤ x) (hx : x % 2 ^ i = 0) (hx₁ : x < 2 ^ 32) (hy₀ : 0 ≤ y) (hy : y < 2 ^ i) (hy₁ : y < 2 ^ 32) : Go.bits .or .u32 x y = x + y :=
  bits_join .u32 32 (by decide) wraps_u32 i x y hx₀ hx hx₁ hy₀ hy hy₁
theorem bor_comm (k : IntKind) (x y : Int) : Go.bits .or k x y = Go.bits .or k y x := by simp only [Go.bits, BitVec.or_comm]
theorem shl_u32 (x : Int) (y : Nat) (h : y ≤ 32) : shl .u32 x (y : Int) = (x * 2 ^ y) % 4294967296 := by
  unfold shl
  rw [IntKind.wrap_u32, show ((y : Int)).toNat = y by omega, show min y (IntKind.u32.bits) = y from Nat.min_eq_left h]
theorem shr_u32 (x : Int) (y : Nat) (h : y ≤ 32) : shr .u32 x (y : Int) = x / 2 ^ y := by
  unfold shr
  rw [show ((y : Int)).toNat = y by omega, show min y (IntKind.u32.bits) = y from Nat.min_eq_left h]
theorem shr_u8 (x : Int) (y : Nat) (h : y ≤ 8) : shr .u8 x (y : Int) = x / 2 ^ y := by
  unfold shr
  rw [show ((y : Int)).toNat = y by omega, show min y (IntKind.u8.bits) = y from Nat.min_eq_left h]
theorem shl_u8 (x : Int) (y : Nat) (h : y ≤ 8) : shl .u8 x (y : Int) = (x * 2 ^ y) % 256 := by
  unfold shl
  rw [IntKind.wrap_u8, show ((y : Int)).toNat = y by omega, show min y (IntKind.u8.bits) = y from Nat.min_eq_left h]
end Go.Proofs.Ytemhkbifgckdnaa.Bits
