/- Plain facts that all proofs of this seat use: no wrap where none is needed, bytes as numbers, lists cut and joined. -/
import Derived.Test.YtemhkbifgckdnaaPAllx
import Derived.Test.YtemhkbifgckdnaaBits
import Derived.Laws.BitsAllLaws
import Derived.KernelRfl
namespace Go.Proofs.Ytemhkbifgckdnaa.Fn
open Go.RowKit Go.Proofs.YtemhkbifgckdnaaW.PrintWords Go.Proofs.YtemhkbifgckdnaaW.PrintLast Go.Proofs.YtemhkbifgckdnaaW.PrintMore
set_option linter.unusedVariables false
set_option linter.unusedSimpArgs false

theorem w64 {x : Int} (h1 : -9223372036854775808 ≤ x) (h2 : x ≤ 9223372036854775807) : wrap64 x = x := by unfold wrap64; omega
theorem wadd (a b : Nat) (h : a + b ≤ 9223372036854775807) : wrap64 ((a : Int) + (b : Int)) = ((a + b : Nat) : Int) := by rw [w64 (by omega) (by omega)]; omega
theorem wmul8 (n : Nat) (h : n ≤ 1152921504606846975) : wrap64 (8 * (n : Int)) = ((8 * n : Nat) : Int) := by rw [w64 (by omega) (by omega)]; omega
theorem wsucc (n : Nat) (h : n < 9223372036854775807) : wrap64 ((n : Int) + 1) = ((n + 1 : Nat) : Int) := by rw [w64 (by omega) (by omega)]; omega
theorem wnat (n : Nat) (h : n ≤ 9223372036854775807) : wrap64 (n : Int) = (n : Int) := w64 (by omega) (by omega)
/-- Bytes: each a number from 0 to 255. -/
def By (l : List Int) : Prop := ∀ x ∈ l, 0 ≤ x ∧ x < 256
def nat (l : List Int) : List Nat := l.map Int.toNat
theorem nat_length (l : List Int) : (nat l).length = l.length := by simp [nat]
theorem nat_lt {l : List Int} (h : By l) : ∀ x ∈ nat l, x < 256 := by
  intro x hx
  simp only [nat, List.mem_map] at hx
  obtain ⟨y, hy, rfl⟩ := hx
  have := h y hy
  omega
theorem By.of_wf {l : List Int} (h : ∀ x ∈ l, (Lit.int .u8 x).wf = true) : By l := by
  intro x hx
  have := h x hx
  simp [Lit.wf, IntKind.min, IntKind.max, IntKind.signed, IntKind.bits] at this
  omega
theorem rd_getElem {l : List Int} {j : Nat} (h : j < l.length) : rd l (j : Int) = l[j] := by
  simp [rd, List.getD_eq_getElem?_getD, List.getElem?_eq_getElem h]
theorem rd_by {l : List Int} (h : By l) {j : Nat} (hj : j < l.length) : 0 ≤ rd l (j : Int) ∧ rd l (j : Int) < 256 := by
  rw [rd_getElem hj]; exact h _ (List.getElem_mem hj)
theorem rd_num {l : List Int} (h : By l) (j : Int) (h0 : 0 ≤ j) (hj : j < (l.length : Int)) : 0 ≤ rd l j ∧ rd l j < 256 := by
  obtain ⟨n, rfl⟩ := Int.eq_ofNat_of_zero_le h0
  exact rd_by h (by omega)
theorem By.take {l : List Int} (h : By l) (n : Nat) : By (l.take n) := fun x hx => h x (List.mem_of_mem_take hx)
theorem By.drop {l : List Int} (h : By l) (n : Nat) : By (l.drop n) := fun x hx => h x (List.mem_of_mem_drop hx)
theorem By.append {l m : List Int} (h : By l) (k : By m) : By (l ++ m) := fun x hx => (List.mem_append.1 hx).elim (h x) (k x)
theorem drop_cons {α : Type} {l : List α} {j : Nat} (h : j < l.length) : l.drop j = l[j] :: l.drop (j + 1) := List.drop_eq_getElem_cons h
theorem take_snoc {α : Type} {l : List α} {j : Nat} (h : j < l.length) : l.take (j + 1) = l.take j ++ [l[j]] := (List.take_append_getElem h).symm

end Go.Proofs.Ytemhkbifgckdnaa.Fn
