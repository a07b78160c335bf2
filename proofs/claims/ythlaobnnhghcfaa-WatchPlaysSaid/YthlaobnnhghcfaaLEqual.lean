/- bytes.Equal, in plain words. -/
import Derived.Test.YthlaobnnhghcfaaD
import Derived.Test.YthlaobnnhghcfaaPM
namespace Go.Proofs.YthlaobnnhghcfaaD
open Go Go.Proofs.YthlaobnnhghcfaaS Go.Proofs
set_option linter.unusedVariables false
set_option linter.unusedSimpArgs false
section
variable {X : Type}
theorem bytesOf_list (a : List Int) : (bytesOf (by8 a)).toList = a.map fun n => UInt8.ofNat n.toNat := by
  rw [ByteArray.toList_eq]
  simp [bytesOf, by8, CV.toI]
theorem bytesOf_inj : ∀ {a b : List Int}, Byt a → Byt b → (a.map fun n => UInt8.ofNat n.toNat) = (b.map fun n => UInt8.ofNat n.toNat) → a = b
  | [], [], _, _, _ => rfl
  | [], _ :: _, _, _, h => by simp at h
  | _ :: _, [], _, _, h => by simp at h
  | x :: a, y :: b, ha, hb, h => by
    simp only [List.map_cons, List.cons.injEq] at h
    have hx := ha x List.mem_cons_self
    have hy := hb y List.mem_cons_self
    have e : x = y := by
      have := congrArg UInt8.toNat h.1
      simp only [UInt8.toNat_ofNat'] at this
      omega
    rw [e, bytesOf_inj (fun c hc => ha c (List.mem_cons_of_mem _ hc)) (fun c hc => hb c (List.mem_cons_of_mem _ hc)) h.2]
theorem all8 (a : List Int) : List.all (by8 a) (CV.isI .u8) = true := by
  rw [List.all_eq_true]
  intro c hc
  simp only [by8, List.mem_map] at hc
  obtain ⟨n, _, rfl⟩ := hc
  exact isI_int _ _
theorem bytesEqual_eq {k : Nat} (K : Bool → Option X) (a b : List Int) (ha : Byt a) (hb : Byt b) : f42 k K (by8 a) (by8 b) = K (decide (a = b)) := by
  unfold f42 f42_A f42_T
  rw [all8, all8]
  show K ((bytesOf (by8 a)).toList == (bytesOf (by8 b)).toList) = _
  rw [bytesOf_list, bytesOf_list]
  congr 1
  by_cases h : a = b
  · simp [h]
  · rw [decide_eq_false h, beq_eq_false_iff_ne]
    exact fun e => h (bytesOf_inj ha hb e)
end
end Go.Proofs.YthlaobnnhghcfaaD
