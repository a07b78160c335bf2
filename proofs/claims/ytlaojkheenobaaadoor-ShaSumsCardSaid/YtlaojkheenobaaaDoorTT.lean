/- What a row's list says of the package's tables. -/
import Derived.Test.YtlaojkheenobaaaDoorTP
import Derived.Lib.LaidTab
namespace Go.Proofs.YtlaojkheenobaaaDoorS
open Go Go.RowKit
set_option linter.unusedVariables false
/-- A table on the list is there, cell by cell. -/
theorem tab_el {P : Program} {W : World} {F : Nat → Prop} {name : String} {k : IntKind} {zs : List Int} {g : Nat} (h : Lib.TabIs P W name k zs) (hg : P.globalNamed name = some g) :
    g < W.heap.size ∧ ElAt W F (some zs.length) (.agg (zs.map (CV.int k))) g 0 := by
  have hc := World.var?_cell hg h
  refine ⟨?_, zs.map fun z => Value.int k z, by simp, fun j u hu => ?_, ?_⟩
  · unfold Lib.TabIs World.var? at h
    rw [hg] at h
    simp only [Option.bind_some] at h
    rcases Nat.lt_or_ge g W.heap.size with hl | hl
    · exact hl
    · rw [Array.getElem?_eq_none hl] at h; cases h
  · rw [Nat.zero_add, hc j]
    simpa using hu
  · refine .agg (by simp) (fun c hm => ?_) (fun j c v hcj hv => ?_)
    · obtain ⟨z, _, rfl⟩ := List.mem_map.1 hm
      rfl
    · rw [List.getElem?_map] at hcj hv
      cases e : zs[j]? with
      | none => rw [e] at hcj; cases hcj
      | some z =>
        rw [e] at hcj hv
        cases hcj; cases hv
        exact .int k z
/-- What is behind the first on the list is met, too. -/
theorem laid_tail {P : Program} {x : String × DataW Unit} {r : List (String × DataW Unit)} {w : World} (h : laidMet P (x :: r) w) : laidMet P r w := by
  obtain ⟨ps, hv, hnd, hrows⟩ := h
  obtain ⟨n, d⟩ := x
  obtain ⟨g, t, cs, fuel, p, q, _, _, _, _, hq, rfl⟩ := hv
  exact ⟨q, hq, List.Nodup.sublist (List.sublist_append_right _ _) hnd, fun b off hm => hrows b off (List.mem_append_right _ hm)⟩
end Go.Proofs.YtlaojkheenobaaaDoorS
