/- What a row's list says of the package's tables. -/
import Derived.Test.YtlaojkheenobaaaDoorTP
import Derived.Lib.LaidTab
import Derived.OpenShut
namespace Go.Proofs.YtlaojkheenobaaaDoorS
open Go Go.RowKit
set_option linter.unusedVariables false
/-- A table on the list is there, cell by cell. -/
theorem tab_el {P : Program} {W : World} {F : Nat → Prop} {name : String} {k : IntKind} {zs : List Int} {g : Nat} (h : Lib.TabIs P W name k zs) (hg : P.globalNamed name = some g) :
    g < W.heap.size ∧ ElAt W F (some zs.length) (.agg (zs.map (CV.int k))) g 0 := by
  have hc := World.var?_cell hg h
  refine ⟨?_, zs.map fun z => Value.int k z, by simp, fun j u hu => ?_, ?_⟩
  · unfold Lib.TabIs World.var? at h
    rw [hg] at h
    simp only [Option.bind_some] at h
    rcases Nat.lt_or_ge g W.heap.size with hl | hl
    · exact hl
    · rw [Array.getElem?_eq_none hl] at h; cases h
  · rw [Nat.zero_add, hc j]
    simpa using hu
  · refine .agg (by simp) (fun c hm => ?_) (fun j c v hcj hv => ?_)
    · obtain ⟨z, _, rfl⟩ := List.mem_map.1 hm
      rfl
    · rw [List.getElem?_map] at hcj hv
      cases e : zs[j]? with
      | none => rw [e] at hcj; cases hcj
      | some z =>
        rw [e] at hcj hv
        cases hcj; cases hv
        exact .int k z
/-- What is behind the first on the list is met, too. -/
theorem laid_tail {P : Program} {x : String × DataW Unit} {r : List (String × DataW Unit)} {w : World} (h : laidMet P (x :: r) w) : laidMet P r w := by
  obtain ⟨ps, hv, hnd, hrows⟩ := h
  obtain ⟨n, d⟩ := x
  obtain ⟨g, t, cs, fuel, p, q, _, _, _, _, hq, rfl⟩ := hv
  exact ⟨q, hq, List.Nodup.sublist (List.sublist_append_right _ _) hnd, fun b off hm => hrows b off (List.mem_append_right _ hm)⟩
theorem okArr {P : Program} {W : World} {r : Reach} {b0 : Nat} {t e : TypeId} {n : Nat} {v : Value} (ht : P.underlying t = some (.array n e)) (h : Value.okWide P W r b0 t v) : ∃ cs, v = .agg cs := by
  simp only [Value.okWide, ht] at h
  obtain ⟨cs, h1, _⟩ := h
  exact ⟨cs, h1⟩
/-- An argument that is an array of numbers. -/
theorem cameArr {P : Program} {H : Type} {enc : TypeId × Value → H} {W : World} {v : Value} {d : DataW H} {p : List MemPlace} {r : Reach} {b0 : Nat} {t e : TypeId} {n : Nat} {k : IntKind} (ht : P.underlying t = some (.array n e)) (he : P.underlying e = some (.int k)) (hce : P.cellsOf e = 1) (hct : P.cellsOf t = n) (hv : Value.okWide P W r b0 t v)
    (hd : DataW.Trod enc P W 0 (fun _ => true) true t v d p) : ∃ x : List Int, VRel W (fun _ => .absent) (Here W) (fun _ => False) (.v (.agg (x.map fun y => CV.int k y))) v ∧ (x.length = n ∧ ∀ y ∈ x, (Lit.int k y).wf = true) := by
  obtain ⟨cs, rfl⟩ := okArr ht hv
  obtain ⟨fuel, hf⟩ := hd
  obtain ⟨xs, m, rfl, _, hl, hxl, hel⟩ := DataW.trod_array ht hf
  have ecs : (Value.agg cs).cells.toList = cs.toList := by simp [Value.cells]
  rw [ecs] at hl hel
  rw [hct] at hl
  simp only [hce, Nat.mul_one] at hel
  obtain ⟨zs, hzl, hzs⟩ := listOf (p := fun i (z : Int) => cs.toList[i]? = some (.int k z) ∧ (Lit.int k z).wf = true) n (fun i hi => by
    have key := hel i hi
    rw [List.getElem?_eq_getElem (by omega)] at key
    obtain ⟨z, hc, _, hw⟩ := DataW.trod_int he key
    refine ⟨z, ?_, hw⟩
    have := congrArg (·[0]?) hc
    simpa [List.getElem?_take, List.getElem?_drop] using this)
  refine ⟨zs, .v ?_, hzl, fun y hy => ?_⟩
  · have e2 : cs = cs.toList.toArray := by simp
    rw [e2]
    refine .agg (by simp [hzl]; simpa using hl.symm) (fun c hm => ?_) (fun j c u hc hu => ?_)
    · obtain ⟨z, _, rfl⟩ := List.mem_map.1 hm
      rfl
    · rw [List.getElem?_map, Option.map_eq_some_iff] at hc
      obtain ⟨z, hz, rfl⟩ := hc
      have := (hzs j z hz).1
      rw [hu] at this
      cases this
      exact .int k z
  · obtain ⟨j, hj⟩ := List.mem_iff_getElem?.1 hy
    exact (hzs j y hj).2
end Go.Proofs.YtlaojkheenobaaaDoorS
