/- A law's row: structs in structs; an argument that is a struct. -/
import Derived.Test.YtlaojkheenobaaaDoorTN
namespace Go.Proofs.YtlaojkheenobaaaDoorS
open Go Go.RowKit
set_option linter.unusedVariables false
set_option linter.unusedSimpArgs false
/-- A struct's fields, of so many cells, are read as leaves. -/
def RdG (P : Program) (n : Nat) (fs : List (TypeId × Nat)) (off m : Nat) {α : Type} (en : α → List CV) (wf : α → Prop) : Prop :=
  ∀ (H : Type) (enc : TypeId × Value → H) (w : World) (fuel : Nat) (cs : List Value), fuel ≤ n → cs.length = off + m →
    (∀ f ∈ fs, ∃ y, DataW.trod enc P w 0 (fun _ => true) true fuel f.1 ((cs.drop f.2).take (P.cellsOf f.1)) = some y) → ∃ a : α, Leaves w (en a) (cs.drop off) ∧ wf a
section
variable {P : Program} {n : Nat} {t e : TypeId} {α : Type}
theorem RdG.nil {off : Nat} : RdG P n [] off 0 (fun _ : Unit => []) (fun _ => True) := by
  intro H enc w fuel cs hf hl hall
  have : cs.drop off = [] := List.drop_eq_nil_of_le (by omega)
  rw [this]
  exact ⟨(), ⟨rfl, fun c h => by simp at h, fun j c v h => by simp at h⟩, trivial⟩
theorem Leaves.append {w : World} {a b : List CV} {u v : List Value} (h : Leaves w a u) (k : Leaves w b v) : Leaves w (a ++ b) (u ++ v) := by
  refine ⟨by simp [h.1, k.1], fun c hc => (List.mem_append.1 hc).elim (h.2.1 c) (k.2.1 c), fun j c x hc hx => ?_⟩
  rcases Nat.lt_or_ge j a.length with hj | hj
  · rw [List.getElem?_append_left hj] at hc
    rw [List.getElem?_append_left (by rw [← h.1]; exact hj)] at hx
    exact h.2.2 j c x hc hx
  · rw [List.getElem?_append_right hj] at hc
    rw [List.getElem?_append_right (by rw [← h.1]; exact hj), ← h.1] at hx
    exact k.2.2 _ c x hc hx
theorem RdG.cons {β : Type} {off m : Nat} {ea : α → CV} {eb : β → List CV} {wa : α → Prop} {wb : β → Prop} {fs : List (TypeId × Nat)} (h : RdC P n t ea wa) (hs : P.cellsOf t = 1) (hag : ∀ a, (ea a).isAgg = false) (k : RdG P n fs (off + 1) m eb wb) :
    RdG P n ((t, off) :: fs) off (m + 1) (fun x : α × β => ea x.1 :: eb x.2) (fun x => wa x.1 ∧ wb x.2) := by
  intro H enc w fuel cs hf hl hall
  obtain ⟨y, hy⟩ := hall (t, off) (by simp)
  rw [hs] at hy
  obtain ⟨a, ha, hwa⟩ := h H enc w fuel _ y hf hy
  obtain ⟨b, hb, hwb⟩ := k H enc w fuel cs hf (by omega) (fun f hf => hall f (by simp [hf]))
  rcases ha with ⟨_, v, hv, hr⟩ | ⟨hag', _⟩
  · have hlt : off < cs.length := by omega
    have hd : cs.drop off = [v] ++ cs.drop (off + 1) := by
      rw [← hv]
      have : cs.drop (off + 1) = (cs.drop off).drop 1 := by rw [List.drop_drop]
      rw [this]; exact (List.take_append_drop 1 _).symm
    refine ⟨(a, b), ?_, hwa, hwb⟩
    rw [hd]
    have h1 : Leaves w [ea a] [v] := ⟨rfl, fun c hc => by simp at hc; subst hc; exact hag a, fun j c u hc hu => by
      cases j with
      | zero => simp at hc hu; subst hc hu; exact hr
      | succ j => simp at hc⟩
    exact h1.append hb
  · rw [hag a] at hag'; cases hag'
theorem RdG.sub {β : Type} {off m k : Nat} {ea : α → List CV} {eb : β → List CV} {wa : α → Prop} {wb : β → Prop} {fs : List (TypeId × Nat)} (h : RdC P n t (fun a => .agg (ea a)) wa) (hs : P.cellsOf t = k) (q : RdG P n fs (off + k) m eb wb) :
    RdG P n ((t, off) :: fs) off (k + m) (fun x : α × β => ea x.1 ++ eb x.2) (fun x => wa x.1 ∧ wb x.2) := by
  intro H enc w fuel cs hf hl hall
  obtain ⟨y, hy⟩ := hall (t, off) (by simp)
  rw [hs] at hy
  obtain ⟨a, ha, hwa⟩ := h H enc w fuel _ y hf hy
  obtain ⟨b, hb, hwb⟩ := q H enc w fuel cs hf (by omega) (fun f hf => hall f (by simp [hf]))
  rcases ha with ⟨hag, _⟩ | ⟨_, hr⟩
  · cases hag
  · have hd : cs.drop off = (cs.drop off).take k ++ cs.drop (off + k) := by
      rw [← List.drop_drop]; exact (List.take_append_drop k _).symm
    refine ⟨(a, b), ?_, hwa, hwb⟩
    rw [hd]
    refine Leaves.append ?_ hb
    generalize (List.take k (List.drop off cs)) = us at hr
    generalize hv : Value.agg us.toArray = v at hr
    cases hr with
    | agg hl ha h =>
      rename_i us' 
      cases hv
      exact ⟨hl, ha, h⟩
theorem RdC.structG {m : Nat} {fs : List (TypeId × Nat)} {en : α → List CV} {wf : α → Prop} (ht : fieldsOf P t = some fs) (hs : P.cellsOf t = m) (h : RdG P n fs 0 m en wf) : RdC P (n + 1) t (fun a => .agg (en a)) wf := by
  intro H enc w fuel cs x hf hx
  unfold fieldsOf at ht
  split at ht
  · rename_i fs' hu
    cases ht
    obtain ⟨xs, k, rfl, _, hl, hlen, hall⟩ := DataW.trod_struct hu hx
    obtain ⟨a, ha, hw⟩ := h H enc w k cs (by omega) (by omega) (fun f hf => by
      obtain ⟨g, hg, rfl⟩ := List.mem_map.1 hf
      obtain ⟨i, hi, he⟩ := List.mem_iff_getElem.1 hg
      have hi' : fs'[i]? = some g := by rw [← Array.getElem?_toList, List.getElem?_eq_getElem hi, he]
      have := hall i g hi'
      rw [List.getElem?_eq_getElem (by rw [hlen]; simpa using hi)] at this
      exact ⟨_, this⟩)
    rw [List.drop_zero] at ha
    exact ⟨a, .inr ⟨rfl, .agg ha.1 ha.2.1 ha.2.2⟩, hw⟩
  · cases ht
/-- An argument that is a struct. -/
theorem cameStruct {H : Type} {enc : TypeId × Value → H} {W : World} {v : Value} {d : DataW H} {p : List MemPlace} {r : Reach} {b0 : Nat} {fs : List (TypeId × Nat)} {en : α → List CV} {wf : α → Prop} (ht : fieldsOf P t = some fs) (hv : Value.okWide P W r b0 t v)
    (h : ∀ n, RdC P n t (fun a => .agg (en a)) wf) (hd : DataW.Trod enc P W 0 (fun _ => true) true t v d p) : ∃ x : α, VRel W (fun _ => .absent) (Here W) (fun _ => False) (.v (.agg (en x))) v ∧ wf x := by
  unfold fieldsOf at ht
  split at ht
  · rename_i fs' hu
    obtain ⟨cs, rfl, _⟩ := Go.WideShapes.okWide_struct hu hv
    obtain ⟨fuel, hf⟩ := hd
    obtain ⟨x, hc, hw⟩ := h fuel _ _ _ _ _ _ (Nat.le_refl _) hf
    rcases hc with ⟨hag, _⟩ | ⟨_, hr⟩
    · cases hag
    · have e : (Value.agg cs).cells.toList.toArray = cs := by simp [Value.cells]
      rw [e] at hr
      exact ⟨x, .v hr, hw⟩
  · cases ht
end
end Go.Proofs.YtlaojkheenobaaaDoorS
