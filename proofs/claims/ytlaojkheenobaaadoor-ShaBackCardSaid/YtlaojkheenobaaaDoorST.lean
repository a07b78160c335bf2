/- Cells of values; what is laid into blocks. -/
import Derived.Test.YtlaojkheenobaaaDoorSS
namespace Go.Proofs.YtlaojkheenobaaaDoorS
open Go Go.RowKit
set_option linter.unusedVariables false
set_option linter.unusedSimpArgs false
theorem Stp.mono {S S' : Nat → Prop} {w w' : World} (h : Stp S w w') (hS : ∀ k, S k → S' k) : Stp S' w w' := ⟨h.os, h.tape, h.output, h.size, fun k hk hn => h.block k hk (fun hs => hn (hS k hs)), h.bs⟩
theorem Stp.setCells (b : Nat) : ∀ (vs : List Value) (o : Nat) (w : World), Stp (fun k => k = b) w (w.setCells b o vs)
  | [], _, w => Stp.refl _ _
  | v :: r, o, w => (Stp.setCell w ⟨b, o, none⟩ v).trans (Stp.setCells b r (o + 1) _) (fun i hi _ => .inl hi)
theorem setCells_mark (b b' : Nat) : ∀ (vs : List Value) (o : Nat) (w : World) c t lo hi, (w.setCells b' o vs).heap[b]? = some (.cells c t (lo, hi)) → ∃ c' t', w.heap[b]? = some (.cells c' t' (lo, hi))
  | [], o, w, c, t, lo, hi, h => ⟨c, t, h⟩
  | v :: r, o, w, c, t, lo, hi, h => by
    obtain ⟨c', t', h'⟩ := setCells_mark b b' r (o + 1) (w.setCell ⟨b', o, none⟩ v) c t lo hi h
    unfold World.setCell at h'
    simp only [Array.getElem?_modify] at h'
    split at h'
    · next e =>
      subst e
      cases e2 : w.heap[b']? with
      | none => rw [e2] at h'; cases h'
      | some x =>
        rw [e2] at h'
        cases x with
        | cells c2 t2 f => cases h'; exact ⟨_, _, rfl⟩
        | _ => cases h'
    · exact ⟨_, _, h'⟩
theorem WrB.setCells {sh : Option Nat} {w : World} {b b' : Nat} (h : WrB sh w b) (vs : List Value) (o : Nat) (hc : ∀ j, j < vs.length → (w.cell? ⟨b', o + j, none⟩).isSome = true) (h1 : ∀ u ∈ vs, u.oneCell' = true) : WrB sh (w.setCells b' o vs) b := by
  have hs := Stp.setCells b' vs o w
  refine ⟨Nat.lt_of_lt_of_le h.1 hs.size, fun q hq => ?_, fun c t lo hi e => let ⟨c', t', e'⟩ := setCells_mark b b' vs o w c t lo hi e; h.ord c' t' lo hi e', fun q v hv => ?_, fun hsh => by rw [hs.bs b h.1, World.frozen?_setCells]; exact h.mark hsh⟩
  case refine_2 =>
    by_cases hb : b = b' ∧ o ≤ q ∧ q < o + vs.length
    · obtain ⟨rfl, h3, h4⟩ := hb
      have := World.cell?_setCells_in b vs o w hc (q - o) (by omega)
      rw [show o + (q - o) = q by omega] at this
      rw [this] at hv
      cases hv
      exact h1 _ (List.getElem_mem _)
    · rw [World.cell?_setCells_out b' vs o w ⟨b, q, none⟩ (fun h1 _ => by
        simp only at h1
        by_cases h2 : q < o
        · exact .inl h2
        · refine .inr (Nat.le_of_not_lt fun h3 => hb ⟨h1, by omega, h3⟩))] at hv
      exact h.one q v hv
  rw [hs.bs b h.1] at hq
  have := h.2 q hq
  refine ⟨by rw [World.frozen?_setCells]; exact this.1, ?_⟩
  by_cases hb : b = b' ∧ o ≤ q ∧ q < o + vs.length
  · obtain ⟨rfl, h1, h2⟩ := hb
    have := World.cell?_setCells_in b vs o w hc (q - o) (by omega)
    rw [show o + (q - o) = q by omega] at this
    rw [this]; rfl
  · rw [World.cell?_setCells_out b' vs o w ⟨b, q, none⟩ (fun h1 _ => by
      simp only at h1
      by_cases h2 : q < o
      · exact .inl h2
      · refine .inr (Nat.le_of_not_lt fun h3 => hb ⟨h1, by omega, h3⟩))]
    exact this.2
theorem CRel.one {w : World} {F : Nat → Prop} {c : CV} {v : Value} (h : CRel w F c v) (ha : c.isAgg = false) : v.oneCell' = true := by
  cases h <;> first | rfl | assumption | (cases ha)
theorem CRel.ones {w : World} {F : Nat → Prop} {ds : List CV} {vs : List Value} (h : CRel w F (.agg ds) (.agg vs.toArray)) : ∀ u ∈ vs, u.oneCell' = true := fun u hu => by
  generalize e : Value.agg vs.toArray = v at h
  cases h with
  | agg hl ha hr =>
    injection e with e
    have e := congrArg Array.toList e
    simp only [List.toList_toArray] at e
    subst e
    obtain ⟨j, hj, rfl⟩ := List.mem_iff_getElem.1 hu
    exact (hr j _ _ (List.getElem?_eq_getElem (by omega)) (List.getElem?_eq_getElem hj)).one (ha _ (List.getElem_mem _))
section
variable {X : Type} {P : Program} {T : Tab} {fr : Fr} {φ φ' : Nm → Loc} {F F' B : Nat → Prop} {s : St} {a : Act} {w w' : World} {out : X}
theorem oneCell_of {c : AVal} {v : Value} (h : VRel w φ F B c v) (ho : c.cellOk) (hc : canSt c = true) : v.oneCell' = true := by
  cases h with
  | v h => cases h <;> first | rfl | assumption | (exact absurd ho (by simp [AVal.cellOk, CV.isAgg]))
  | sl h => obtain ⟨A, c, rfl, _⟩ := h; rfl
  | nil0 A => rfl
  | oslD h A n c => rfl
  | osl h h' => obtain ⟨A, n, c, rfl⟩ := h'.slice; rfl
  | ptrD h A => rfl
  | ptr h => rfl
  | bptr hb h => rfl
  | agg hl ho' h => exact ho.elim
  | tup hl h => exact ho.elim
  | fn hl h => rfl
  | undef v => cases hc
theorem cells_rel {x : AVal} {v : Value} (h : VRel w φ F B x v) (hc : x.cells.all canSt = true) : VRelL w φ F B x.cells v.cells.toList ∧ (∀ c ∈ x.cells, c.cellOk) ∧ ∀ u ∈ v.cells.toList, u.oneCell' = true := by
  have key : VRelL w φ F B x.cells v.cells.toList ∧ (∀ c ∈ x.cells, c.cellOk) := by
    have leaf : ∀ {y : AVal} {u : Value}, VRel w φ F B y u → u.cells = #[u] → y.cellOk → VRelL w φ F B [y] u.cells.toList ∧ (∀ c ∈ [y], c.cellOk) := fun {y u} hy hu ho => by
      rw [hu]
      exact ⟨VRelL.cons.2 ⟨hy, .nil⟩, fun c hc => by simp at hc; subst hc; exact ho⟩
    cases h with
    | v h =>
      cases h with
      | @agg cs vs hl ha hr =>
        refine ⟨⟨by simp [AVal.cells, Value.cells, hl], fun j c u hc hu => ?_⟩, fun c hc => ?_⟩
        · simp only [AVal.cells, List.getElem?_map, Option.map_eq_some_iff] at hc
          obtain ⟨c0, hc0, rfl⟩ := hc
          exact .v (hr j c0 u hc0 (by simpa [Value.cells] using hu))
        · simp only [AVal.cells, List.mem_map] at hc
          obtain ⟨c0, hc0, rfl⟩ := hc
          exact ha c0 hc0
      | int k n => exact leaf (.v (.int k n)) rfl rfl
      | bool b => exact leaf (.v (.bool b)) rfl rfl
      | str b => exact leaf (.v (.str b)) rfl rfl
      | nilp => exact leaf (.v .nilp) rfl rfl
      | any _ h => exact leaf (.v (.any _ h)) (by cases v <;> first | rfl | cases h) rfl
      | slc0 sh A c => exact leaf (.v (.slc0 sh A c)) rfl rfl
      | slcN h1 h2 h3 h4 h5 => exact leaf (.v (.slcN h1 h2 h3 h4 h5)) rfl rfl
      | slcS h1 h2 h3 h4 h5 => exact leaf (.v (.slcS h1 h2 h3 h4 h5)) rfl rfl
    | sl h => obtain ⟨A, c, rfl, h⟩ := h; exact leaf (.sl ⟨A, c, rfl, h⟩) rfl trivial
    | nil0 A => exact leaf (.nil0 A) rfl trivial
    | oslD h A n c => exact leaf (.oslD h A n c) rfl trivial
    | osl h h' => obtain ⟨A, n, c, rfl⟩ := h'.slice; exact leaf (.osl h h') rfl trivial
    | ptrD h A => exact leaf (.ptrD h A) rfl trivial
    | ptr h => exact leaf (.ptr h) rfl trivial
    | bptr hb h => exact leaf (.bptr hb h) rfl trivial
    | @agg cs vs hl ho h => exact ⟨⟨by simpa [AVal.cells, Value.cells] using hl, fun j c u hc hu => h j c u (by simpa [AVal.cells] using hc) (by simpa [Value.cells] using hu)⟩, ho⟩
    | tup hl h => simp [AVal.cells, canSt] at hc
    | fn hl h => exact leaf (.fn hl h) rfl trivial
    | undef v => simp [AVal.cells, canSt] at hc
  refine ⟨key.1, key.2, fun u hu => ?_⟩
  obtain ⟨j, hj, rfl⟩ := List.mem_iff_getElem.1 hu
  have hj' : j < x.cells.length := by rw [key.1.1]; exact hj
  have hm : x.cells[j] ∈ x.cells := List.getElem_mem hj'
  exact oneCell_of (key.1.2 j _ _ (List.getElem?_eq_getElem hj') (List.getElem?_eq_getElem hj)) (key.2 _ hm) (by
    rw [List.all_eq_true] at hc
    exact hc _ hm)
theorem setn_get : ∀ (l : List AVal) (t u : Nat) (x : AVal), (setn l t x)[u]? = if t = u ∧ t < l.length then some x else l[u]?
  | [], t, u, x => by simp [setn]
  | y :: l, 0, 0, x => by simp [setn]
  | y :: l, 0, u + 1, x => by simp [setn]
  | y :: l, t + 1, 0, x => by simp [setn]
  | y :: l, t + 1, u + 1, x => by simp [setn, setn_get l t u x]
theorem splice_length : ∀ (us cs : List AVal) (j : Nat), (splice cs j us).length = cs.length
  | [], _, _ => rfl
  | u :: us, cs, j => by rw [splice, splice_length us, setn_length]
theorem splice_get : ∀ (us cs : List AVal) (j i : Nat), j + us.length ≤ cs.length → (splice cs j us)[i]? = if j ≤ i ∧ i < j + us.length then us[i - j]? else cs[i]?
  | [], cs, j, i, h => by
    rw [splice, if_neg (by rw [List.length_nil]; omega)]
  | u :: us, cs, j, i, h => by
    simp only [List.length_cons] at h
    rw [splice, splice_get us (setn cs j u) (j + 1) i (by rw [setn_length]; omega), setn_get]
    by_cases h1 : j + 1 ≤ i ∧ i < j + 1 + us.length
    · rw [if_pos h1, if_pos (by simp; omega), show i - j = (i - (j + 1)) + 1 by omega, List.getElem?_cons_succ]
    · rw [if_neg h1]
      by_cases h2 : j = i
      · subst h2
        rw [if_pos ⟨rfl, by omega⟩, if_pos (by simp), Nat.sub_self]; rfl
      · rw [if_neg (by omega), if_neg (by simp; omega)]
theorem splice_mem {us cs : List AVal} {j : Nat} (h : j + us.length ≤ cs.length) {c : AVal} (hc : c ∈ splice cs j us) : c ∈ us ∨ c ∈ cs := by
  obtain ⟨i, hi, rfl⟩ := List.mem_iff_getElem.1 hc
  have := splice_get us cs j i h
  rw [List.getElem?_eq_getElem hi] at this
  split at this
  · exact .inl (List.mem_of_getElem? this.symm)
  · exact .inr (List.mem_of_getElem? this.symm)
/-- Cells of an object were written (or laid): the node as it is then. -/
theorem NRel.objSet {nm : Nm} {cs us : List AVal} {vs : List Value} {b j : Nat} (hb : φ nm = .at_ (some b) 0) (hw' : WrB none w' b) (hl : cs.length ≤ bsize w' b) (ho : ∀ c ∈ cs, c.cellOk) (hou : ∀ c ∈ us, c.cellOk)
    (hj : j + us.length ≤ cs.length) (hu : VRelL w' φ F B us vs) (hin : ∀ (i : Nat) v, vs[i]? = some v → w'.cell? ⟨b, j + i, none⟩ = some v)
    (hout : ∀ (i : Nat) c, cs[i]? = some c → ¬ (j ≤ i ∧ i < j + us.length) → ∃ v, w'.cell? ⟨b, i, none⟩ = some v ∧ VRel w' φ F B c v) : NRel w' φ F B nm (.obj (splice cs j us)) := by
  refine ⟨b, hb, hw', by rw [splice_length]; exact hl, fun c hc => (splice_mem hj hc).elim (hou c) (ho c), fun i c hc => ?_⟩
  rw [splice_get us cs j i hj] at hc
  split at hc
  · next hi =>
    have hlt := (List.getElem?_eq_some_iff.1 hc).1
    have hlt' : i - j < vs.length := by rw [← hu.1]; exact hlt
    have hv : vs[i - j]? = some vs[i - j] := List.getElem?_eq_getElem hlt'
    refine ⟨_, ?_, hu.2 _ _ _ hc hv⟩
    have := hin _ _ hv
    rwa [show j + (i - j) = i by omega] at this
  · next hi => exact hout i c hc hi
theorem run_storeVar_cells {t b o : Nat} {v : Value} (hs : (sizeOf t).run P w = .ok v.cells.size w) (hc : ∀ j, j < v.cells.toList.length → (w.cell? ⟨b, o + j, none⟩).isSome = true) (hf : ∀ j, j < v.cells.toList.length → w.frozen? ⟨b, o + j, none⟩ = false) (h1 : ∀ u ∈ v.cells.toList, u.oneCell' = true) :
    (storeVar t ⟨b, o, none⟩ v).run P w = .ok () (w.setCells b o v.cells.toList) := by
  unfold storeVar
  simp only [Sem.run_bind, hs, Result.andThen_ok, ne_eq, not_true_eq_false, if_false]
  exact run_storeCells_cells (P := P) b o v.cells.toList 0 w (by simpa using hc) (by simpa using hf) h1
end
end Go.Proofs.YtlaojkheenobaaaDoorS
