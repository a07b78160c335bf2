/- Literals: of structs and arrays. -/
import Derived.Test.YtlaojkheenobaaaDoorSW
import Derived.Laws.Tables
import Derived.Lib.LaidTab
namespace Go.Proofs.YtlaojkheenobaaaDoorS
open Go Go.RowKit
set_option linter.unusedVariables false
set_option linter.unusedSimpArgs false
def spliceV : List Value → Nat → List Value → List Value
  | vs, _, [] => vs
  | vs, j, u :: l => spliceV (vs.set j u) (j + 1) l
theorem spliceV_length : ∀ (us vs : List Value) (j : Nat), (spliceV vs j us).length = vs.length
  | [], _, _ => rfl
  | u :: us, vs, j => by rw [spliceV, spliceV_length us, List.length_set]
theorem spliceV_get : ∀ (us vs : List Value) (j i : Nat), j + us.length ≤ vs.length → (spliceV vs j us)[i]? = if j ≤ i ∧ i < j + us.length then us[i - j]? else vs[i]?
  | [], vs, j, i, h => by
    rw [spliceV, if_neg (by rw [List.length_nil]; omega)]
  | u :: us, vs, j, i, h => by
    simp only [List.length_cons] at h
    rw [spliceV, spliceV_get us (vs.set j u) (j + 1) i (by rw [List.length_set]; omega), list_set_get vs j u (by omega)]
    by_cases h1 : j + 1 ≤ i ∧ i < j + 1 + us.length
    · rw [if_pos h1, if_pos (by simp; omega), show i - j = (i - (j + 1)) + 1 by omega, List.getElem?_cons_succ]
    · rw [if_neg h1]
      by_cases h2 : j = i
      · subst h2
        rw [if_pos rfl, if_pos (by simp), Nat.sub_self]; rfl
      · rw [if_neg (by omega), if_neg (by simp; omega)]
theorem fold_splice (off : Nat) : ∀ (l : List Value) (k : Nat) (cells : Array Value), ((l.zipIdx k).foldl (fun cs (c, j) => cs.setIfInBounds (off + j) c) cells).toList = spliceV cells.toList (off + k) l
  | [], _, _ => rfl
  | u :: l, k, cells => by
    rw [List.zipIdx_cons, List.foldl_cons, fold_splice off l (k + 1), spliceV]
    simp [Nat.add_assoc]
section
variable {X : Type} {P : Program} {T : Tab} {fr : Fr} {φ φ' : Nm → Loc} {F F' B : Nat → Prop} {s : St} {a : Act} {w w' : World} {out : X}
theorem VRelL.splice {cs us : List AVal} {vs ws : List Value} (h : VRelL w φ F B cs vs) (hu : VRelL w φ F B us ws) (j : Nat) (hj : j + us.length ≤ cs.length) : VRelL w φ F B (splice cs j us) (spliceV vs j ws) := by
  refine ⟨by rw [splice_length, spliceV_length]; exact h.1, fun i c v hc hv => ?_⟩
  rw [splice_get us cs j i hj] at hc
  rw [spliceV_get ws vs j i (by rw [← h.1, ← hu.1]; exact hj), ← hu.1] at hv
  split at hc
  · next hi => rw [if_pos hi] at hv; exact hu.2 _ _ _ hc hv
  · next hi => rw [if_neg hi] at hv; exact h.2 _ _ _ hc hv
/-- Parts, pair by pair. -/
def PRel (w : World) (φ : Nm → Loc) (F B : Nat → Prop) : List (Nat × AVal) → List (Nat × Value) → Prop
  | [], [] => True
  | (i, x) :: l, (j, v) :: m => i = j ∧ VRel w φ F B x v ∧ PRel w φ F B l m
  | _, _ => False
theorem PRel.eval (hFr : FrOk fr) (hI : Inv fr φ F s a w) : ∀ ps : List (Nat × Operand), PRel w φ F fr.B (ps.map fun p => (p.1, s.eval p.2)) (ps.map fun p => (p.1, a.eval p.2))
  | [] => trivial
  | p :: ps => ⟨rfl, hI.eval hFr p.2, PRel.eval hFr hI ps⟩
theorem fill_step {place : Nat → Option (Nat × Nat)} {vs : List Value} {i off n : Nat} {v : Value} {rest : List (Nat × Value)} (hp : place i = some (off, n)) (hn : v.cells.size = n) (hle : off + v.cells.size ≤ vs.length) :
    Instr.fill place vs.toArray ((i, v) :: rest) = Instr.fill place (spliceV vs off v.cells.toList).toArray rest := by
  rw [Instr.fill, hp]
  have : (v.cells.size ≠ n || off + v.cells.size > vs.toArray.size) = false := by
    simp; omega
  simp only [this, Bool.false_eq_true, if_false]
  congr 1
  apply Array.ext'
  rw [← Array.foldl_toList, Array.toList_zipIdx]
  exact fold_splice off v.cells.toList 0 vs.toArray
theorem fillF_sound (hT : TabOk T P) {fs places : List (Nat × Nat)} (hpl : ∀ (f : Nat) p, fs[f]? = some p → Nat.blt 0 (sizeT T p.2) = true → places[f]? = some (p.1, sizeT T p.2)) : ∀ (ps : List (Nat × AVal)) (qs : List (Nat × Value)) (cs : List AVal) (vs : List Value) (K : List AVal → Option X),
    fillF T fs ps cs K = some out → PRel w φ F B ps qs → VRelL w φ F B cs vs → (∀ c ∈ cs, c.cellOk) → ∃ cs' vs', K cs' = some out ∧ VRelL w φ F B cs' vs' ∧ (∀ c ∈ cs', c.cellOk) ∧ Instr.fill (places.toArray[·]?) vs.toArray qs = some vs'.toArray
  | [], [], cs, vs, K, h, _, hc, ho => ⟨cs, vs, h, hc, ho, rfl⟩
  | [], _ :: _, _, _, _, _, hp, _, _ => hp.elim
  | (f, x) :: ps, [], _, _, _, _, hp, _, _ => hp.elim
  | (f, x) :: ps, (g, v) :: qs, cs, vs, K, h, hp, hc, ho => by
    obtain ⟨rfl, hx, hp⟩ := hp
    unfold fillF at h
    obtain ⟨⟨off, ft⟩, hf, h⟩ := bind_some h
    simp only at h
    obtain ⟨x, h, hx⟩ := expand_sound h hx
    obtain ⟨h1, h2⟩ := grd_some h
    simp only [Bool.and_eq_true] at h1
    obtain ⟨⟨⟨g1, g2⟩, g3⟩, g4⟩ := h1
    have g1 := Nat.eq_of_beq_eq_true g1
    have g4 := Nat.le_of_ble_eq_true g4
    obtain ⟨hu, huo, _⟩ := cells_rel (hx.resize (T := T) ft) g3
    have hlv : (resize T ft x).cells.length = v.cells.size := by rw [hu.1, Array.length_toList]
    obtain ⟨cs', vs', k1, k2, k3, k4⟩ := fillF_sound hT hpl ps qs _ (spliceV vs off v.cells.toList) K h2 hp (hc.splice hu off g4) (fun c hm => (splice_mem g4 hm).elim (huo c) (ho c))
    refine ⟨cs', vs', k1, k2, k3, ?_⟩
    rw [fill_step (off := off) (n := sizeT T ft) (by
      have := hpl f (off, ft) hf g2
      simpa using this) (by omega) (by rw [← hc.1]; omega)]
    exact k4
theorem fillA_sound {e : Nat} (he : Nat.blt 0 (sizeT T e) = true) : ∀ (ps : List (Nat × AVal)) (qs : List (Nat × Value)) (cs : List AVal) (vs : List Value) (K : List AVal → Option X),
    fillA T e ps cs K = some out → PRel w φ F B ps qs → VRelL w φ F B cs vs → (∀ c ∈ cs, c.cellOk) → ∃ cs' vs', K cs' = some out ∧ VRelL w φ F B cs' vs' ∧ (∀ c ∈ cs', c.cellOk) ∧ Instr.fill (fun i => some (i * sizeT T e, sizeT T e)) vs.toArray qs = some vs'.toArray
  | [], [], cs, vs, K, h, _, hc, ho => ⟨cs, vs, h, hc, ho, rfl⟩
  | [], _ :: _, _, _, _, _, hp, _, _ => hp.elim
  | (f, x) :: ps, [], _, _, _, _, hp, _, _ => hp.elim
  | (f, x) :: ps, (g, v) :: qs, cs, vs, K, h, hp, hc, ho => by
    obtain ⟨rfl, hx, hp⟩ := hp
    unfold fillA at h
    simp only at h
    obtain ⟨x, h, hx⟩ := expand_sound h hx
    obtain ⟨h1, h2⟩ := grd_some h
    simp only [Bool.and_eq_true] at h1
    obtain ⟨⟨⟨g1, g2⟩, g3⟩, g4⟩ := h1
    have g1 := Nat.eq_of_beq_eq_true g1
    have g4 := Nat.le_of_ble_eq_true g4
    obtain ⟨hu, huo, _⟩ := cells_rel (hx.resize (T := T) e) g3
    have hlv : (resize T e x).cells.length = v.cells.size := by rw [hu.1, Array.length_toList]
    obtain ⟨cs', vs', k1, k2, k3, k4⟩ := fillA_sound he ps qs _ (spliceV vs (f * sizeT T e) v.cells.toList) K h2 hp (hc.splice hu _ g4) (fun c hm => (splice_mem g4 hm).elim (huo c) (ho c))
    refine ⟨cs', vs', k1, k2, k3, ?_⟩
    rw [fill_step (off := f * sizeT T e) (n := sizeT T e) rfl (by omega) (by rw [← hc.1]; omega)]
    exact k4
theorem take_drop_get {α : Type} {cs ds : List α} {off n : Nat} (hn : ds.length = n) (hle : off + n ≤ cs.length) (i : Nat) : (cs.take off ++ ds ++ cs.drop (off + n))[i]? = if off ≤ i ∧ i < off + n then ds[i - off]? else cs[i]? := by
  have htl : (cs.take off).length = off := by rw [List.length_take]; omega
  rw [List.append_assoc]
  rcases Nat.lt_or_ge i off with h | h
  · rw [List.getElem?_append_left (by omega), List.getElem?_take, if_pos h, if_neg (by omega)]
  · rw [List.getElem?_append_right (by omega), htl]
    rcases Nat.lt_or_ge (i - off) ds.length with h2 | h2
    · rw [List.getElem?_append_left h2, if_pos (by omega)]
    · rw [List.getElem?_append_right h2, List.getElem?_drop, if_neg (by omega)]
      congr 1; omega
theorem CRel.put {cs ds : List CV} {vs us : List Value} {off n : Nat} (h : CRel w F (.agg cs) (.agg vs.toArray)) (hn : ds.length = n) (hle : off + n ≤ cs.length) (hul : us.length = n) (hda : ∀ c ∈ ds, c.isAgg = false) (hd : ∀ (j : Nat) c v, ds[j]? = some c → us[j]? = some v → CRel w F c v) :
    CRel w F (.agg (cs.take off ++ ds ++ cs.drop (off + n))) (.agg (spliceV vs off us).toArray) := by
  have hl := h.len
  refine .agg (by rw [spliceV_length, List.length_append, List.length_append, List.length_take, List.length_drop]; omega) (fun c hc => ?_) (fun j c v hc hv => ?_)
  · obtain ⟨j, hj⟩ := List.mem_iff_getElem?.1 hc
    rw [take_drop_get hn hle] at hj
    split at hj
    · exact hda c (List.mem_of_getElem? hj)
    · obtain ⟨_, _, _, ha⟩ := h.cell_ok hj; exact ha
  · rw [take_drop_get hn hle] at hc
    rw [spliceV_get us vs off j (by omega), hul] at hv
    split at hc
    · next hi => rw [if_pos hi] at hv; exact hd _ _ _ hc hv
    · next hi =>
      rw [if_neg hi] at hv
      obtain ⟨v', hv', hr, _⟩ := h.cell_ok hc
      rw [hv] at hv'
      cases hv'
      exact hr
theorem fillC_sound (hT : TabOk T P) {fs places : List (Nat × Nat)} {n : Nat} (hpl : ∀ (f : Nat) p, fs[f]? = some p → Nat.blt 0 (sizeT T p.2) = true → places[f]? = some (p.1, sizeT T p.2)) : ∀ (ps : List (Nat × AVal)) (qs : List (Nat × Value)) (cs : List CV) (vs : List Value) (K : List CV → Option X),
    fillC T fs n ps cs K = some out → PRel w φ F B ps qs → CRel w F (.agg cs) (.agg vs.toArray) → cs.length = n → ∃ (cs' : List CV) (vs' : List Value), K cs' = some out ∧ CRel w F (.agg cs') (.agg vs'.toArray) ∧ Instr.fill (places.toArray[·]?) vs.toArray qs = some vs'.toArray
  | [], [], cs, vs, K, h, _, hc, _ => ⟨cs, vs, h, hc, rfl⟩
  | [], _ :: _, _, _, _, _, hp, _, _ => hp.elim
  | (f, x) :: ps, [], _, _, _, _, hp, _, _ => hp.elim
  | (f, x) :: ps, (g, v) :: qs, cs, vs, K, h, hp, hc, hcn => by
    obtain ⟨rfl, hx, hp⟩ := hp
    unfold fillC at h
    obtain ⟨⟨off, ft⟩, hf, h⟩ := bind_some h
    simp only at h
    have hl := hc.len
    cases x with
    | v c =>
      simp only at h
      cases hx with | v hr =>
      cases ha : isAggT T ft with
      | true =>
        rw [ha] at h
        obtain ⟨h1, h⟩ := grd_some h
        rw [Bool.and_eq_true, Bool.and_eq_true] at h1
        obtain ⟨⟨g2, g3⟩, g1⟩ := h1
        have g3 := Nat.le_of_ble_eq_true g3
        obtain ⟨ds, rfl, hdn⟩ := CV.isA_eq g1
        obtain ⟨us, rfl⟩ := hr.agg_val
        have hul := hr.len
        have hcl : (cs.take off ++ ds ++ cs.drop (off + sizeT T ft)).length = n := by rw [List.length_append, List.length_append, List.length_take, List.length_drop]; omega
        obtain ⟨cs', vs', k1, k2, k3⟩ := fillC_sound hT hpl ps qs _ (spliceV vs off us) K h hp (hc.put hdn (by omega) (by omega) (fun c hm => by
          obtain ⟨j, hj⟩ := List.mem_iff_getElem?.1 hm
          obtain ⟨_, _, _, hna⟩ := hr.cell_ok hj; exact hna) (fun j c v hcj hv => by
          obtain ⟨v', hv', hr', _⟩ := hr.cell_ok hcj
          rw [hv] at hv'; cases hv'; exact hr')) hcl
        refine ⟨cs', vs', k1, k2, ?_⟩
        rw [fill_step (off := off) (n := sizeT T ft) (by
          have := hpl f (off, ft) hf g2
          simpa using this) (by simp [Value.cells]; omega) (by simp [Value.cells]; omega)]
        simpa [Value.cells] using k3
      | false =>
        rw [ha] at h
        obtain ⟨h1, h⟩ := grd_some h
        simp only [Bool.and_eq_true, Bool.not_eq_true'] at h1
        obtain ⟨⟨g2, g3⟩, g1⟩ := h1
        have g3 := Nat.le_of_ble_eq_true g3
        have g2 := Nat.eq_of_beq_eq_true g2
        obtain ⟨hv1, hv2⟩ := hr.notAgg g1
        have hcl : (cs.take off ++ [c] ++ cs.drop (off + 1)).length = n := by rw [List.length_append, List.length_append, List.length_take, List.length_drop, List.length_singleton]; omega
        obtain ⟨cs', vs', k1, k2, k3⟩ := fillC_sound hT hpl ps qs _ (spliceV vs off [v]) K h hp (hc.put (n := 1) rfl (by omega) rfl (fun c' hm => by rw [List.mem_singleton] at hm; rw [hm]; exact g1) (fun j c' v' hcj hv => by
          cases j with
          | zero => simp at hcj hv; subst hcj hv; exact hr
          | succ j => simp at hcj)) hcl
        refine ⟨cs', vs', k1, k2, ?_⟩
        rw [fill_step (off := off) (n := sizeT T ft) (by
          have := hpl f (off, ft) hf (by rw [g2]; rfl)
          simpa using this) (by rw [hv1, g2]; rfl) (by rw [hv1]; simp; omega)]
        rw [hv1]
        exact k3
    | _ => cases h
theorem size_info (hT : TabOk T P) {t : Nat} (h : Nat.blt 0 (sizeT T t) = true) : ∃ inf, P.info? t = some inf ∧ inf.size = sizeT T t := by
  have h2 := Nat.le_of_ble_eq_true h
  cases hi : T t with
  | none => simp [sizeT, hi] at h2
  | some i =>
    obtain ⟨inf, z, h1, h3, _⟩ := hT.info t i hi
    exact ⟨inf, h1, by rw [h3]; simp [sizeT, hi]⟩
theorem evBuild0_sound (hT : TabOk T P) {t : Nat} {ps : List (Nat × AVal)} {qs : List (Nat × Value)} {K : AVal → Option X} (h : evBuild0 T t ps K = some out) (hp : PRel w φ F B ps qs) :
    ∃ z v, K z = some out ∧ VRel w φ F B z v ∧ ∀ parts : Array (Nat × Value), parts.toList = qs → (Instr.build t parts).run P w = .ok v w := by
  unfold evBuild0 at h
  split at h
  · next fs sz by_ z eq =>
    obtain ⟨h1, h2⟩ := grd_some h
    obtain ⟨inf, zv, i1, i2, _, i3, i4, _⟩ := hT.info t _ eq
    obtain ⟨fields, places, hu, hpl⟩ := hT.places t _ _ _ _ eq
    obtain ⟨hz, hzo, _⟩ := cells_rel (i4 w φ F B) h1
    have hpl' : ∀ (f : Nat) p, fs[f]? = some p → Nat.blt 0 (sizeT T p.2) = true → places[f]? = some (p.1, sizeT T p.2) := fun f p hf hs => by
      obtain ⟨fields', fd, hu', hfd, e1, e2⟩ := struct_spec hT eq hf
      rw [hu] at hu'
      cases hu'
      obtain ⟨b, hb, hb'⟩ := Go.Lib.mapM_at hpl f fd (by rw [Array.getElem?_toList]; exact hfd)
      rw [e2] at hb'
      obtain ⟨inf', k1, k2⟩ := size_info hT hs
      rw [k1] at hb'
      cases hb'
      rw [hb, e1]
      simp only [k2]
    obtain ⟨cs', vs', k1, k2, k3, k4⟩ := fillF_sound hT hpl' ps qs _ _ _ h2 hp hz hzo
    refine ⟨_, _, k1, (VRel.agg k2.1 k3 k2.2).mkAgg, fun parts hparts => run_build w t parts vs'.toArray ?_⟩
    unfold Program.built
    rw [i1, hu]
    simp only [i3, hpl]
    rw [hparts]
    simpa using k4
  · next n e sz by_ z eq =>
    obtain ⟨h1, h2⟩ := grd_some h
    rw [Bool.and_eq_true] at h1
    obtain ⟨inf, zv, i1, i2, _, i3, i4, _⟩ := hT.info t _ eq
    have hu := hT.td t _ eq
    simp only [TDOk] at hu
    obtain ⟨hz, hzo, _⟩ := cells_rel (i4 w φ F B) h1.1
    obtain ⟨inf', j1, j2⟩ := size_info hT h1.2
    obtain ⟨cs', vs', k1, k2, k3, k4⟩ := fillA_sound h1.2 ps qs _ _ _ h2 hp hz hzo
    refine ⟨_, _, k1, (VRel.agg k2.1 k3 k2.2).mkAgg, fun parts hparts => run_build w t parts vs'.toArray ?_⟩
    unfold Program.built
    rw [i1, hu]
    simp only [i3, j1, j2]
    rw [hparts]
    simpa using k4
  · cases h
theorem evBuildC_sound (hT : TabOk T P) {t : Nat} {ps : List (Nat × AVal)} {qs : List (Nat × Value)} {K : AVal → Option X} (h : evBuildC T t ps K = some out) (hp : PRel w φ F B ps qs) :
    ∃ z v, K z = some out ∧ VRel w φ F B z v ∧ ∀ parts : Array (Nat × Value), parts.toList = qs → (Instr.build t parts).run P w = .ok v w := by
  unfold evBuildC at h
  split at h
  · next fs sz by_ zs eq =>
    obtain ⟨inf, zv, i1, i2, _, i3, i4, _⟩ := hT.info t _ eq
    obtain ⟨fields, places, hu, hpl⟩ := hT.places t _ _ _ _ eq
    have hzr : CRel w F (.agg zs) zv := by cases i4 w φ F B with | v h => exact h
    obtain ⟨vs, rfl⟩ := hzr.agg_val
    have hpl' : ∀ (f : Nat) p, fs[f]? = some p → Nat.blt 0 (sizeT T p.2) = true → places[f]? = some (p.1, sizeT T p.2) := fun f p hf hs => by
      obtain ⟨fields', fd, hu', hfd, e1, e2⟩ := struct_spec hT eq hf
      rw [hu] at hu'
      cases hu'
      obtain ⟨b, hb, hb'⟩ := Go.Lib.mapM_at hpl f fd (by rw [Array.getElem?_toList]; exact hfd)
      rw [e2] at hb'
      obtain ⟨inf', k1, k2⟩ := size_info hT hs
      rw [k1] at hb'
      cases hb'
      rw [hb, e1]
      simp only [k2]
    obtain ⟨cs', vs', k1, k2, k4⟩ := fillC_sound hT hpl' ps qs _ vs _ h hp hzr rfl
    refine ⟨_, _, k1, .v k2, fun parts hparts => run_build w t parts vs'.toArray ?_⟩
    unfold Program.built
    rw [i1, hu]
    simp only [i3, hpl]
    rw [hparts]
    simpa [Value.cells] using k4
  · cases h
theorem evBuild_sound (hT : TabOk T P) {t : Nat} {ps : List (Nat × AVal)} {qs : List (Nat × Value)} {K : AVal → Option X} (h : evBuild T t ps K = some out) (hp : PRel w φ F B ps qs) :
    ∃ z v, K z = some out ∧ VRel w φ F B z v ∧ ∀ parts : Array (Nat × Value), parts.toList = qs → (Instr.build t parts).run P w = .ok v w := by
  unfold evBuild at h
  cases e : flatS T t with
  | true => rw [e] at h; exact evBuildC_sound hT h hp
  | false => rw [e] at h; exact evBuild0_sound hT h hp
end
end Go.Proofs.YtlaojkheenobaaaDoorS
