/- What came in, within the form's own reach: no slice that is met takes more bytes than that. -/
import Derived.Test.YtkkknhfbcflkfaaTP
namespace Go.Proofs.YtkkknhfbcflkfaaS
open Go Go.RowKit
set_option linter.unusedVariables false
set_option linter.unusedSimpArgs false
/-- What was read is within the reach. -/
def Wt (P : Program) (t : TypeId) {H : Type} (d : DataW H) : Prop := ∀ n ∈ d.weights P t, n ≤ reachBytes
def RdZ (P : Program) (n : Nat) (t : TypeId) {α : Type} (en : α → CV) (wf : α → Prop) : Prop :=
  ∀ (H : Type) (enc : TypeId × Value → H) (w : World) (fuel : Nat) (cs : List Value) (x : DataW H × List MemPlace), fuel ≤ n → DataW.trod enc P w 0 (fun _ => true) true fuel t cs = some x → Wt P t x.1 → ∃ a : α, CCells w (Here w) (en a) cs ∧ wf a
section
variable {P : Program} {n : Nat} {t e : TypeId} {α : Type}
theorem RdC.z {en : α → CV} {wf : α → Prop} (h : RdC P n t en wf) : RdZ P n t en wf := fun H enc w fuel cs x hf hx _ => h H enc w fuel cs x hf hx
theorem RdZ.iso {β : Type} {en : α → CV} {wf : α → Prop} (h : RdZ P n t en wf) {en' : β → CV} {wf' : β → Prop} (q : ∀ a, wf a → ∃ b, en' b = en a ∧ wf' b) : RdZ P n t en' wf' := by
  intro H enc w fuel cs x hf hx hz
  obtain ⟨a, h1, h2⟩ := h H enc w fuel cs x hf hx hz
  obtain ⟨b, hb, hw⟩ := q a h2
  exact ⟨b, by rw [hb]; exact h1, hw⟩
theorem RdZ.mono {m : Nat} {en : α → CV} {wf : α → Prop} (h : RdZ P m t en wf) (hnm : n ≤ m) : RdZ P n t en wf := fun H enc w fuel cs x hf hx => h H enc w fuel cs x (Nat.le_trans hf hnm) hx
theorem wtAll_mem {H : Type} : ∀ {l : List (DataW H)} {d : DataW H} {m : Nat}, d ∈ l → m ∈ d.weights P e → m ∈ DataW.weightsAll P e l
  | x :: l, d, m, hd, hm => by
    unfold DataW.weightsAll
    rw [List.mem_append]
    rcases List.mem_cons.1 hd with rfl | hd
    · exact .inl hm
    · exact .inr (wtAll_mem hd hm)
theorem wtEach_get {H : Type} : ∀ {ts : List TypeId} {l : List (DataW H)} {i : Nat} {t : TypeId} {d : DataW H} {m : Nat}, ts[i]? = some t → l[i]? = some d → m ∈ d.weights P t → m ∈ DataW.weightsEach P ts l
  | t' :: ts, d' :: l, 0, t, d, m, ht, hd, hm => by
    simp at ht hd
    subst ht hd
    unfold DataW.weightsEach
    exact List.mem_append.2 (.inl hm)
  | t' :: ts, d' :: l, i + 1, t, d, m, ht, hd, hm => by
    simp at ht hd
    unfold DataW.weightsEach
    exact List.mem_append.2 (.inr (wtEach_get ht hd hm))
  | [], _, i, t, d, m, ht, hd, hm => by simp at ht
  | _ :: _, [], i, t, d, m, ht, hd, hm => by simp at hd
theorem RdZ.slice {en : α → CV} {wf : α → Prop} (sh : Option Nat) (ht : P.underlying t = some (.slice e)) (hb : decide (0 < P.bytesOf e) = true) (hsz : P.cellsOf e = szOf sh) (h0 : 0 < szOf sh) (hform : ∀ a, FormOf sh (en a)) (h : RdZ P n e en wf) :
    RdZ P (n + 1) t (fun xs : List α => .slc sh (xs.map en)) (fun xs => xs.length ≤ reachBytes ∧ ∀ x ∈ xs, wf x) := by
  intro H enc w fuel cs x hf hx hz
  rcases DataW.trod_slice ht hx with ⟨rfl, _⟩ | ⟨a, len, cap, elems, rest, m, rfl, rfl, he, _, hl, hm, hlen, hel, _, _⟩
  · exact ⟨[], .inl ⟨rfl, _, rfl, .slc0 _ _ _⟩, Nat.zero_le _, fun x hx => by simp at hx⟩
  · have hz2 : ∀ k ∈ DataW.weights P t (.slice (elems.map (·.1)) (rest.map (·.1)) : DataW H), k ≤ reachBytes := by rw [he] at hz; exact hz
    unfold DataW.weights at hz2
    rw [ht] at hz2
    have hz1 := hz2 _ List.mem_cons_self
    have hlr : len ≤ reachBytes := by
      have hp := of_decide_eq_true hb
      have h1 : (elems.map (·.1)).length + (rest.map (·.1)).length ≤ ((elems.map (·.1)).length + (rest.map (·.1)).length) * P.bytesOf e := Nat.le_mul_of_pos_right _ hp
      rw [List.length_map] at h1 hz1
      omega
    have hzi : ∀ i (hi : i < elems.length), Wt P e elems[i].1 := fun i hi k hk => hz2 k (List.mem_cons_of_mem _ (List.mem_append.2 (.inl (wtAll_mem (List.mem_map.2 ⟨elems[i], List.getElem_mem hi, rfl⟩) hk))))
    obtain ⟨xs, hxl, hxs⟩ := listOf (p := fun i a0 => wf a0 ∧ ∃ c, c.length = szOf sh ∧ CCells w (Here w) (en a0) c ∧ ∀ j u, c[j]? = some u → w.cell? (a.add (i * szOf sh + j)) = some u) len (fun i hi => by
      have key := hel i hi
      rw [List.getElem?_eq_getElem (by omega)] at key
      obtain ⟨c, h1, h2⟩ := Option.bind_eq_some_iff.1 key
      obtain ⟨a0, hk, hw⟩ := h H enc w m c _ (by omega) h2 (hzi i (by omega))
      obtain ⟨_, hcl, hcell⟩ := World.cells?_some h1
      rw [hsz] at hcl hcell
      refine ⟨a0, hw, c, hcl, hk, fun j u hu => ?_⟩
      have hj : j < szOf sh := by rw [← hcl]; exact (List.getElem?_eq_some_iff.1 hu).1
      rw [← addr_add, hcell j hj, hu])
    have hrow : RowRel w (Here w) (Here w) sh (xs.map en) (.slice (some a) len cap) := by
      refine ⟨some a, cap, by simp [hxl], by simp [hxl]; omega, fun hpos => ?_⟩
      have hpos : 0 < xs.length := by simpa using hpos
      obtain ⟨_, c0, hc0, _, hcell0⟩ := hxs 0 _ (List.getElem?_eq_getElem hpos)
      have hc00 : c0[0]? = some c0[0] := List.getElem?_eq_getElem (by omega)
      have g0 := hcell0 0 _ hc00
      have hspot : a.spot = none := by
        have := World.cell?_spot g0
        simpa [Addr.add] using this
      obtain ⟨b, o, sp⟩ := a
      simp only at hspot
      subst hspot
      have hadd : ∀ k, Addr.add ⟨b, o, none⟩ k = ⟨b, o + k, none⟩ := fun k => by
        unfold Addr.add; split
        · next h => subst h; rfl
        · rfl
      refine ⟨b, o, rfl, cell_here (by rw [hadd] at g0; exact g0), fun i y hy => ?_⟩
      rw [List.getElem?_map, Option.map_eq_some_iff] at hy
      obtain ⟨a0, ha0, rfl⟩ := hy
      obtain ⟨_, c, hcl, hcc, hcell⟩ := hxs i a0 ha0
      have hfm := hform a0
      cases sh with
      | none =>
        rcases hcc with ⟨hag, v, rfl, hr⟩ | ⟨hag, _⟩
        · have := hcell 0 v rfl
          rw [hadd] at this
          exact ⟨v, this, hr, hag⟩
        · simp only [FormOf] at hfm; rw [hfm] at hag; cases hag
      | some m' =>
        simp only [FormOf] at hfm
        rcases hcc with ⟨hag, _⟩ | ⟨hag, hr⟩
        · rw [hfm.1] at hag; cases hag
        · refine ⟨c, hcl, fun j u hu => ?_, hr⟩
          have := hcell j u hu
          rw [hadd] at this
          rw [Nat.add_assoc]; exact this
    exact ⟨xs, .inl ⟨rfl, _, rfl, hrow.toC⟩, by omega, fun y hy => by
      obtain ⟨j, hj, rfl⟩ := List.mem_iff_getElem.1 hy
      exact (hxs j _ (List.getElem?_eq_getElem hj)).1⟩
def RdFz (P : Program) (n : Nat) (fs : List (TypeId × Nat)) (off : Nat) {α : Type} (en : α → List CV) (wf : α → Prop) : Prop :=
  ∀ (H : Type) (enc : TypeId × Value → H) (w : World) (fuel : Nat) (cs : List Value), fuel ≤ n → cs.length = off + fs.length →
    (∀ f ∈ fs, ∃ y, DataW.trod enc P w 0 (fun _ => true) true fuel f.1 ((cs.drop f.2).take (P.cellsOf f.1)) = some y ∧ Wt P f.1 y.1) → ∃ a : α, Leaves w (en a) (cs.drop off) ∧ wf a
theorem RdFz.nil {off : Nat} : RdFz P n [] off (fun _ : Unit => []) (fun _ => True) := by
  intro H enc w fuel cs hf hl hall
  have : cs.drop off = [] := List.drop_eq_nil_of_le (by simp at hl; omega)
  rw [this]
  exact ⟨(), ⟨rfl, fun c h => by simp at h, fun j c v h => by simp at h⟩, trivial⟩
theorem RdFz.cons {β : Type} {off : Nat} {ea : α → CV} {eb : β → List CV} {wa : α → Prop} {wb : β → Prop} {fs : List (TypeId × Nat)} (h : RdZ P n t ea wa) (hs : P.cellsOf t = 1) (hag : ∀ a, (ea a).isAgg = false) (k : RdFz P n fs (off + 1) eb wb) :
    RdFz P n ((t, off) :: fs) off (fun x : α × β => ea x.1 :: eb x.2) (fun x => wa x.1 ∧ wb x.2) := by
  intro H enc w fuel cs hf hl hall
  obtain ⟨y, hy, hyz⟩ := hall (t, off) (by simp)
  rw [hs] at hy
  obtain ⟨a, ha, hwa⟩ := h H enc w fuel _ y hf hy hyz
  obtain ⟨b, hb, hwb⟩ := k H enc w fuel cs hf (by rw [hl, List.length_cons]; omega) (fun f hf => hall f (by simp [hf]))
  rcases ha with ⟨_, v, hv, hr⟩ | ⟨hag', _⟩
  · have hlt : off < cs.length := by rw [hl, List.length_cons]; omega
    have hd : cs.drop off = v :: cs.drop (off + 1) := by
      have hv' : (cs.drop off).take 1 = [v] := hv
      rw [List.drop_eq_getElem_cons hlt] at hv' ⊢
      rw [List.take_succ_cons, List.cons.injEq] at hv'
      rw [hv'.1]
    refine ⟨(a, b), ?_, hwa, hwb⟩
    rw [hd]
    refine ⟨by simp [hb.1], fun c hc => ?_, fun j c u hc hu => ?_⟩
    · rcases List.mem_cons.1 hc with rfl | hc
      · exact hag a
      · exact hb.2.1 c hc
    · cases j with
      | zero => simp at hc hu; subst hc hu; exact hr
      | succ j => exact hb.2.2 j c u (by simpa using hc) (by simpa using hu)
  · rw [hag a] at hag'; cases hag'
theorem RdZ.struct {fs : List (TypeId × Nat)} {en : α → List CV} {wf : α → Prop} (ht : fieldsOf P t = some fs) (hs : P.cellsOf t = fs.length) (h : RdFz P n fs 0 en wf) : RdZ P (n + 1) t (fun a => .agg (en a)) wf := by
  intro H enc w fuel cs x hf hx hz
  unfold fieldsOf at ht
  split at ht
  · rename_i fs' hu
    cases ht
    obtain ⟨xs, m, rfl, he, hl, hlen, hall⟩ := DataW.trod_struct hu hx
    have hz2 : ∀ k ∈ DataW.weights P t (.agg (xs.map (·.1)) : DataW H), k ≤ reachBytes := by rw [he] at hz; exact hz
    unfold DataW.weights at hz2
    rw [hu] at hz2
    obtain ⟨a, ha, hw⟩ := h H enc w m cs (by omega) (by omega) (fun f hf => by
      obtain ⟨g, hg, rfl⟩ := List.mem_map.1 hf
      obtain ⟨i, hi, he⟩ := List.mem_iff_getElem.1 hg
      have hi' : fs'[i]? = some g := by rw [← Array.getElem?_toList, List.getElem?_eq_getElem hi, he]
      have hix : i < xs.length := by rw [hlen]; simpa using hi
      have := hall i g hi'
      rw [List.getElem?_eq_getElem hix] at this
      refine ⟨_, this, fun k hk => hz2 k (wtEach_get (i := i) (t := g.type) (d := xs[i].1) ?_ ?_ hk)⟩
      · rw [List.getElem?_map, Array.getElem?_toList, hi']; rfl
      · rw [List.getElem?_map, List.getElem?_eq_getElem hix]; rfl)
    rw [List.drop_zero] at ha
    exact ⟨a, .inr ⟨rfl, .agg ha.1 ha.2.1 ha.2.2⟩, hw⟩
  · cases ht
/-- An argument that is a slice. -/
theorem cameSliceZ {H : Type} {enc : TypeId × Value → H} {W : World} {v : Value} {d : DataW H} {p : List MemPlace} {r : Reach} {b0 : Nat} {en : α → CV} {wf : α → Prop} {sh : Option Nat} {f : α → List CV} (hen : ∀ xs, en xs = .slc sh (f xs)) (ht : P.underlying t = some (.slice e)) (hv : Value.okWide P W r b0 t v)
    (h : ∀ n, RdZ P n t en wf) (hd : DataW.Trod enc P W 0 (fun _ => true) true t v d p) (hz : Wt P t d) : ∃ xs : α, VRel W (fun _ => .absent) (Here W) (fun _ => False) (.sl true sh (f xs)) v ∧ wf xs := by
  obtain ⟨a, len, cap, rfl⟩ := Go.WideShapes.okWide_slice ht hv
  obtain ⟨fuel, hf⟩ := hd
  obtain ⟨xs, hc, hw⟩ := h fuel _ _ _ _ _ _ (Nat.le_refl _) hf hz
  rcases hc with ⟨_, v, hv, hr⟩ | ⟨hag, _⟩
  · simp [Value.cells] at hv
    subst hv
    rw [hen] at hr
    exact ⟨xs, .sl (hr.row.mono (fun _ h => h) (fun _ h => .inl h) (fun _ _ => rfl) (fun _ _ => rfl)), hw⟩
  · rw [hen] at hag; cases hag
/-- The form's reach, an argument at a time. -/
theorem wt_head {H : Type} {ts : List TypeId} {d : DataW H} {l : List (DataW H)} (h : (DataW.weightsEach P (t :: ts) (d :: l)).all (· ≤ reachBytes) = true) : Wt P t d ∧ (DataW.weightsEach P ts l).all (· ≤ reachBytes) = true := by
  unfold DataW.weightsEach at h
  rw [List.all_append, Bool.and_eq_true] at h
  exact ⟨fun k hk => by simpa using List.all_eq_true.1 h.1 k hk, h.2⟩
end
end Go.Proofs.YtkkknhfbcflkfaaS
