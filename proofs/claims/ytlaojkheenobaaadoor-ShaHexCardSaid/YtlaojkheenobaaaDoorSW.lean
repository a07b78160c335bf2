/- The operations that write: boxes, stores. -/
import Derived.Test.YtlaojkheenobaaaDoorSV
namespace Go.Proofs.YtlaojkheenobaaaDoorS
open Go Go.RowKit
set_option linter.unusedVariables false
set_option linter.unusedSimpArgs false
section
variable {X : Type} {P : Program} {T : Tab} {fr : Fr} {φ φ' : Nm → Loc} {F F' B : Nat → Prop} {s : St} {a : Act} {w w' : World} {out : X}
theorem FrOk.small (h : FrOk fr) {d : Nat} (hd : d < 1000) : fr.φ0 [d] = .absent := by
  cases e : fr.φ0 [d] with
  | absent => rfl
  | dead => have := h.nm [d] (by rw [e]; simp); simp at this; omega
  | at_ b k => have := h.nm [d] (by rw [e]; simp); simp at this; omega
theorem VRelL.world {us : List AVal} {vs : List Value} (hI : Inv fr φ F s a w) (h : VRelL w φ F fr.B us vs) (hφ : Phi φ φ') (hs : Stp (fun _ => False) w w') : VRelL w' φ' F fr.B us vs :=
  h.mono ⟨fun k hk => hs.block k (hI.fb k (.inl hk)) (fun h => h), fun k hk => hs.block k (hI.fb k (.inr hk)) (fun h => h), hs.bs⟩ hφ (fun _ hk => hk) (fun _ hk => .inl hk)
theorem bsize_alloc (w : World) (c : Array Value) (t : TypeId) : bsize (w.alloc (.cells c t)) w.heap.size = c.size := by
  unfold bsize World.alloc
  simp
theorem WrB.alloc {sh : Option Nat} (w : World) (c : Array Value) (t : TypeId) (h1 : ∀ u ∈ c.toList, u.oneCell' = true) : WrB sh (w.alloc (.cells c t)) w.heap.size := by
  refine ⟨by simp, fun o ho => ?_, fun c' t' lo hi e => by
    have : (w.alloc (.cells c t)).heap[w.heap.size]? = some (.cells c t (0, 0)) := by
      show (w.heap.push (.cells c t))[w.heap.size]? = _
      simp
    rw [this] at e
    cases e
    exact Nat.le_refl _, fun o v hv => by
      rw [World.cell?_alloc_at c t w.heap.size o rfl] at hv
      rw [← Array.getElem?_toList] at hv
      exact h1 v (List.mem_of_getElem? hv), fun _ => by
      unfold World.frozen? World.alloc
      simp⟩
  rw [bsize_alloc] at ho
  refine ⟨?_, ?_⟩
  · unfold World.frozen? World.alloc
    simp
  · rw [World.cell?_alloc_at c t w.heap.size o rfl, Array.getElem?_eq_getElem ho]; rfl
theorem Inv.fresh (hI : Inv fr φ F s a w) : ¬ F w.heap.size ∧ ¬ fr.B w.heap.size ∧ (fr.S0 w.heap.size ∨ fr.w0.heap.size ≤ w.heap.size) ∧ ∀ m n j, (m, n) ∈ s.nodes → φ m ≠ .at_ (some w.heap.size) j := by
  refine ⟨fun h => absurd (hI.fb _ (.inl h)) (Nat.lt_irrefl _), fun h => absurd (hI.fb _ (.inr h)) (Nat.lt_irrefl _), .inr hI.step.size, fun m n j hm e => absurd ((hI.nd m n hm).block e) (Nat.lt_irrefl _)⟩
theorem new_some {nm : Nm} {n : Node} {K : St → Option X} (h : s.new nm n K = some out) : find nm s.nodes = none ∧ K ⟨s.tmps, insN (nm, n) s.nodes⟩ = some out := by
  unfold St.new at h
  split at h
  · next e => exact ⟨e, h⟩
  · cases h
theorem evBox0_sound (hF : FrOk fr) (hI : Inv fr φ F s a w) {d : Option Tmp} {t : Nat} {x : AVal} {v : Value} {K : St → Option X} (h : evBox0 T s d t x K = some out) (hx : VRel w φ F fr.B x v) :
    ∃ φ' s', K s' = some out ∧ Inv fr φ' F s' (a.put d (.pointer (some ⟨w.heap.size, 0, none⟩))) (w.alloc (.cells v.cells t)) := by
  unfold evBox0 at h
  split at h
  · cases h
  · next d =>
    simp only at h
    obtain ⟨h1, h2⟩ := grd_some h
    simp only [Bool.and_eq_true] at h1
    obtain ⟨⟨⟨⟨g1, g2⟩, g3⟩, g4⟩, g5⟩ := h1
    have g1 := Nat.eq_of_beq_eq_true g1
    have g2 : d < 1000 := Nat.le_of_ble_eq_true g2
    obtain ⟨hn, h3⟩ := new_some h2
    have hx' := hx.resize (T := T) t
    obtain ⟨hus, hok, hone⟩ := cells_rel hx' g4
    have hlen : ((resize T t x).cells.map fun _ => AVal.undef).length = v.cells.size := by rw [List.length_map, hus.1, Array.length_toList]
    have hstp := Stp.alloc w (.cells v.cells t)
    have hfr := hI.fresh
    obtain ⟨φ1, hI1, hloc, _, hφ1⟩ := hI.new (nm := [d]) hn (.obj ((resize T t x).cells.map fun _ => .undef)) (.at_ (some w.heap.size) 0) hstp (fun k hk _ => hk.elim)
      (fun b k e => by
        cases e
        exact ⟨hfr.1, hfr.2.1, hfr.2.2.1, fun m n j _ hm _ => hfr.2.2.2 m n j hm⟩)
      (fun cs b k _ e => by rw [hF.small g2] at e; cases e)
      (fun φ' _ hself _ => by
        refine ⟨w.heap.size, hself, WrB.alloc _ _ _ hone, by rw [bsize_alloc, hlen]; exact Nat.le_refl _, fun c hc => ?_, fun j c hc => ?_⟩
        · obtain ⟨_, _, rfl⟩ := List.mem_map.1 hc; trivial
        · have hj := (List.getElem?_eq_some_iff.1 hc).1
          rw [hlen] at hj
          refine ⟨v.cells[j], ?_, ?_⟩
          · rw [World.cell?_alloc_at v.cells t w.heap.size j rfl, Array.getElem?_eq_getElem hj]
          · rw [List.getElem?_map, Option.map_eq_some_iff] at hc
            obtain ⟨_, _, rfl⟩ := hc
            exact .undef _) (okNm_small g2)
    have hI1 : Inv fr φ1 F ⟨s.tmps, insN ([d], .obj ((resize T t x).cells.map fun _ => AVal.undef)) s.nodes⟩ a (w.alloc (.cells v.cells t)) := hI1.perm (insN_perm _ _)
    have hf1 : find [d] (⟨s.tmps, insN ([d], .obj ((resize T t x).cells.map fun _ => AVal.undef)) s.nodes⟩ : St).nodes = some (.obj ((resize T t x).cells.map fun _ => AVal.undef)) := find_insN_self hn
    have hcel : ∀ (i : Nat) u, v.cells.toList[i]? = some u → (w.alloc (.cells v.cells t)).cell? ⟨w.heap.size, 0 + i, none⟩ = some u := fun i u hu => by
      rw [Nat.zero_add, World.cell?_alloc_at v.cells t w.heap.size i rfl, ← Array.getElem?_toList]; exact hu
    have hlay : ∃ φ2 s2 k2, K (s2.put (some d) (.ptr [d] 0 0 0)) = some out ∧ Inv fr φ2 F s2 a (w.alloc (.cells v.cells t)) ∧ φ2 [d] = .at_ (some w.heap.size) k2 := by
      cases hs : ((resize T t x).cells.all soft0) with
      | true =>
        rw [hs] at h3
        exact lay2_sound hI1 h3 hloc (VRelL.world hI hus hφ1 hstp) hok (Stp.refl _ _) id (fun _ => hcel) (fun _ _ => rfl)
      | false =>
        rw [hs] at h3
        exact lay_sound hI1 h3 hf1 hloc (VRelL.world hI hus hφ1 hstp) hok (Stp.refl _ _) id (fun _ => hcel) (fun _ _ => rfl)
    obtain ⟨φ2, s2, k2, h4, hI2, hb2⟩ := hlay
    exact ⟨φ2, _, h4, hI2.put (by simpa using (VRel.ptr (sz := 0) (i := 0) (j := 0) hb2 : VRel _ φ2 F fr.B (.ptr [d] 0 0 0) _)) (some d)⟩
theorem CRel.notAgg {c : CV} {v : Value} (h : CRel w F c v) (hc : c.isAgg = false) : v.cells = #[v] ∧ v.oneCell' = true := by
  cases h <;> first | exact ⟨rfl, rfl⟩ | cases hc | skip
  next h => exact ⟨(by cases v <;> first | rfl | (cases h; done)), h⟩
theorem evBoxF_sound (hF : FrOk fr) (hI : Inv fr φ F s a w) {d : Option Tmp} {t : Nat} {x : AVal} {v : Value} {K : St → Option X} (h : evBoxF T s d t x K = some out) (hx : VRel w φ F fr.B x v) :
    ∃ φ' s', K s' = some out ∧ Inv fr φ' F s' (a.put d (.pointer (some ⟨w.heap.size, 0, none⟩))) (w.alloc (.cells v.cells t)) := by
  unfold evBoxF at h
  split at h
  · next d c =>
    obtain ⟨h1, h2⟩ := grd_some h
    rw [Bool.and_eq_true, Bool.and_eq_true] at h1
    have g2 : d < 1000 := Nat.le_of_ble_eq_true h1.1.1
    obtain ⟨ds, rfl, hdn⟩ := CV.isA_eq h1.2
    obtain ⟨hn, h3⟩ := new_some h2
    cases hx with | v hcr =>
    obtain ⟨vs, rfl⟩ := hcr.agg_val
    have hlen := hcr.len
    have hone : ∀ u ∈ (Value.agg vs.toArray).cells.toList, u.oneCell' = true := fun u hu => by
      have hu : u ∈ vs := by simpa [Value.cells] using hu
      obtain ⟨q, hq, rfl⟩ := List.mem_iff_getElem.1 hu
      have hq' : q < ds.length := by omega
      obtain ⟨v', hv', hr', hna⟩ := hcr.cell_ok (List.getElem?_eq_getElem hq')
      rw [List.getElem?_eq_getElem hq] at hv'
      cases hv'
      exact (hr'.notAgg hna).2
    have hstp := Stp.alloc w (.cells (Value.agg vs.toArray).cells t)
    have hfr := hI.fresh
    obtain ⟨φ1, hI1, hloc, _, hφ1⟩ := hI.new (nm := [d]) hn (.row false none ds) (.at_ (some w.heap.size) ds.length) hstp (fun k hk _ => hk.elim)
      (fun b k e => by
        cases e
        exact ⟨hfr.1, hfr.2.1, hfr.2.2.1, fun m n j _ hm _ => hfr.2.2.2 m n j hm⟩)
      (fun cs b k e => by cases e)
      (fun φ' _ hself _ => by
        refine ⟨by decide, some w.heap.size, hself, (fun e => by cases e), fun b' e => ?_⟩
        cases e
        refine ⟨WrB.alloc _ _ _ hone, (fun e => by cases e), by rw [bsize_alloc]; simp [Value.cells, szOf]; omega, fun i y hy => ?_⟩
        obtain ⟨u, hu, hr', hna⟩ := hcr.cell_ok hy
        refine ⟨u, ?_, hr'.mono (fun _ hk => hk) (fun k hk => hstp.block k (hI.fb k (.inl hk)) (fun h => h)), hna⟩
        rw [World.cell?_alloc_at _ t w.heap.size _ rfl]
        simpa [Value.cells, szOf] using hu) (okNm_small g2)
    have hI1 : Inv fr φ1 F ⟨s.tmps, insN ([d], .row false none ds) s.nodes⟩ a (w.alloc (.cells (Value.agg vs.toArray).cells t)) := hI1.perm (insN_perm _ _)
    exact ⟨φ1, _, h3, hI1.put (by simpa using (VRel.ptr (sz := 1) (i := 0) (j := 0) hloc : VRel _ φ1 F fr.B (.ptr [d] 1 0 0) _)) (some d)⟩
  · cases h
theorem evBox_sound (hF : FrOk fr) (hI : Inv fr φ F s a w) {d : Option Tmp} {t : Nat} {x : AVal} {v : Value} {K : St → Option X} (h : evBox T s d t x K = some out) (hx : VRel w φ F fr.B x v) :
    ∃ φ' s', K s' = some out ∧ Inv fr φ' F s' (a.put d (.pointer (some ⟨w.heap.size, 0, none⟩))) (w.alloc (.cells v.cells t)) := by
  unfold evBox at h
  cases e : flatT T t with
  | true => rw [e] at h; exact evBoxF_sound hF hI h hx
  | false =>
    rw [e] at h
    simp only [cond_false] at h
    obtain ⟨y, h1, h2⟩ := expand_sound h hx
    exact evBox0_sound hF hI h1 h2
theorem list_set_get {α : Type} (l : List α) (i : Nat) (x : α) (hi : i < l.length) (j : Nat) : (l.set i x)[j]? = if i = j then some x else l[j]? := by
  rw [List.getElem?_set]
  by_cases h : i = j
  · subst h; simp [hi]
  · simp [h]
theorem lv1_resize (x : AVal) (t : Nat) : (resize T t x).lv1 = x.lv1 := by
  unfold resize
  cases x with
  | nil0 sh => simp only; split <;> rfl
  | _ => rfl
/-- An element whose cells were not written. -/
theorem ElAt.far {F : Nat → Prop} {sh : Option Nat} {x : CV} {b o : Nat} (h : ElAt w F sh x b o) (hb : ¬ F b) (hs : Stp (fun k => k = b) w w') (hc : ∀ r, r < szOf sh → w'.cell? ⟨b, o + r, none⟩ = w.cell? ⟨b, o + r, none⟩) (hF : ∀ k, F k → k < w.heap.size) : ElAt w' F sh x b o := by
  have hk : ∀ k, F k → w'.heap[k]? = w.heap[k]? := fun k hk => hs.block k (hF k hk) (fun e => hb (e ▸ hk))
  unfold ElAt at *
  cases sh with
  | none => obtain ⟨u, h1, h2, h3⟩ := h; exact ⟨u, (hc 0 (by simp [szOf])).trans h1, h2.mono (fun _ h => h) hk, h3⟩
  | some n =>
    obtain ⟨us, h1, h2, h3⟩ := h
    refine ⟨us, h1, fun j u hu => (hc j ?_).trans (h2 j u hu), h3.mono (fun _ h => h) hk⟩
    have := (List.getElem?_eq_some_iff.1 hu).1
    simp only [szOf]; omega
theorem putRun_length {α : Type} {ds cs : List α} {j : Nat} (h : j + cs.length ≤ ds.length) : (putRun ds j cs).length = ds.length := by
  unfold putRun
  simp only [List.length_append, List.length_take, List.length_drop]
  omega
theorem putRun_get {α : Type} {ds cs : List α} {j q : Nat} (h : j + cs.length ≤ ds.length) : (putRun ds j cs)[q]? = if j ≤ q ∧ q < j + cs.length then cs[q - j]? else ds[q]? := by
  unfold putRun
  split
  · next hq =>
    rw [List.append_assoc, List.getElem?_append_right (by simp only [List.length_take]; omega), List.getElem?_append_left (by simp only [List.length_take]; omega)]
    simp only [List.length_take]
    congr 1
    omega
  · next hq =>
    rcases Nat.lt_or_ge q j with h1 | h1
    · rw [List.append_assoc, List.getElem?_append_left (by simp only [List.length_take]; omega), List.getElem?_take]
      simp [h1]
    · rw [List.getElem?_append_right (by simp only [List.length_append, List.length_take]; omega)]
      simp only [List.length_append, List.length_take, List.getElem?_drop]
      congr 1
      omega
theorem evStore_sound (hT : TabOk T P) (hI : Inv fr φ F s a w) {t : Nat} {x p : AVal} {v vp : Value} {K : St → Option X} (h : evStore T s t p x K = some out) (hp : VRel w φ F fr.B p vp) (hx : VRel w φ F fr.B x v) :
    ∃ φ' F' s' w', K s' = some out ∧ Inv fr φ' F' s' a w' ∧ (Instr.storeAt t vp v).run P w = .ok () w' := by
  have hat : ∀ q, (Instr.storeAt t (.pointer (some q)) v).run P w = (storeVar t q v).run P w := fun q => by
    unfold Instr.storeAt
    simp only [Instr.sureAddr, Sem.run_bind, Sem.run_pure, Result.andThen_ok]
  have hx' := hx.resize (T := T) t
  unfold evStore at h
  split at h
  · next nm sz i j =>
    split at h
    · next cs hf =>
      clear hx'
      obtain ⟨x, h, hx⟩ := expand_sound h hx
      have hx' := hx.resize (T := T) t
      simp only at h
      obtain ⟨h1, h2⟩ := grd_some h
      simp only [Bool.and_eq_true] at h1
      obtain ⟨⟨⟨⟨g1, g2⟩, g3⟩, g4⟩, g5⟩ := h1
      have g1 := Nat.eq_of_beq_eq_true g1
      have g2 := Nat.eq_of_beq_eq_true g2
      have g4 := Nat.le_of_ble_eq_true g4
      obtain ⟨hus, hok, hone⟩ := cells_rel hx' g3
      obtain ⟨b, hb, hw, hl, hco, hc⟩ := hI.nd nm _ (find_mem hf)
      have hsz : ∀ w, (sizeOf t).run P w = .ok v.cells.size w := fun w => by
        rw [(size_spec hT g5).1, ← g1, hus.1, Array.length_toList]
      cases hp with
      | ptrD hd => rw [hb] at hd; cases hd
      | ptr hpp =>
        rw [hb] at hpp
        cases hpp
        have hend : j + v.cells.toList.length ≤ bsize w b := by rw [← hus.1]; omega
        have hcs : ∀ q, q < v.cells.toList.length → (w.cell? ⟨b, j + q, none⟩).isSome = true := fun q hq => (hw.2 (j + q) (by omega)).2
        have hfs : ∀ q, q < v.cells.toList.length → w.frozen? ⟨b, j + q, none⟩ = false := fun q hq => (hw.2 (j + q) (by omega)).1
        have hrun := run_storeVar_cells (P := P) (w := w) (b := b) (o := j) (v := v) (hsz w) hcs hfs hone
        obtain ⟨φ2, s2, k2, h4, hI2, _⟩ := lay_sound (w' := w.setCells b j v.cells.toList) hI h2 hf hb hus hok (Stp.setCells b _ j w) (fun hw => hw.setCells _ _ hcs hone) (fun _ q u hu => by
            have hq := (List.getElem?_eq_some_iff.1 hu).1
            rw [World.cell?_setCells_in b _ j w hcs q hq, ← List.getElem?_eq_getElem hq, hu]) (fun q hq => World.cell?_setCells_out b _ j w _ (fun _ _ => by rw [hus.1] at hq; simp only; omega))
        refine ⟨φ2, F, s2, _, h4, hI2, ?_⟩
        rw [hat, g2, Nat.mul_zero, Nat.zero_add]
        exact hrun
    · next sh xs hf =>
      obtain ⟨h1, h2⟩ := grd_some h
      clear h
      simp only [Bool.and_eq_true] at h1
      have g1 := Nat.eq_of_beq_eq_true h1.1
      have g2 : nm ∉ x.lv1 := fun hm => by
        have := h1.2
        simp only [Bool.not_eq_true', List.any_eq_false] at this
        exact this nm hm (nmEq_refl nm)
      obtain ⟨c, hc, h3⟩ := bind_some h2
      clear h2
      obtain ⟨F', hI2, hFF, hbl, hsame⟩ := frzN_sound x.lv1 hI
      have hcr : CRel w F' c v := closed_spec hI hFF hc hx' (fun m hm fz sh xs hfm k hk => hbl m (by rw [lv1_resize] at hm; exact hm) fz sh xs hfm k hk)
      have hf2 : find nm (frzN x.lv1 s.nodes) = some (.row false sh xs) := by
        rcases hsame nm with e | ⟨hm, _⟩
        · rw [e]; exact hf
        · exact absurd hm g2
      obtain ⟨h0, blk, hb, hbn, hc2⟩ := hI2.nd nm _ (find_mem hf2)
      cases hp with
      | ptrD hd => rw [hb] at hd; cases hd
      | ptr hpp =>
        rw [hb] at hpp
        cases hpp
        rename_i b
        obtain ⟨hw, _, hl, he⟩ := hc2 b rfl
        have hown := hI2.own nm _ b _ (find_mem hf2) rfl hb
        -- a row of cells written in an element
        have key : ∀ (o : Nat) (vs : List Value) (N : Node), o + vs.length ≤ bsize w b → N.own = true → (∀ cs, N ≠ .obj cs) → NRel (w.setCells b o vs) φ F' fr.B nm N → Inv fr φ F' ((⟨s.tmps, frzN x.lv1 s.nodes⟩ : St).setN nm N) a (w.setCells b o vs) := fun o vs N _ hN hno hNR =>
          hI2.setN hf2 rfl hN hb (Stp.setCells b vs o w) hNR (fun cs e => absurd e (hno cs)) (fun _ _ _ _ => ⟨_, _, _, rfl⟩)
        have hcell : ∀ (o : Nat) (vs : List Value), o + vs.length ≤ bsize w b → (∀ q, q < vs.length → (w.cell? ⟨b, o + q, none⟩).isSome = true) ∧ ∀ q, q < vs.length → w.frozen? ⟨b, o + q, none⟩ = false := fun o vs hle =>
          ⟨fun q hq => (hw.2 (o + q) (by omega)).2, fun q hq => (hw.2 (o + q) (by omega)).1⟩
        have hrow : ∀ (o : Nat) (vs : List Value) (i : Nat) (c' : CV), i < xs.length → o + vs.length ≤ bsize w b → i * szOf sh ≤ o → o + vs.length ≤ i * szOf sh + szOf sh → (∀ u ∈ vs, u.oneCell' = true) → ElAt (w.setCells b o vs) F' sh c' b (i * szOf sh) → NRel (w.setCells b o vs) φ F' fr.B nm (.row false sh (xs.set i c')) := fun o vs i c' hi hle h5 h6 hone hel => by
          refine ⟨h0, some b, by rw [List.length_set]; exact hb, (fun e => by cases e), fun b' e => ?_⟩
          cases e
          refine ⟨hw.setCells vs o (hcell o vs hle).1 hone, (fun e => by cases e), by rw [List.length_set, (Stp.setCells b vs o w).bs b hw.1]; exact hl, fun q y hy => ?_⟩
          rw [list_set_get xs i c' hi] at hy
          split at hy
          · next e => subst e; cases hy; exact hel
          · next hne =>
            refine (he q y hy).far hown.1 (Stp.setCells b vs o w) (fun r hr => ?_) (fun k hk => hI2.fb k (.inl hk))
            refine World.cell?_setCells_out b vs o w _ (fun _ _ => ?_)
            simp only
            rcases Nat.lt_or_ge q i with hq | hq
            · left
              have : (q + 1) * szOf sh ≤ i * szOf sh := Nat.mul_le_mul_right _ hq
              rw [Nat.add_mul, Nat.one_mul] at this
              omega
            · right
              have : (i + 1) * szOf sh ≤ q * szOf sh := Nat.mul_le_mul_right _ (by omega)
              rw [Nat.add_mul, Nat.one_mul] at this
              omega
        unfold putEl at h3
        split at h3
        · have hadr : i * szOf none + j = (i + j) * 1 := by simp [szOf]
          cases ha : isAggT T t with
          | false =>
            rw [ha] at h3
            simp only [cond_false] at h3
            obtain ⟨k1, h4⟩ := grd_some h3
            simp only [Bool.and_eq_true, Bool.not_eq_true'] at k1
            obtain ⟨k2, k4⟩ := k1
            have k2 := Nat.eq_of_beq_eq_true k2
            obtain ⟨k5, h5⟩ := grd_some h4
            have k5 := of_decide_eq_true k5
            obtain ⟨hv1, hv2⟩ := hcr.notAgg k4
            have hle : (i + j) * 1 + [v].length ≤ bsize w b := by
              have : (i + j + 1) * 1 ≤ xs.length * 1 := Nat.mul_le_mul_right 1 k5
              simp only [szOf] at hl
              simp only [List.length_singleton]
              omega
            have hsz : (sizeOf t).run P w = .ok v.cells.size w := by
              rw [(size_spec hT (by rw [k2]; rfl)).1, k2, hv1]; rfl
            refine ⟨φ, F', _, _, h5, key ((i + j) * 1) [v] _ hle rfl (fun cs e => by cases e) (hrow ((i + j) * 1) [v] (i + j) c k5 hle (by simp [szOf]) (by simp [szOf]) (fun u hu => by simp at hu; subst hu; exact hv2) ⟨v, ?_, ?_, k4⟩), ?_⟩
            · have := World.cell?_setCells_in b [v] ((i + j) * 1) w (hcell _ _ hle).1 0 (by simp)
              simpa [szOf] using this
            · exact hcr.mono (fun _ hk => hk) (fun k hk => (Stp.setCells b [v] ((i + j) * 1) w).block k (hI2.fb k (.inl hk)) (fun e => hown.1 (e ▸ hk)))
            · rw [hat, g1, hadr]
              have := run_storeVar_cells (P := P) (w := w) (b := b) (o := (i + j) * 1) (v := v) hsz (by rw [hv1]; exact (hcell _ _ hle).1) (by rw [hv1]; exact (hcell _ _ hle).2) (by rw [hv1]; intro u hu; simp at hu; subst hu; exact hv2)
              rw [hv1] at this
              exact this
          | true =>
            rw [ha] at h3
            simp only [cond_true] at h3
            obtain ⟨k1, h4⟩ := grd_some h3
            rw [Bool.and_eq_true] at k1
            obtain ⟨k1, k3⟩ := k1
            obtain ⟨ds, rfl, hdn⟩ := CV.isA_eq k3
            obtain ⟨k5, h5⟩ := grd_some h4
            have k5 := of_decide_eq_true k5
            obtain ⟨vs, rfl⟩ := hcr.agg_val
            have hlen := hcr.len
            have hvn : vs.length = sizeT T t := by rw [← hlen]; exact hdn
            have hle : i + j + vs.length ≤ bsize w b := by
              simp only [szOf] at hl
              omega
            have hone : ∀ u ∈ vs, u.oneCell' = true := fun u hu => by
              obtain ⟨q, hq, rfl⟩ := List.mem_iff_getElem.1 hu
              have hq' : q < ds.length := by omega
              obtain ⟨v', hv', hr', hna⟩ := hcr.cell_ok (List.getElem?_eq_getElem hq')
              rw [List.getElem?_eq_getElem hq] at hv'
              cases hv'
              exact (hr'.notAgg hna).2
            have hsz : (sizeOf t).run P w = .ok (Value.agg vs.toArray).cells.size w := by
              rw [(size_spec hT k1).1, ← hvn]
              simp [Value.cells]
            have hyl : (xs.take (i + j) ++ ds ++ xs.drop (i + j + sizeT T t)).length = xs.length := by
              rw [List.length_append, List.length_append, List.length_take, List.length_drop]; omega
            refine ⟨φ, F', _, _, h5, key (i + j) vs _ hle rfl (fun cs e => by cases e) ?_, ?_⟩
            · show NRel _ φ F' fr.B nm (.row false none (xs.take (i + j) ++ ds ++ xs.drop (i + j + sizeT T t)))
              refine ⟨h0, some b, by rw [hyl]; exact hb, (fun e => by cases e), fun b' e => ?_⟩
              cases e
              refine ⟨hw.setCells vs (i + j) (hcell _ _ hle).1 hone, (fun e => by cases e), by rw [hyl, (Stp.setCells b vs (i + j) w).bs b hw.1]; exact hl, fun q y hy => ?_⟩
              have hfar : ∀ y, xs[q]? = some y → (q < i + j ∨ i + j + sizeT T t ≤ q) → ElAt (w.setCells b (i + j) vs) F' none y b (q * szOf none) := fun y hy hq => by
                refine (he q y hy).far hown.1 (Stp.setCells b vs (i + j) w) (fun r hr => ?_) (fun k hk => hI2.fb k (.inl hk))
                refine World.cell?_setCells_out b vs (i + j) w _ (fun _ _ => ?_)
                simp only [szOf] at hr ⊢
                omega
              rw [List.append_assoc] at hy
              rcases Nat.lt_or_ge q (i + j) with hq | hq
              · rw [List.getElem?_append_left (by rw [List.length_take]; omega), List.getElem?_take, if_pos hq] at hy
                exact hfar y hy (.inl hq)
              · have htl : (xs.take (i + j)).length = i + j := by rw [List.length_take]; omega
                rw [List.getElem?_append_right (by omega), htl] at hy
                rcases Nat.lt_or_ge (q - (i + j)) ds.length with hq2 | hq2
                · rw [List.getElem?_append_left hq2] at hy
                  obtain ⟨u, hu, hr', hna⟩ := hcr.cell_ok hy
                  have hql := (List.getElem?_eq_some_iff.1 hu).1
                  have := World.cell?_setCells_in b vs (i + j) w (hcell _ _ hle).1 _ hql
                  rw [← List.getElem?_eq_getElem hql, hu, show i + j + (q - (i + j)) = q by omega] at this
                  refine ⟨u, by simpa [szOf] using this, hr'.mono (fun _ hk => hk) (fun k hk => (Stp.setCells b vs (i + j) w).block k (hI2.fb k (.inl hk)) (fun e => hown.1 (e ▸ hk))), hna⟩
                · rw [List.getElem?_append_right hq2, List.getElem?_drop] at hy
                  exact hfar y (by rw [← hy]; congr 1; omega) (.inr (by omega))
            · rw [hat, g1, hadr, Nat.mul_one]
              exact run_storeVar_cells (P := P) (w := w) (b := b) (o := i + j) (v := .agg vs.toArray) hsz (by simpa [Value.cells] using (hcell _ _ hle).1) (by simpa [Value.cells] using (hcell _ _ hle).2) (by simpa [Value.cells] using hone)
        · next n =>
          cases ha : isAggT T t with
          | true =>
            rw [ha] at h3
            simp only [cond_true] at h3
            cases hz : (Nat.beq (sizeT T t) n && Nat.beq j 0) with
            | true =>
              rw [hz] at h3
              simp only [cond_true] at h3
              rw [Bool.and_eq_true] at hz
              obtain ⟨k1, h4⟩ := grd_some h3
              simp only [Bool.and_eq_true] at k1
              obtain ⟨k3, k4⟩ := k1
              obtain ⟨k1, k2⟩ := hz
              have k1 := Nat.eq_of_beq_eq_true k1
              have k2 := Nat.eq_of_beq_eq_true k2
              have k3 := Nat.eq_of_beq_eq_true k3
              obtain ⟨k5, h5⟩ := grd_some h4
              have k5 := of_decide_eq_true k5
              obtain ⟨ds, rfl⟩ : ∃ ds, c = .agg ds := by cases c <;> first | exact ⟨_, rfl⟩ | cases k4
              obtain ⟨vs, rfl⟩ := hcr.agg_val
              have hlen := hcr.len
              have hvn : vs.length = n := by rw [← hlen]; exact k3
              have hle : i * n + vs.length ≤ bsize w b := by
                have : (i + 1) * n ≤ xs.length * n := Nat.mul_le_mul_right n k5
                rw [Nat.add_mul, Nat.one_mul] at this
                simp only [szOf] at hl
                omega
              have hone : ∀ u ∈ vs, u.oneCell' = true := fun u hu => by
                obtain ⟨q, hq, rfl⟩ := List.mem_iff_getElem.1 hu
                have hq' : q < ds.length := by omega
                obtain ⟨v', hv', hr', hna⟩ := hcr.cell_ok (List.getElem?_eq_getElem hq')
                rw [List.getElem?_eq_getElem hq] at hv'
                cases hv'
                exact (hr'.notAgg hna).2
              have hsz : (sizeOf t).run P w = .ok (Value.agg vs.toArray).cells.size w := by
                rw [(size_spec hT (by rw [k1]; simp only [szOf] at h0; exact Nat.ble_eq_true_of_le h0)).1, k1, ← hvn]
                simp [Value.cells]
              refine ⟨φ, F', _, _, h5, key (i * n) vs _ hle rfl (fun cs e => by cases e) (hrow (i * n) vs i (.agg ds) k5 hle (Nat.le_refl _) (by rw [hvn]; exact Nat.le_refl _) hone ⟨vs, hvn, fun q u hu => ?_, ?_⟩), ?_⟩
              · have hq := (List.getElem?_eq_some_iff.1 hu).1
                have := World.cell?_setCells_in b vs (i * n) w (hcell _ _ hle).1 q hq
                rw [← List.getElem?_eq_getElem hq, hu] at this
                exact this
              · exact hcr.mono (fun _ hk => hk) (fun k hk => (Stp.setCells b vs (i * n) w).block k (hI2.fb k (.inl hk)) (fun e => hown.1 (e ▸ hk)))
              · rw [hat, g1, k2]
                exact run_storeVar_cells (P := P) (w := w) (b := b) (o := i * n) (v := .agg vs.toArray) hsz (by simpa [Value.cells] using (hcell _ _ hle).1) (by simpa [Value.cells] using (hcell _ _ hle).2) (by simpa [Value.cells] using hone)
            | false =>
              rw [hz] at h3
              simp only [cond_false] at h3
              obtain ⟨k1, h4⟩ := grd_some h3
              simp only [Bool.and_eq_true] at k1
              obtain ⟨⟨k0, k4⟩, k3⟩ := k1
              have k0 : 0 < sizeT T t := Nat.le_of_ble_eq_true k0
              have k3 := Nat.eq_of_beq_eq_true k3
              obtain ⟨e, hxe, h5⟩ := bind_some h4
              split at h5
              · next ds =>
                obtain ⟨k6, h7⟩ := grd_some h5
                have k6 : j + sizeT T t ≤ ds.length := Nat.le_of_ble_eq_true k6
                have k5 := (List.getElem?_eq_some_iff.1 hxe).1
                obtain ⟨us, hul, huc, hur⟩ := he i _ hxe
                have hdl := hur.len
                obtain ⟨es, rfl⟩ : ∃ es, c = .agg es := by cases c <;> first | exact ⟨_, rfl⟩ | cases k4
                obtain ⟨vs, rfl⟩ := hcr.agg_val
                have hlen := hcr.len
                have hes : es.length = sizeT T t := k3
                have hvn : vs.length = sizeT T t := by rw [← hlen]; exact hes
                have hle : i * n + j + vs.length ≤ bsize w b := by
                  have : (i + 1) * n ≤ xs.length * n := Nat.mul_le_mul_right n k5
                  rw [Nat.add_mul, Nat.one_mul] at this
                  simp only [szOf] at hl
                  omega
                have hone : ∀ u ∈ vs, u.oneCell' = true := fun u hu => by
                  obtain ⟨q, hq, rfl⟩ := List.mem_iff_getElem.1 hu
                  have hq' : q < es.length := by omega
                  obtain ⟨v', hv', hr', hna⟩ := hcr.cell_ok (List.getElem?_eq_getElem hq')
                  rw [List.getElem?_eq_getElem hq] at hv'
                  cases hv'
                  exact (hr'.notAgg hna).2
                have hsz : (sizeOf t).run P w = .ok (Value.agg vs.toArray).cells.size w := by
                  rw [(size_spec hT (Nat.ble_eq_true_of_le k0)).1, ← hvn]
                  simp [Value.cells]
                have hk' : ∀ k, F' k → (w.setCells b (i * n + j) vs).heap[k]? = w.heap[k]? := fun k hk => (Stp.setCells b vs (i * n + j) w).block k (hI2.fb k (.inl hk)) (fun e => hown.1 (e ▸ hk))
                refine ⟨φ, F', _, _, h7, key (i * n + j) vs _ hle rfl (fun cs e => by cases e) (hrow (i * n + j) vs i (.agg (putRun ds j es)) k5 hle (by simp [szOf]) (by simp [szOf]; omega) hone ⟨putRun us j vs, by rw [putRun_length (by omega)]; exact hul, fun q u hu => ?_, ?_⟩), ?_⟩
                · rw [putRun_get (by omega)] at hu
                  split at hu
                  · next hq =>
                    have := World.cell?_setCells_in b vs (i * n + j) w (hcell _ _ hle).1 (q - j) (by omega)
                    rw [← List.getElem?_eq_getElem (by omega), hu, show i * n + j + (q - j) = i * n + q from by omega] at this
                    exact this
                  · next hq =>
                    rw [World.cell?_setCells_out b vs (i * n + j) w _ (fun _ _ => by simp only [szOf]; omega)]
                    exact huc q u hu
                · have hall : ∀ (q : Nat) c', (putRun ds j es)[q]? = some c' → c'.isAgg = false ∧ ∀ u, (putRun us j vs)[q]? = some u → CRel (w.setCells b (i * n + j) vs) F' c' u := fun q c' hc' => by
                    rw [putRun_get (by omega)] at hc'
                    rw [putRun_get (by omega), hvn]
                    rw [hes] at hc'
                    split at hc'
                    · next e =>
                      obtain ⟨v', hv', hr', hna⟩ := hcr.cell_ok hc'
                      refine ⟨hna, fun u hu => ?_⟩
                      rw [if_pos e, hv'] at hu
                      cases hu
                      exact hr'.mono (fun _ hk => hk) hk'
                    · next e =>
                      obtain ⟨v', hv', hr', hna⟩ := hur.cell_ok hc'
                      refine ⟨hna, fun u hu => ?_⟩
                      rw [if_neg e, hv'] at hu
                      cases hu
                      exact hr'.mono (fun _ hk => hk) hk'
                  refine .agg (by rw [putRun_length (by omega), putRun_length (by omega)]; exact hdl) (fun c' hc' => ?_) (fun q c' u hc' hu => (hall q c' hc').2 u hu)
                  obtain ⟨q, hq, rfl⟩ := List.mem_iff_getElem.1 hc'
                  exact (hall q _ (List.getElem?_eq_getElem hq)).1
                · rw [hat, g1]
                  exact run_storeVar_cells (P := P) (w := w) (b := b) (o := i * n + j) (v := .agg vs.toArray) hsz (by simpa [Value.cells] using (hcell _ _ hle).1) (by simpa [Value.cells] using (hcell _ _ hle).2) (by simpa [Value.cells] using hone)
              · cases h5
          | false =>
            rw [ha] at h3
            simp only [cond_false] at h3
            obtain ⟨k1, h4⟩ := grd_some h3
            simp only [Bool.and_eq_true, Bool.not_eq_true'] at k1
            have k2 := Nat.eq_of_beq_eq_true k1.1
            obtain ⟨e, hxe, h5⟩ := bind_some h4
            clear h3 h4
            split at h5
            · next ds =>
              obtain ⟨k6, h7⟩ := grd_some h5
              have k6 : j < ds.length := Nat.le_of_ble_eq_true k6
              have k5 := (List.getElem?_eq_some_iff.1 hxe).1
              obtain ⟨us, hul, huc, hur⟩ := he i _ hxe
              have hdl := hur.len
              obtain ⟨hv1, hv2⟩ := hcr.notAgg k1.2
              have hle : i * n + j + [v].length ≤ bsize w b := by
                have : (i + 1) * n ≤ xs.length * n := Nat.mul_le_mul_right n k5
                rw [Nat.add_mul, Nat.one_mul] at this
                simp only [szOf] at hl
                simp only [List.length_singleton]
                omega
              have hsz : (sizeOf t).run P w = .ok v.cells.size w := by
                rw [(size_spec hT (by rw [k2]; rfl)).1, k2, hv1]; rfl
              have hk' : ∀ k, F' k → (w.setCells b (i * n + j) [v]).heap[k]? = w.heap[k]? := fun k hk => (Stp.setCells b [v] (i * n + j) w).block k (hI2.fb k (.inl hk)) (fun e => hown.1 (e ▸ hk))
              refine ⟨φ, F', _, _, h7, key (i * n + j) [v] _ hle rfl (fun cs e => by cases e) (hrow (i * n + j) [v] i (.agg (ds.set j c)) k5 hle (by simp [szOf]) (by simp [szOf]; omega) (fun u hu => by simp at hu; subst hu; exact hv2) ⟨us.set j v, by rw [List.length_set]; exact hul, fun q u hu => ?_, ?_⟩), ?_⟩
              · rw [list_set_get us j v (by omega)] at hu
                split at hu
                · next e =>
                  subst e
                  cases hu
                  have := World.cell?_setCells_in b [v] (i * n + j) w (hcell _ _ hle).1 0 (by simp)
                  simpa [szOf] using this
                · next hne =>
                  rw [World.cell?_setCells_out b [v] (i * n + j) w _ (fun _ _ => by simp [szOf]; omega)]
                  exact huc q u hu
              · refine .agg (by simp [hdl]) (fun c' hc' => ?_) (fun q c' u hc' hu => ?_)
                · rcases List.mem_or_eq_of_mem_set hc' with hm | rfl
                  · obtain ⟨q, hq, rfl⟩ := List.mem_iff_getElem.1 hm
                    exact (hur.cell_ok (List.getElem?_eq_getElem hq)).choose_spec.2.2
                  · exact k1.2
                · rw [list_set_get ds j c k6] at hc'
                  rw [list_set_get us j v (by omega)] at hu
                  split at hc'
                  · next e =>
                    rw [if_pos e] at hu
                    cases hc'; cases hu
                    exact hcr.mono (fun _ hk => hk) hk'
                  · next e =>
                    rw [if_neg e] at hu
                    obtain ⟨v', hv', hr', _⟩ := hur.cell_ok hc'
                    rw [hu] at hv'
                    cases hv'
                    exact hr'.mono (fun _ hk => hk) hk'
              · rw [hat, g1]
                have := run_storeVar_cells (P := P) (w := w) (b := b) (o := i * n + j) (v := v) hsz (by rw [hv1]; exact (hcell _ _ hle).1) (by rw [hv1]; exact (hcell _ _ hle).2) (by rw [hv1]; intro u hu; simp at hu; subst hu; exact hv2)
                rw [hv1] at this
                exact this
            · cases h5
    · cases h
  · cases h
end
end Go.Proofs.YtlaojkheenobaaaDoorS
