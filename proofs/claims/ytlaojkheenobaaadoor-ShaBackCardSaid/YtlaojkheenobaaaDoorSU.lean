/- What is laid into an object: boxes, stores. -/
import Derived.Test.YtlaojkheenobaaaDoorST
namespace Go.Proofs.YtlaojkheenobaaaDoorS
open Go Go.RowKit
set_option linter.unusedVariables false
set_option linter.unusedSimpArgs false
section
variable {X : Type} {P : Program} {T : Tab} {fr : Fr} {φ φ' : Nm → Loc} {F F' B : Nat → Prop} {s : St} {a : Act} {w w' : World} {out : X}
theorem lookR_mem {x m : Nm} : ∀ {rs : List (Nm × Nm)}, lookR rs x = some m → (x, m) ∈ rs
  | [], h => by cases h
  | (q, q') :: l, h => by
    unfold lookR at h
    cases e : nmEq q x with
    | true => rw [e] at h; cases h; rw [nmEq_iff.1 e]; exact List.mem_cons_self
    | false => rw [e] at h; exact List.mem_cons_of_mem _ (lookR_mem h)
theorem lookR_none {x : Nm} : ∀ {rs : List (Nm × Nm)}, lookR rs x = none → ∀ p ∈ rs, p.1 ≠ x
  | [], _, p, hp => by simp at hp
  | (q, q') :: l, h, p, hp => by
    unfold lookR at h
    cases e : nmEq q x with
    | true => rw [e] at h; cases h
    | false =>
      rw [e] at h
      rcases List.mem_cons.1 hp with rfl | hp
      · intro e2; rw [nmEq_iff.2 e2] at e; cases e
      · exact lookR_none h p hp
theorem sameR_spec : ∀ {rs : List (Nm × Nm)}, sameR rs = true → ∀ p ∈ rs, p.1 = p.2
  | [], _, p, hp => by simp at hp
  | (q, q') :: l, h, p, hp => by
    unfold sameR at h
    rw [Bool.and_eq_true] at h
    rcases List.mem_cons.1 hp with rfl | hp
    · exact nmEq_iff.1 h.1
    · exact sameR_spec h.2 p hp
theorem rebind_same {rs : List (Nm × Nm)} (h : sameR rs = true) (m : Nm) : rebind rs m = .to m := by
  unfold rebind
  cases e : lookR rs m with
  | some m' =>
    have := sameR_spec h _ (lookR_mem e)
    simp only at this
    rw [this]
  | none =>
    have : rs.any (fun p => nmEq p.2 m) = false := by
      rw [List.any_eq_false]
      intro p hp hpe
      exact lookR_none e p hp ((sameR_spec h p hp).trans (nmEq_iff.1 hpe))
    simp only [this, cond_false]
theorem rebind_sound (hI : Inv fr φ F s a w) {rs : List (Nm × Nm)} {K : St → Option X} (h : s.rebind rs K = some out) :
    ∃ φ' s', K s' = some out ∧ Inv fr φ' F s' a w ∧ (∀ m m', φ m ≠ .absent → rebind rs m = .to m' → φ' m' = φ m) ∧ s' = (bif sameR rs then s else s.ren (rebind rs)) ∧ (∀ m m' cs, (m, .obj cs) ∈ s.nodes → rebind rs m = .to m' → m' = m) := by
  unfold St.rebind at h
  cases hs : sameR rs with
  | true =>
    rw [hs] at h
    refine ⟨φ, s, h, hI, fun m m' _ e => ?_, rfl, fun m m' cs _ e => ?_⟩
    · rw [rebind_same hs] at e; cases e; rfl
    · rw [rebind_same hs] at e; cases e; rfl
  | false =>
    rw [hs] at h
    obtain ⟨h1, h2⟩ := grd_some h
    rw [Bool.and_eq_true, List.all_eq_true] at h1
    have hobj : ∀ m m' cs, (m, .obj cs) ∈ s.nodes → rebind rs m = .to m' → m' = m := fun m m' cs hm e => by
      unfold rebind at e
      cases el : lookR rs m with
      | some q =>
        have := h1.1 _ (lookR_mem el)
        simp [mem_find hI.uniq hm, isObjN] at this
      | none =>
        rw [el] at e
        simp only at e
        cases ec : rs.any (fun p => nmEq p.2 m) with
        | true => rw [ec] at e; cases e
        | false => rw [ec] at e; cases e; rfl
    obtain ⟨φ', hI', hσ⟩ := hI.ren (rebind rs) (nodupN_iff.1 h1.2) (fun m m' cs hm e => .inl (hobj m m' cs hm e)) (fun m m' e => by
      unfold rebind at e
      cases el : lookR rs m with
      | some q =>
        rw [el] at e
        cases e
        have := h1.1 _ (lookR_mem el)
        rw [Bool.and_eq_true] at this
        exact .inr this.2
      | none =>
        rw [el] at e
        simp only at e
        cases ec : rs.any (fun p => nmEq p.2 m) with
        | true => rw [ec] at e; cases e
        | false => rw [ec] at e; cases e; exact .inl rfl)
    exact ⟨φ', _, h2, hI', hσ, rfl, hobj⟩
theorem renN_sub {σ : Nm → Sb} (hσ : ∀ m m', σ m = .to m' → m' = m) : ∀ l : Nodes, List.Sublist ((renN σ l).map (·.1)) (l.map (·.1))
  | [] => .slnil
  | (m, n) :: l => by
    unfold renN
    cases e : σ m with
    | gone => exact (renN_sub hσ l).cons _
    | to m' => rw [List.map_cons, List.map_cons, hσ m m' e]; exact (renN_sub hσ l).cons_cons _
theorem goneS_to {ls : List Nm} {m m' : Nm} (h : goneS ls m = .to m') : m' = m := by
  unfold goneS at h
  cases e : ls.any (fun p => nmEq p m) with
  | true => rw [e] at h; cases h
  | false => rw [e] at h; cases h; rfl
theorem gone_sound (hI : Inv fr φ F s a w) (ls : List Nm) : ∃ φ', Inv fr φ' F (s.ren (goneS ls)) a w ∧ ∀ m m', φ m ≠ .absent → goneS ls m = .to m' → φ' m' = φ m :=
  hI.ren (goneS ls) ((renN_sub (fun m m' h => goneS_to h) s.nodes).nodup hI.uniq) (fun m m' cs _ h => .inl (goneS_to h)) (fun m m' h => .inl (goneS_to h))
/-- An object stays where it was when names are turned. -/
theorem obj_ren {σ : Nm → Sb} (hI : Inv fr φ F s a w) (hI' : Inv fr φ' F (s.ren σ) a w) (hσ : ∀ m m', φ m ≠ .absent → σ m = .to m' → φ' m' = φ m) (hobj : ∀ m m' cs, (m, .obj cs) ∈ s.nodes → σ m = .to m' → m' = m) {nm : Nm} {cs : List AVal} (hf : find nm (s.ren σ).nodes = some (.obj cs)) :
    ∃ cs0, find nm s.nodes = some (.obj cs0) ∧ φ' nm = φ nm := by
  obtain ⟨m, n, hm, e, e2⟩ := mem_renN.1 (find_mem hf)
  cases n with
  | obj cs0 =>
    have := hobj m nm cs0 hm e
    subst this
    refine ⟨cs0, mem_find hI.uniq hm, hσ nm nm ?_ e⟩
    obtain ⟨b, hb, _⟩ := hI.nd nm _ hm
    rw [hb]; simp
  | row => cases e2
  | iter => cases e2
  | dead => cases e2
theorem VRelL.ren1 {σ : Nm → Sb} (hσ : ∀ m m', φ m ≠ .absent → σ m = .to m' → φ' m' = φ m) {us : List AVal} {vs : List Value} (h : VRelL w φ F B us vs) : VRelL w φ' F B (us.map (·.ren1 σ)) vs := by
  refine ⟨by rw [List.length_map]; exact h.1, fun j c v hc hv => ?_⟩
  rw [List.getElem?_map, Option.map_eq_some_iff] at hc
  obtain ⟨c0, hc0, rfl⟩ := hc
  exact (h.2 j c0 v hc0 hv).ren1 hσ
theorem VRelL.mono {us : List AVal} {vs : List Value} {B' : Nat → Prop} (h : VRelL w φ F B us vs) (hK : Keeps F B w w') (hφ : Phi φ φ') (hF : ∀ k, F k → F' k) (hB : ∀ k, B k → B' k ∨ F' k) : VRelL w' φ' F' B' us vs :=
  ⟨h.1, fun j c v hc hv => (h.2 j c v hc hv).mono hK hφ hF hB⟩
theorem nilCells_length (nm : Nm) : ∀ (j : Nat) (us : List AVal), (nilCells nm j us).length = us.length
  | _, [] => rfl
  | j, u :: us => by cases u <;> simp [nilCells, nilCells_length nm (j + 1) us]
theorem upd_append {nm : Nm} {X : Node} : ∀ (l m : Nodes), (∀ p ∈ l, p.1 ≠ nm) → upd nm X (l ++ m) = l ++ upd nm X m
  | [], _, _ => rfl
  | (q, k) :: l, m, h => by
    have hq : nmEq q nm = false := nmEq_ne (h (q, k) List.mem_cons_self)
    rw [List.cons_append, upd, hq, cond_false, upd_append l m (fun p hp => h p (List.mem_cons_of_mem _ hp)), List.cons_append]
theorem find_append {nm : Nm} : ∀ (l m : Nodes), (∀ p ∈ l, p.1 ≠ nm) → find nm (l ++ m) = find nm m
  | [], _, _ => rfl
  | (q, k) :: l, m, h => by
    have hq : nmEq q nm = false := nmEq_ne (h (q, k) List.mem_cons_self)
    rw [List.cons_append, find, hq, cond_false, find_append l m (fun p hp => h p (List.mem_cons_of_mem _ hp))]
theorem nilNodes_ne (nm : Nm) : ∀ (j : Nat) (us : List AVal), ∀ p ∈ nilNodes nm j us, ∃ q, p.1 = q :: nm
  | _, [], p, hp => by simp [nilNodes] at hp
  | j, u :: us, p, hp => by
    have hr := nilNodes_ne nm (j + 1) us p
    cases u <;> simp only [nilNodes, List.mem_cons] at hp <;> first
      | exact hr hp
      | (rcases hp with rfl | hp
         · exact ⟨j, rfl⟩
         · exact hr hp)
theorem cons_ne_self (q : Nat) (nm : Nm) : q :: nm ≠ nm := fun h => by have := congrArg List.length h; simp at this
/-- Empty rows are laid under names that nothing has. -/
theorem addNil : ∀ (nn : Nodes) {φ : Nm → Loc} {s : St}, Inv fr φ F s a w → (∀ p ∈ nn, ∃ sh, p.2 = .row false sh [] ∧ 0 < szOf sh) → (∀ p ∈ nn, noneN (find p.1 s.nodes) = true ∧ okNm p.1 = true) → (nn.map (·.1)).Nodup →
    ∃ φ', Inv fr φ' F ⟨s.tmps, nn ++ s.nodes⟩ a w ∧ Phi φ φ' ∧ (∀ m, (∀ p ∈ nn, p.1 ≠ m) → φ' m = φ m) ∧ ∀ p ∈ nn, φ' p.1 = .at_ none 0
  | [], φ, s, hI, _, _, _ => ⟨φ, hI, Phi.refl _, fun _ _ => rfl, fun p hp => by simp at hp⟩
  | (q, n) :: nn, φ, s, hI, hr, hn, hu => by
    simp only [List.map_cons, List.nodup_cons] at hu
    obtain ⟨φ1, hI1, hφ1, ho1, ha1⟩ := addNil nn hI (fun p hp => hr p (List.mem_cons_of_mem _ hp)) (fun p hp => hn p (List.mem_cons_of_mem _ hp)) hu.2
    have hq : ∀ p ∈ nn, p.1 ≠ q := fun p hp e => hu.1 (List.mem_map.2 ⟨p, hp, e⟩)
    have hnone : find q (nn ++ s.nodes) = none := by
      rw [find_append nn s.nodes hq]
      have := (hn (q, n) List.mem_cons_self).1
      cases e : find q s.nodes with
      | none => rfl
      | some k => simp [e, noneN] at this
    obtain ⟨sh, rfl, hsz⟩ := hr (q, n) List.mem_cons_self
    obtain ⟨φ2, hI2, h1, h2, h3⟩ := hI1.new (nm := q) hnone (.row false sh []) (.at_ none 0) (T := fun _ => False) (Stp.refl _ _) (fun _ hf _ => hf.elim) (fun b k e => by cases e) (fun cs b k e => by cases e)
      (fun φ' _ hself _ => ⟨hsz, none, hself, fun _ => rfl, fun b e => by cases e⟩) (hn (q, _) List.mem_cons_self).2
    refine ⟨φ2, hI2, fun m hm => ?_, fun m hm => ?_, fun p hp => ?_⟩
    · rcases hφ1 m hm with e | e
      · rcases h3 m (by rw [e]; exact hm) with e' | e'
        · exact .inl (e'.trans e)
        · exact .inr e'
      · rcases h3 m (by rw [e]; simp) with e' | e'
        · exact .inr (e'.trans e)
        · exact .inr e'
    · rw [h2 m (fun e => hm (q, _) List.mem_cons_self e.symm), ho1 m (fun p hp => hm p (List.mem_cons_of_mem _ hp))]
    · rcases List.mem_cons.1 hp with rfl | hp
      · exact h1
      · rw [h2 p.1 (hq p hp)]; exact ha1 p hp
theorem nilNodes_row (nm : Nm) : ∀ (j : Nat) (us : List AVal), ∀ p ∈ nilNodes nm j us, ∃ sh, p.2 = .row false sh []
  | _, [], p, hp => by simp [nilNodes] at hp
  | j, u :: us, p, hp => by
    have hr := nilNodes_row nm (j + 1) us p
    cases u <;> simp only [nilNodes, List.mem_cons] at hp <;> first
      | exact hr hp
      | (rcases hp with rfl | hp
         · exact ⟨_, rfl⟩
         · exact hr hp)
theorem nilCells_rel {us : List AVal} {vs : List Value} (h : VRelL w φ F B us vs) (hφ : Phi φ φ') (nm : Nm) : ∀ (j : Nat), (∀ p ∈ nilNodes nm j us, φ' p.1 = .at_ none 0) → VRelL w φ' F B (nilCells nm j us) vs := by
  induction us generalizing vs with
  | nil =>
    intro j _
    have : vs = [] := List.eq_nil_of_length_eq_zero h.1.symm
    subst this
    exact .nil
  | cons u us ih =>
    intro j hp
    obtain ⟨v, vs', rfl, h1, h2⟩ := h.cons_inv
    have h1' := h1.mono (Keeps.refl F B w) hφ (fun _ hk => hk) (fun _ hk => .inl hk)
    cases h1 with
    | nil0 A => exact VRelL.cons.2 ⟨.osl (hp (_, _) List.mem_cons_self) (.inl ⟨A, rfl, rfl, Nat.zero_le _⟩), ih h2 (j + 1) (fun p hpp => hp p (List.mem_cons_of_mem _ hpp))⟩
    | _ => exact VRelL.cons.2 ⟨h1', ih h2 (j + 1) hp⟩
theorem nilCells_ok (nm : Nm) : ∀ (j : Nat) (us : List AVal), (∀ c ∈ us, c.cellOk) → ∀ c ∈ nilCells nm j us, c.cellOk
  | _, [], _, c, hc => by simp [nilCells] at hc
  | j, u :: us, h, c, hc => by
    have hr := nilCells_ok nm (j + 1) us (fun c hc => h c (List.mem_cons_of_mem _ hc)) c
    have hu := h u List.mem_cons_self
    cases u <;> simp only [nilCells, List.mem_cons] at hc <;> rcases hc with rfl | hc <;> first
      | exact hr hc
      | exact hu
      | trivial
/-- Cells are laid in an object. -/
theorem lay2_sound (hI : Inv fr φ F s a w) {nm : Nm} {j b k : Nat} {us : List AVal} {vs : List Value} {K : St → Option X} (h : s.lay2 nm j us K = some out) (hb : φ nm = .at_ (some b) k) (hus : VRelL w φ F fr.B us vs) (hok : ∀ c ∈ us, c.cellOk)
    (hs : Stp (fun i => i = b) w w') (hw' : WrB none w b → WrB none w' b) (hin : (us.all canSt = true) → ∀ (i : Nat) v, vs[i]? = some v → w'.cell? ⟨b, j + i, none⟩ = some v) (hout : ∀ i, ¬ (j ≤ i ∧ i < j + us.length) → w'.cell? ⟨b, i, none⟩ = w.cell? ⟨b, i, none⟩) :
    ∃ φ' s' k', K s' = some out ∧ Inv fr φ' F s' a w' ∧ φ' nm = .at_ (some b) k' := by
  unfold St.lay2 at h
  simp only at h
  split at h
  · next cs hf =>
    obtain ⟨h1, h2⟩ := grd_some h
    simp only [Bool.and_eq_true, List.all_eq_true] at h1
    obtain ⟨⟨⟨g1, g2⟩, g3⟩, g4⟩ := h1
    have g1 := Nat.le_of_ble_eq_true g1
    have hne : ∀ p ∈ nilNodes nm j us, p.1 ≠ nm := fun p hp e => by
      obtain ⟨q, hq⟩ := nilNodes_ne nm j us p hp
      exact cons_ne_self q nm (hq.symm.trans e)
    obtain ⟨φ1, hI1, hφ1, ho1, ha1⟩ := addNil (nilNodes nm j us) hI (fun p hp => by
      obtain ⟨sh, e⟩ := nilNodes_row nm j us p hp
      refine ⟨sh, e, ?_⟩
      have := (g3 p hp).1.2
      rw [e] at this
      exact Nat.le_of_ble_eq_true this) (fun p hp => ⟨(g3 p hp).1.1, (g3 p hp).2⟩) (nodupN_iff.1 g4)
    have hf1 : find nm (⟨s.tmps, nilNodes nm j us ++ s.nodes⟩ : St).nodes = some (.obj cs) := by
      show find nm (nilNodes nm j us ++ s.nodes) = _
      rw [find_append _ _ hne, hf]
    have hb1 : φ1 nm = .at_ (some b) k := (ho1 nm hne).trans hb
    obtain ⟨b', hb', hw, hl, hco, hc⟩ := hI1.nd nm _ (find_mem hf1)
    rw [hb1] at hb'
    cases hb'
    have hown := hI1.own nm _ b _ (find_mem hf1) rfl hb1
    have hK : Keeps F fr.B w w' := ⟨fun k hk => hs.block k (hI1.fb k (.inl hk)) (fun e => hown.1 (e ▸ hk)), fun k hk => hs.block k (hI1.fb k (.inr hk)) (fun e => hown.2.1 (e ▸ hk)), hs.bs⟩
    have hrel : VRelL w φ1 F fr.B (nilCells nm j us) vs := nilCells_rel hus hφ1 nm j ha1
    have hN : NRel w' φ1 F fr.B nm (.obj (splice cs j (nilCells nm j us))) := by
      refine NRel.objSet hb1 (hw' hw) (by rw [hs.bs b hw.1]; exact hl) hco (nilCells_ok nm j us hok) (by rw [nilCells_length]; exact g1) (hrel.mono hK (Phi.refl _) (fun _ hk => hk) (fun _ hk => .inl hk)) (hin (List.all_eq_true.2 g2)) (fun i c hci hni => ?_)
      rw [nilCells_length] at hni
      obtain ⟨v, hv, hr⟩ := hc i c hci
      exact ⟨v, (hout i hni).trans hv, hr.mono hK (Phi.refl _) (fun _ hk => hk) (fun _ hk => .inl hk)⟩
    have hI2 := hI1.setN (N := .obj (splice cs j (nilCells nm j us))) hf1 rfl rfl hb1 hs hN (fun cs' e => ⟨cs, rfl⟩)
    refine ⟨φ1, _, _, h2, ?_, hb1⟩
    have e : (⟨s.tmps, nilNodes nm j us ++ s.nodes⟩ : St).setN nm (.obj (splice cs j (nilCells nm j us))) = ⟨s.tmps, nilNodes nm j us ++ upd nm (.obj (splice cs j (nilCells nm j us))) s.nodes⟩ := by
      show St.mk _ (upd _ _ (_ ++ _)) = _
      rw [upd_append _ _ hne]
    rw [e] at hI2
    exact hI2.perm (insA_perm _ _)
  · cases h
theorem canSt_ren1 {σ : Nm → Sb} {c : AVal} (h : canSt (c.ren1 σ) = true) : canSt c = true := by
  cases c with
  | tup l => cases l <;> simp_all [canSt, AVal.ren1, AVal.ren0]
  | _ => simp_all [canSt, AVal.ren1, AVal.ren0]
theorem lay_sound (hI : Inv fr φ F s a w) {nm : Nm} {j b k : Nat} {cs us : List AVal} {vs : List Value} {K : St → Option X} (h : s.lay nm j us K = some out) (hf : find nm s.nodes = some (.obj cs)) (hb : φ nm = .at_ (some b) k) (hus : VRelL w φ F fr.B us vs) (hok : ∀ c ∈ us, c.cellOk)
    (hs : Stp (fun i => i = b) w w') (hw' : WrB none w b → WrB none w' b) (hin : (us.all canSt = true) → ∀ (i : Nat) v, vs[i]? = some v → w'.cell? ⟨b, j + i, none⟩ = some v) (hout : ∀ i, ¬ (j ≤ i ∧ i < j + us.length) → w'.cell? ⟨b, i, none⟩ = w.cell? ⟨b, i, none⟩) :
    ∃ φ' s' k', K s' = some out ∧ Inv fr φ' F s' a w' ∧ φ' nm = .at_ (some b) k' := by
  unfold St.lay at h
  obtain ⟨φ1, s1, h1, hI1, hσ1, rfl, hobj1⟩ := rebind_sound hI h
  simp only at h1
  have hus1 : VRelL w φ1 F fr.B (us.map (·.ren1 (rebind (adoptR nm j us)))) vs := hus.ren1 hσ1
  have hok1 : ∀ c ∈ us.map (·.ren1 (rebind (adoptR nm j us))), c.cellOk := fun c hc => by
    obtain ⟨c0, h0, rfl⟩ := List.mem_map.1 hc
    exact cellOk_ren1 (hok c0 h0)
  have hin1 : ∀ {σ : Nm → Sb} {l : List AVal}, (l.map (·.ren1 σ)).all canSt = true → l.all canSt = true := fun {σ l} hl => by
    rw [List.all_eq_true] at hl ⊢
    exact fun c hc => canSt_ren1 (hl _ (List.mem_map.2 ⟨c, hc, rfl⟩))
  -- the object is where it was
  have hat1 : ∀ {cs'}, find nm (bif sameR (adoptR nm j us) then s else s.ren (rebind (adoptR nm j us))).nodes = some (.obj cs') → φ1 nm = .at_ (some b) k := fun {cs'} hf' => by
    cases hsm : sameR (adoptR nm j us) with
    | true =>
      refine (hσ1 nm nm (by rw [hb]; simp) (rebind_same hsm nm)).trans hb
    | false =>
      rw [hsm] at hf' hI1
      obtain ⟨cs0, _, e⟩ := obj_ren hI hI1 hσ1 hobj1 hf'
      exact e.trans hb
  split at h1
  · have hf' : ∃ cs', find nm (bif sameR (adoptR nm j us) then s else s.ren (rebind (adoptR nm j us))).nodes = some (.obj cs') := by
      unfold St.lay2 at h1
      simp only at h1
      split at h1
      · next cs' e => exact ⟨cs', e⟩
      · cases h1
    obtain ⟨cs', hf'⟩ := hf'
    refine lay2_sound hI1 h1 (hat1 hf') hus1 hok1 hs hw' (fun hc => hin (hin1 hc)) (fun i hi => hout i (by rwa [List.length_map] at hi))
  · next nn hnn =>
    obtain ⟨φ2, hI2, hσ2⟩ := gone_sound hI1 ((nilNodes nm j (us.map (·.ren1 (rebind (adoptR nm j us))))).map (·.1))
    have hf' : ∃ cs', find nm ((bif sameR (adoptR nm j us) then s else s.ren (rebind (adoptR nm j us))).ren (goneS ((nilNodes nm j (us.map (·.ren1 (rebind (adoptR nm j us))))).map (·.1)))).nodes = some (.obj cs') := by
      unfold St.lay2 at h1
      simp only at h1
      split at h1
      · next cs' e => exact ⟨cs', e⟩
      · cases h1
    obtain ⟨cs', hf'⟩ := hf'
    obtain ⟨cs0, hf0, e0⟩ := obj_ren hI1 hI2 hσ2 (fun m m' cs _ h => goneS_to h) hf'
    refine lay2_sound hI2 h1 (e0.trans (hat1 hf0)) (hus1.ren1 hσ2) (fun c hc => ?_) hs hw' (fun hc => hin (hin1 (hin1 hc))) (fun i hi => hout i (by simpa using hi))
    obtain ⟨c0, h0, rfl⟩ := List.mem_map.1 hc
    exact cellOk_ren1 (hok1 c0 h0)
end
end Go.Proofs.YtlaojkheenobaaaDoorS
