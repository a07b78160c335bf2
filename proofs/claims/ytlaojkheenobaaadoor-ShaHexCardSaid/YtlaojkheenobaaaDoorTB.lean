/- Calls: what comes back. -/
import Derived.Test.YtlaojkheenobaaaDoorTA
namespace Go.Proofs.YtlaojkheenobaaaDoorS
open Go Go.RowKit
set_option linter.unusedVariables false
set_option linter.unusedSimpArgs false
section
variable {X : Type} {P : Program} {T : Tab} {fr : Fr} {φ φ' : Nm → Loc} {F F' B B' : Nat → Prop} {s : St} {a : Act} {w w' : World} {out : X}
theorem VRel.noB0 {x : AVal} {v : Value} (h : VRel w φ F B x v) (hn : noB0 x = true) (B' : Nat → Prop) : VRel w φ F B' x v := by
  cases h with
  | v h => exact .v h
  | @sl p sh xs v h =>
    have hp : p = true := hn
    subst hp
    exact .sl (h.mono (fun _ h => h) (fun k hk => hk.elim .inl (fun h => absurd h.1 (by simp))) (fun _ _ => rfl) (fun _ _ => rfl))
  | nil0 A => exact .nil0 A
  | oslD h A n c => exact .oslD h A n c
  | osl h h' => exact .osl h h'
  | ptrD h A => exact .ptrD h A
  | ptr h => exact .ptr h
  | bptr hb h => cases hn
  | agg hl ho h => cases hn
  | tup hl h => cases hn
  | fn hl h => cases hn
  | undef v => exact .undef v
theorem VRel.noB1 {x : AVal} {v : Value} (h : VRel w φ F B x v) (hn : noB1 x = true) (B' : Nat → Prop) : VRel w φ F B' x v := by
  unfold Go.Proofs.YtlaojkheenobaaaDoorS.noB1 at hn
  split at hn
  · next cs =>
    cases h with
    | agg hl ho hr =>
      rw [List.all_eq_true] at hn
      exact .agg hl ho (fun j c v hc hv => (hr j c v hc hv).noB0 (hn c (List.mem_of_getElem? hc)) B')
  · exact h.noB0 hn B'
theorem VRel.noB {x : AVal} {v : Value} (h : VRel w φ F B x v) (hn : noB x = true) (B' : Nat → Prop) : VRel w φ F B' x v := by
  unfold Go.Proofs.YtlaojkheenobaaaDoorS.noB at hn
  split at hn
  · next cs =>
    cases h with
    | tup hl hr =>
      rw [List.all_eq_true] at hn
      exact .tup hl (fun j c v hc hv => (hr j c v hc hv).noB1 (hn c (List.mem_of_getElem? hc)) B')
  · exact h.noB1 hn B'
theorem noBN_mem : ∀ {l : Nodes}, noBN l = true → ∀ c cs, (c, Node.obj cs) ∈ l → cs.all noB0 = true
  | [], _, c, cs, h => by simp at h
  | (m, n) :: l, hn, c, cs, h => by
    cases n with
    | row fz sh xs =>
      rcases List.mem_cons.1 h with e | h
      · cases e
      · exact noBN_mem (l := l) hn c cs h
    | dead =>
      rcases List.mem_cons.1 h with e | h
      · cases e
      · exact noBN_mem (l := l) hn c cs h
    | iter =>
      rcases List.mem_cons.1 h with e | h
      · cases e
      · exact noBN_mem (l := l) hn c cs h
    | obj ds =>
      have hn' : (ds.all noB0 && noBN l) = true := hn
      rw [Bool.and_eq_true] at hn'
      rcases List.mem_cons.1 h with e | h
      · cases e; exact hn'.1
      · exact noBN_mem hn'.2 c cs h
theorem NRel.noBN {nm : Nm} {n : Node} (h : NRel w φ F B nm n) (hn : ∀ cs, n = .obj cs → cs.all noB0 = true) (B' : Nat → Prop) : NRel w φ F B' nm n := by
  cases n with
  | row fz sh xs => exact h
  | iter => exact h
  | dead => exact h
  | obj cs =>
    obtain ⟨b, h1, h2, h3, ho, h4⟩ := h
    refine ⟨b, h1, h2, h3, ho, fun j c hc => ?_⟩
    obtain ⟨v, hv, hr⟩ := h4 j c hc
    have := hn cs rfl
    rw [List.all_eq_true] at this
    exact ⟨v, hv, hr.noB0 (this c (List.mem_of_getElem? hc)) B'⟩
theorem mem_newN {back bv : Nm → Sb} {ns : Nodes} {m : Nm} {n : Node} : ∀ {on : Nodes}, (m, n) ∈ newN back bv ns on ↔ ∃ c n0, (c, n0) ∈ on ∧ newS back ns c = .to m ∧ n = n0.ren bv
  | [] => by simp [newN]
  | (q, k) :: l => by
    unfold newN
    cases e : newS back ns q with
    | gone =>
      simp only [mem_newN (on := l), List.mem_cons, Prod.mk.injEq]
      constructor
      · rintro ⟨c, n0, h1, h2, h3⟩; exact ⟨c, n0, .inr h1, h2, h3⟩
      · rintro ⟨c, n0, h1 | h1, h2, h3⟩
        · rw [h1.1, e] at h2; cases h2
        · exact ⟨c, n0, h1, h2, h3⟩
    | to q' =>
      simp only [mem_newN (on := l), List.mem_cons, Prod.mk.injEq]
      constructor
      · rintro (h | ⟨c, n0, h1, h2, h3⟩)
        · exact ⟨q, k, .inl ⟨rfl, rfl⟩, by rw [e, h.1], h.2⟩
        · exact ⟨c, n0, .inr h1, h2, h3⟩
      · rintro ⟨c, n0, h1 | h1, h2, h3⟩
        · obtain ⟨rfl, rfl⟩ := h1
          rw [e] at h2
          cases h2
          exact .inl ⟨rfl, h3⟩
        · exact .inr ⟨c, n0, h1, h2, h3⟩
theorem newN_names {back bv : Nm → Sb} {ns : Nodes} : ∀ {on : Nodes}, (newN back bv ns on).map (·.1) = (renN (newS back ns) on).map (·.1)
  | [] => rfl
  | (q, k) :: l => by
    unfold newN renN
    cases newS back ns q with
    | gone => exact newN_names (on := l)
    | to q' => simp [newN_names (on := l)]
theorem mem_afterN {σ bv : Nm → Sb} {on : Nodes} {m : Nm} {n' : Node} : ∀ {ns : Nodes}, (m, n') ∈ afterN σ bv on ns ↔ ∃ n, (m, n) ∈ ns ∧ n' = after1 σ bv on m n
  | [] => by simp [afterN]
  | (q, k) :: l => by
    simp only [afterN, List.mem_cons, Prod.mk.injEq, mem_afterN (ns := l)]
    constructor
    · rintro (⟨rfl, rfl⟩ | ⟨n, h1, h2⟩)
      · exact ⟨k, .inl ⟨rfl, rfl⟩, rfl⟩
      · exact ⟨n, .inr h1, h2⟩
    · rintro ⟨n, ⟨rfl, rfl⟩ | h1, h2⟩
      · exact .inl ⟨rfl, h2⟩
      · exact .inr ⟨n, h1, h2⟩
theorem newS_to {back : Nm → Sb} {ns : Nodes} {c m : Nm} (h : newS back ns c = .to m) : back c = .to m ∧ find m ns = none := by
  unfold newS at h
  split at h
  · next m' e =>
    split at h
    · next hf => cases h; exact ⟨e, hf⟩
    · cases h
  · cases h
theorem isObjN_iff {o : Option Node} : isObjN o = true ↔ ∃ cs, o = some (.obj cs) := by
  unfold isObjN
  split <;> simp_all
theorem backV_to {σ back : Nm → Sb} {ns on : Nodes} {c m : Nm} (h : backV σ back ns on c = .to m) : (newS back ns c = .to m) ∨ (σ m = .to c ∧ (∃ cs, find m ns = some (.obj cs)) ∧ ∃ cs, find c on = some (.obj cs)) := by
  unfold backV at h
  split at h
  · next e => cases h; exact .inl e
  · split at h
    · next m' e =>
      split at h
      · next c' e' =>
        cases hb : (nmEq c c' && isObjN (find m' ns) && isObjN (find c on)) with
        | true =>
          rw [hb] at h
          cases h
          simp only [Bool.and_eq_true] at hb
          obtain ⟨⟨h1, h2⟩, h3⟩ := hb
          rw [nmEq_iff.1 h1]
          exact .inr ⟨e', isObjN_iff.1 h2, by rw [← nmEq_iff.1 h1]; exact isObjN_iff.1 h3⟩
        | false => rw [hb] at h; cases h
      · cases h
    · cases h
theorem smallObj_mem : ∀ {l : Nodes}, smallObj l = true → ∀ m cs, (m, Node.obj cs) ∈ l → m.getLastD 0 < 1000
  | [], _, m, cs, h => by simp at h
  | (q, n) :: l, hs, m, cs, h => by
    cases n with
    | row fz sh xs =>
      rcases List.mem_cons.1 h with e | h
      · cases e
      · exact smallObj_mem (l := l) hs m cs h
    | dead =>
      rcases List.mem_cons.1 h with e | h
      · cases e
      · exact smallObj_mem (l := l) hs m cs h
    | iter =>
      rcases List.mem_cons.1 h with e | h
      · cases e
      · exact smallObj_mem (l := l) hs m cs h
    | obj ds =>
      have hs' : (Nat.blt (q.getLastD 0) 1000 && smallObj l) = true := hs
      rw [Bool.and_eq_true] at hs'
      rcases List.mem_cons.1 h with e | h
      · cases e; exact Nat.le_of_ble_eq_true hs'.1
      · exact smallObj_mem hs'.2 m cs h
theorem rowBack_some {on : Nodes} {c : Nm} {n : Node} (h : rowBack on c = some n) : ∃ r fz sh xs, c = [r] ∧ 1000 ≤ r ∧ r < 2000 ∧ n = .row fz sh xs ∧ (c, n) ∈ on := by
  unfold rowBack at h
  split at h
  · next r =>
    cases e : okNm [r] with
    | true => rw [e] at h; cases h
    | false =>
      rw [e, cond_false] at h
      split at h
      · next fz sh xs hf =>
        cases h
        unfold okNm at e
        rw [Bool.or_eq_false_iff] at e
        refine ⟨r, fz, sh, xs, rfl, ?_, ?_, rfl, find_mem hf⟩
        · rcases Nat.lt_or_ge r 1000 with hl | hl
          · have := Nat.ble_eq_true_of_le (show r + 1 ≤ 1000 from hl)
            have h2 : Nat.blt r 1000 = true := this
            rw [h2] at e; cases e.1
          · exact hl
        · rcases Nat.lt_or_ge r 2000 with hl | hl
          · exact hl
          · rw [Nat.ble_eq_true_of_le hl] at e; cases e.2
      · cases h
  · cases h
theorem call_back (hFr : FrOk fr) (hI : Inv fr φ F s a w) {rs : List (Nm × Nm)} {φ2 : Nm → Loc} {o : Out} {v : Value} {back : Nm → Sb}
    (h2 : ∀ m m', φ m ≠ .absent → inS rs s.nodes m = .to m' → φ2 m' = φ m)
    (hC : Inv (calleeFr fr φ φ2 F rs s.nodes w) φ' F' ⟨[o.rv], o.nodes⟩ ⟨#[v], []⟩ w') (hrv : Go.Proofs.YtlaojkheenobaaaDoorS.noB o.rv = true) (hns : Go.Proofs.YtlaojkheenobaaaDoorS.noBN o.nodes = true)
    (hu : ((newN back (backV (inS rs s.nodes) back s.nodes o.nodes) s.nodes o.nodes ++ afterN (inS rs s.nodes) (backV (inS rs s.nodes) back s.nodes o.nodes) o.nodes s.nodes).map (·.1)).Nodup)
    (hsm : smallObj (newN back (backV (inS rs s.nodes) back s.nodes o.nodes) s.nodes o.nodes) = true) (hnn : (newN back (backV (inS rs s.nodes) back s.nodes o.nodes) s.nodes o.nodes).all (fun p => okNm p.1) = true) (hbk : ∀ c n, rowBack o.nodes c = some n → back c = .gone) :
    ∃ φ'', Inv fr φ'' F' ⟨s.tmps, newN back (backV (inS rs s.nodes) back s.nodes o.nodes) s.nodes o.nodes ++ afterN (inS rs s.nodes) (backV (inS rs s.nodes) back s.nodes o.nodes) o.nodes s.nodes⟩ a w' ∧
      VRel w' φ'' F' fr.B (o.rv.ren (backV (inS rs s.nodes) back s.nodes o.nodes)) v := by
  classical
  generalize hσdef : inS rs s.nodes = σ at *
  generalize hbv : backV σ back s.nodes o.nodes = bv at *
  have hbvt : ∀ {c m}, bv c = .to m → (newS back s.nodes c = .to m) ∨ (σ m = .to c ∧ (∃ cs, find m s.nodes = some (.obj cs)) ∧ ∃ cs, find c o.nodes = some (.obj cs)) := fun {c m} h => backV_to (hbv ▸ h)
  rw [List.map_append, List.nodup_append] at hu
  obtain ⟨hu1, hu2, hu3⟩ := hu
  obtain ⟨φn, hσn, hbackn, huniqn⟩ := ren_phi hC.dom_iff hC.uniq (newS back s.nodes) (by rw [← newN_names (bv := bv)]; exact hu1)
  have hbvr : ∀ c n, rowBack o.nodes c = some n → bv c = .gone := fun c n h => by
    rw [← hbv]
    unfold backV newS
    rw [hbk c n h]
  let survO : Nm → Nm → Prop := fun m c => bv c = .to m ∧ ∃ cs, find c o.nodes = some (.obj cs)
  let surv : Nm → Nm → Prop := fun m c => survO m c ∨ (∃ n, rowBack o.nodes c = some n) ∧ ∃ fz sh xs, (m, Node.row fz sh xs) ∈ s.nodes
  have rowIf : ∀ {m : Nm} {n k : Node} {c : Nm}, (m, n) ∈ s.nodes → (bif isRow n then rowBack o.nodes c else none) = some k → rowBack o.nodes c = some k ∧ ∃ fz sh xs, (m, Node.row fz sh xs) ∈ s.nodes := fun {m n k c} hn h => by
    cases n with
    | row fz sh xs => exact ⟨h, _, _, _, hn⟩
    | obj cs => cases h
    | iter => cases h
    | dead => cases h
  have rowNo : ∀ {m : Nm} {n : Node} {c : Nm}, (m, n) ∈ s.nodes → (bif isRow n then rowBack o.nodes c else none) = none → ¬ ((∃ n, rowBack o.nodes c = some n) ∧ ∃ fz sh xs, (m, Node.row fz sh xs) ∈ s.nodes) := fun {m n c} hn h ⟨⟨k, hk⟩, fz, sh, xs, hm⟩ => by
    have := mem_uniq hI.uniq hn hm
    subst this
    simp only [isRow, cond_true] at h
    rw [hk] at h
    cases h
  let φ'' : Nm → Loc := fun m => if ∃ n, (m, n) ∈ s.nodes then (match σ m with | .gone => φ m | .to c => if surv m c then φ' c else .dead) else φn m
  have hmem : ∀ {m : Nm} {n : Node}, find m s.nodes = some n → ∃ n, (m, n) ∈ s.nodes := fun h => ⟨_, find_mem h⟩
  have φgone : ∀ {m : Nm}, (∃ n, (m, n) ∈ s.nodes) → σ m = .gone → φ'' m = φ m := fun {m} hm e => by
    show (if _ then _ else _) = _
    rw [if_pos hm, e]
  have φto : ∀ {m c : Nm}, (∃ n, (m, n) ∈ s.nodes) → σ m = .to c → φ'' m = if surv m c then φ' c else .dead := fun {m c} hm e => by
    show (if _ then _ else _) = _
    rw [if_pos hm, e]
  have φnew : ∀ {m : Nm}, find m s.nodes = none → φ'' m = φn m := fun {m} hm => by
    show (if _ then _ else _) = _
    rw [if_neg]
    rintro ⟨n, hn⟩
    exact find_none hm n hn
  have hne : ∀ c n, (c, n) ∈ o.nodes → φ' c ≠ .absent := fun c n hc => (hC.dom_iff c).2 ⟨n, hc⟩
  -- values' names
  have V : ∀ c m, φ' c ≠ .absent → bv c = .to m → φ'' m = φ' c := fun c m hc hb => by
    rcases hbvt hb with h | ⟨h1, ⟨cs, h2⟩, h3⟩
    · rw [φnew (newS_to h).2, hσn c m hc h]
    · rw [φto (hmem h2) h1, if_pos (.inl ⟨hb, h3⟩)]
  -- an object that was handed over is where it was
  have hsurvO : ∀ m c, (∃ n, (m, n) ∈ s.nodes) → σ m = .to c → survO m c → φ' c = φ m ∧ ∃ cs, (m, Node.obj cs) ∈ s.nodes := fun m c hm e ⟨hb, cs, hf⟩ => by
    rcases hbvt hb with h | ⟨h1, ⟨cs0, h2'⟩, _⟩
    · obtain ⟨n, hn⟩ := hm
      exact absurd hn (find_none (newS_to h).2 n)
    · have hm0 := find_mem h2'
      have hmo := (hI.nd m _ hm0)
      obtain ⟨b, hb0, _⟩ := hmo
      have hφ2 := h2 m c (by rw [hb0]; simp) e
      have h0 : (calleeFr fr φ φ2 F rs s.nodes w).φ0 c = φ2 c := if_pos ⟨_, mem_renN.2 ⟨m, _, hm0, by rw [hσdef]; exact e, rfl⟩⟩
      obtain ⟨k', hk'⟩ := hC.obj c cs b 0 (find_mem hf) (by rw [h0, hφ2, hb0])
      obtain ⟨b', hb', _⟩ := hC.nd c _ (find_mem hf)
      rw [hk'] at hb'
      cases hb'
      exact ⟨by rw [hk', hb0], cs0, hm0⟩
  have hsurvR : ∀ m c n', (∃ n, (m, n) ∈ s.nodes) → σ m = .to c → rowBack o.nodes c = some n' → φ' c = φ m := fun m c n' hm e h => by
    obtain ⟨r, fz, sh, xs, rfl, h1, h2', rfl, hon⟩ := rowBack_some h
    exact (hC.rw_ r fz sh xs hon h1 h2').trans (h2 m [r] ((hI.dom_iff m).2 hm) e)
  have hsurv : ∀ m c, (∃ n, (m, n) ∈ s.nodes) → σ m = .to c → surv m c → φ' c = φ m := fun m c hm e h => by
    rcases h with h | ⟨⟨n', h⟩, _⟩
    · exact (hsurvO m c hm e h).1
    · exact hsurvR m c n' hm e h
  have hS : ∀ k, (calleeFr fr φ φ2 F rs s.nodes w).S0 k → ¬ F k ∧ ¬ fr.B k ∧ (fr.S0 k ∨ fr.w0.heap.size ≤ k) := fun k hk => by
    obtain ⟨m, n, c, hm, ho, ⟨j, hj⟩, _⟩ := hk
    exact hI.own m n k j hm ho hj
  have hFF : ∀ k, F k → F' k := hC.f0
  have hK : Keeps F fr.B w w' := ⟨fun k hk => hC.step.block k (hI.fb k (.inl hk)) (fun h => (hS k h).1 hk), fun k hk => hC.step.block k (hI.fb k (.inr hk)) (fun h => (hS k h).2.1 hk), hC.step.bs⟩
  have hφ : Phi φ φ'' := fun m hm => by
    have hm' := hI.dom m hm
    cases e : σ m with
    | gone => exact .inl (φgone hm' e)
    | to c =>
      rw [φto hm' e]
      by_cases hs : surv m c
      · rw [if_pos hs]; exact .inl (hsurv m c hm' e hs)
      · rw [if_neg hs]; exact .inr rfl
  -- own nodes behind the call
  have hafter : ∀ m n' b0 k0, (m, n') ∈ afterN σ bv o.nodes s.nodes → n'.own = true → φ'' m = .at_ (some b0) k0 → ∃ n, (m, n) ∈ s.nodes ∧ n.own = true ∧ φ'' m = φ m ∧ ((σ m = .gone ∧ n' = n) ∨ (∃ c cs, σ m = .to c ∧ φ' c = φ m ∧ bv c = .to m ∧ (c, Node.obj cs) ∈ o.nodes ∧ (∃ cs, n = .obj cs)) ∨ ∃ c, σ m = .to c ∧ φ' c = φ m ∧ rowBack o.nodes c = some n') := fun m n' b0 k0 hm ho hb0 => by
    obtain ⟨n, hn, rfl⟩ := mem_afterN.1 hm
    unfold after1 at ho ⊢
    cases e : σ m with
    | gone => rw [e] at ho; exact ⟨n, hn, ho, φgone ⟨n, hn⟩ e, .inl ⟨rfl, rfl⟩⟩
    | to c =>
      rw [e] at ho
      simp only at ho
      cases er' : (bif isRow n then rowBack o.nodes c else none) with
      | some k =>
        rw [er'] at ho
        simp only at ho
        obtain ⟨er, hrow⟩ := rowIf hn er'
        have h1 := hsurvR m c k ⟨n, hn⟩ e er
        have hφm : φ'' m = φ m := by rw [φto ⟨n, hn⟩ e, if_pos (.inr ⟨⟨k, er⟩, hrow⟩), h1]
        refine ⟨n, hn, ?_, hφm, .inr (.inr ⟨c, rfl, h1, by simp only [er']; exact er⟩)⟩
        cases hno : n.own with
        | true => rfl
        | false =>
          exfalso
          rw [hφm] at hb0
          have hF := (hI.nd m n hn).blk_own ⟨k0, hb0⟩ hno
          obtain ⟨r, fz, sh, xs, rfl, _, _, rfl, hon⟩ := rowBack_some er
          exact (hC.own [r] _ b0 k0 hon ho (h1.trans hb0)).1 (hC.f0 b0 hF)
      | none =>
      rw [er'] at ho
      simp only at ho
      cases eb : bv c with
      | gone => rw [eb] at ho; cases ho
      | to m' =>
        rw [eb] at ho
        simp only at ho
        cases em : nmEq m m' with
        | false => rw [em] at ho; cases ho
        | true =>
          rw [em] at ho
          have := nmEq_iff.1 em
          subst this
          simp only [cond_true] at ho
          split at ho
          · next cs hf =>
            have hs : survO m c := ⟨eb, cs, hf⟩
            obtain ⟨h1, cs0, h3⟩ := hsurvO m c ⟨n, hn⟩ e hs
            have := mem_uniq hI.uniq hn h3
            subst this
            refine ⟨_, hn, rfl, by rw [φto ⟨_, hn⟩ e, if_pos (.inl hs), h1], .inr (.inl ⟨c, cs, rfl, h1, eb, find_mem hf, cs0, rfl⟩)⟩
          · cases ho
  have hafterO : ∀ m cs, (m, Node.obj cs) ∈ afterN σ bv o.nodes s.nodes → φ'' m = φ m ∧ ∃ cs0, (m, Node.obj cs0) ∈ s.nodes := fun m cs hm => by
    obtain ⟨n, hn, hn'⟩ := mem_afterN.1 hm
    unfold after1 at hn'
    cases e : σ m with
    | gone => rw [e] at hn'; subst hn'; exact ⟨φgone ⟨_, hn⟩ e, cs, hn⟩
    | to c =>
      rw [e] at hn'
      simp only at hn'
      cases er : (bif isRow n then rowBack o.nodes c else none) with
      | some k =>
        rw [er] at hn'
        obtain ⟨r, fz, sh, xs, rfl, _, _, rfl, hon⟩ := rowBack_some (rowIf hn er).1
        cases hn'
      | none =>
      rw [er] at hn'
      simp only at hn'
      cases eb : bv c with
      | gone => rw [eb] at hn'; cases hn'
      | to m' =>
        rw [eb] at hn'
        simp only at hn'
        cases em : nmEq m m' with
        | false => rw [em] at hn'; cases hn'
        | true =>
          rw [em] at hn'
          have := nmEq_iff.1 em
          subst this
          simp only [cond_true] at hn'
          split at hn'
          · next cs1 hf =>
            have hs : survO m c := ⟨eb, cs1, hf⟩
            obtain ⟨h1, cs0, h3⟩ := hsurvO m c ⟨n, hn⟩ e hs
            exact ⟨by rw [φto ⟨_, hn⟩ e, if_pos (.inl hs), h1], cs0, h3⟩
          · cases hn'
  have hrestS : ∀ m n b k, (m, n) ∈ s.nodes → n.own = true → σ m = .gone → φ m = .at_ (some b) k → ¬ (calleeFr fr φ φ2 F rs s.nodes w).S0 b := fun m n b k hm ho e hb hs => by
    obtain ⟨m', n', c, hm', ho', ⟨j, hj⟩, e'⟩ := hs
    have := hI.sep m n m' n' b k j hm hm' ho ho' hb hj
    subst this
    rw [hσdef, e] at e'
    cases e'
  have hnewown : ∀ m n, (m, n) ∈ newN back bv s.nodes o.nodes → n.own = true → ∃ c n0, (c, n0) ∈ o.nodes ∧ n0.own = true ∧ newS back s.nodes c = .to m ∧ φ'' m = φ' c := fun m n hm ho => by
    obtain ⟨c, n0, hc, e, rfl⟩ := mem_newN.1 hm
    rw [Node.own_ren] at ho
    exact ⟨c, n0, hc, ho, e, by rw [φnew (newS_to e).2, hσn c m (hne c n0 hc) e]⟩
  have hnewblk : ∀ m n b k m1 n1 k1, (m, n) ∈ newN back bv s.nodes o.nodes → n.own = true → φ'' m = .at_ (some b) k → (m1, n1) ∈ afterN σ bv o.nodes s.nodes → n1.own = true → φ'' m1 = .at_ (some b) k1 → m = m1 := by
    intro m n b k m1 n1 k1 hm ho hb hm1 ho1 hb1
    obtain ⟨c, n0, hc, hco, e, hφc⟩ := hnewown m n hm ho
    obtain ⟨n2, hn2, ho2, hφ2, h3⟩ := hafter m1 n1 b k1 hm1 ho1 hb1
    rw [hφc] at hb
    rcases h3 with ⟨eg, rfl⟩ | ⟨c1, cs, e1, hφ1, hb1', hc1, _⟩ | ⟨c1, e1, hφ1, her⟩
    · rw [hφ2] at hb1
      obtain ⟨_, _, h5⟩ := hC.own c n0 b k hc hco hb
      rcases h5 with h5 | h5
      · exact absurd h5 (hrestS m1 _ b k1 hn2 ho2 eg hb1)
      · exact absurd ((hI.nd m1 _ hn2).block hb1) (Nat.not_lt.2 h5)
    · rw [hφ2, ← hφ1] at hb1
      have := hC.sep c n0 c1 _ b k k1 hc hc1 hco rfl hb hb1
      subst this
      rcases hbvt hb1' with h | ⟨h, ⟨cs', hf⟩, _⟩
      · rw [e] at h; cases h; rfl
      · exfalso
        have hbm : bv c = .to m := by rw [← hbv]; unfold backV; rw [e]
        rw [hbm] at hb1'
        cases hb1'
        exact absurd (find_mem hf) (find_none (newS_to e).2 _)
    · rw [hφ2, ← hφ1] at hb1
      have hbg := hbk c1 _ her
      obtain ⟨r, fz, sh, xs, rfl, _, _, rfl, hc1⟩ := rowBack_some her
      have := hC.sep c n0 [r] _ b k k1 hc hc1 hco ho1 hb hb1
      subst this
      rw [(newS_to e).1] at hbg
      cases hbg
  refine ⟨φ'', { len := hI.len, tm := fun t => (hI.tm t).mono hK hφ hFF (fun _ h => .inl h), nd := fun m n hm => ?_, dom := fun m hm => ?_, uniq := by rw [List.map_append, List.nodup_append]; exact ⟨hu1, hu2, hu3⟩, sep := ?_, own := ?_, fb := fun k hk => ?_, f0 := fun k hk => hFF k (hI.f0 k hk), fin := fun k hk => ?_, step := hI.step.trans hC.step (fun i hi _ => (hS i hi).2.2), obj := ?_, rw_ := ?_, defers := hI.defers }, ?_⟩
  · rcases List.mem_append.1 hm with hm | hm
    · obtain ⟨c, n0, hc, e, rfl⟩ := mem_newN.1 hm
      exact ((hC.nd c n0 hc).noBN (fun cs e => noBN_mem hns c cs (e ▸ hc)) fr.B).ren V (by rw [φnew (newS_to e).2, hσn c m (hne c n0 hc) e])
    · obtain ⟨n0, hn0, rfl⟩ := mem_afterN.1 hm
      unfold after1
      cases e : σ m with
      | gone =>
        refine (hI.nd m n0 hn0).mono hK hφ (φgone ⟨n0, hn0⟩ e) (fun b k hb => ?_) hFF
        have hlt := (hI.nd m n0 hn0).block hb
        refine hC.step.block b hlt (fun hs => ?_)
        cases ho : n0.own with
        | true => exact hrestS m n0 b k hn0 ho e hb hs
        | false => exact (hS b hs).1 ((hI.nd m n0 hn0).blk_own ⟨k, hb⟩ ho)
      | to c =>
        have hdead : ¬ surv m c → NRel w' φ'' F' fr.B m .dead := fun hs => by
          show φ'' m = .dead
          rw [φto ⟨n0, hn0⟩ e, if_neg hs]
        simp only
        cases er' : (bif isRow n0 then rowBack o.nodes c else none) with
        | some k =>
          simp only
          obtain ⟨er, hrow⟩ := rowIf hn0 er'
          have h1 := hsurvR m c k ⟨n0, hn0⟩ e er
          obtain ⟨r, fz, sh, xs, rfl, _, _, rfl, hon⟩ := rowBack_some er
          have hr := (hC.nd [r] _ hon).noBN (fun cs e => by cases e) fr.B
          exact hr.ren (σ := fun _ => .gone) (nm' := m) (φ' := φ'') (fun m m' _ h => by cases h) (by rw [φto ⟨n0, hn0⟩ e, if_pos (.inr ⟨⟨_, er⟩, hrow⟩)])
        | none =>
        simp only
        have hnr := rowNo hn0 er'
        cases eb : bv c with
        | gone => exact hdead (fun hs => by have h1 := (hs.resolve_right hnr).1; rw [eb] at h1; cases h1)
        | to m' =>
          simp only
          cases em : nmEq m m' with
          | false => exact hdead (fun hs => by have h1 := (hs.resolve_right hnr).1; rw [eb] at h1; cases h1; rw [nmEq_refl] at em; cases em)
          | true =>
            have := nmEq_iff.1 em
            subst this
            simp only [cond_true]
            split
            · next cs hf =>
              have hc := find_mem hf
              exact ((hC.nd c _ hc).noBN (fun cs e => noBN_mem hns c cs (e ▸ hc)) fr.B).ren (n := .obj cs) V (V c m (hne c _ hc) eb)
            · next hno => exact hdead (fun hs => by obtain ⟨_, cs, hf⟩ := hs.resolve_right hnr; exact hno cs hf)
  · by_cases hx : ∃ n, (m, n) ∈ s.nodes
    · obtain ⟨n, hn⟩ := hx
      exact ⟨_, List.mem_append_right _ (mem_afterN.2 ⟨n, hn, rfl⟩)⟩
    · have : φ'' m = φn m := if_neg hx
      rw [this] at hm
      obtain ⟨c, h1, h2', _⟩ := hbackn m hm
      obtain ⟨n, hn⟩ := hC.dom c h1
      exact ⟨_, List.mem_append_left _ (mem_newN.2 ⟨c, n, hn, h2', rfl⟩)⟩
  · intro m n m1 n1 b k k1 hm hm1 ho ho1 hb hb1
    rcases List.mem_append.1 hm with hm | hm <;> rcases List.mem_append.1 hm1 with hm1 | hm1
    · obtain ⟨c, n0, hc, hco, e, hφc⟩ := hnewown m n hm ho
      obtain ⟨c1, n10, hc1, hco1, e1, hφc1⟩ := hnewown m1 n1 hm1 ho1
      rw [hφc] at hb
      rw [hφc1] at hb1
      have := hC.sep c n0 c1 n10 b k k1 hc hc1 hco hco1 hb hb1
      subst this
      rw [e] at e1
      cases e1
      rfl
    · exact hnewblk m n b k m1 n1 k1 hm ho hb hm1 ho1 hb1
    · exact (hnewblk m1 n1 b k1 m n k hm1 ho1 hb1 hm ho hb).symm
    · obtain ⟨n2, hn2, ho2, hφ2, _⟩ := hafter m n b k hm ho hb
      obtain ⟨n3, hn3, ho3, hφ3, _⟩ := hafter m1 n1 b k1 hm1 ho1 hb1
      rw [hφ2] at hb
      rw [hφ3] at hb1
      exact hI.sep m n2 m1 n3 b k k1 hn2 hn3 ho2 ho3 hb hb1
  · intro m n b k hm ho hb
    rcases List.mem_append.1 hm with hm | hm
    · obtain ⟨c, n0, hc, hco, e, hφc⟩ := hnewown m n hm ho
      rw [hφc] at hb
      obtain ⟨h1, h2', h3⟩ := hC.own c n0 b k hc hco hb
      refine ⟨h1, fun hB => h2' (.inl hB), ?_⟩
      rcases h3 with h3 | h3
      · exact (hS b h3).2.2
      · exact .inr (Nat.le_trans hI.step.size h3)
    · obtain ⟨n2, hn2, ho2, hφ2, h3⟩ := hafter m n b k hm ho hb
      have hb' := hb
      rw [hφ2] at hb'
      obtain ⟨h4, h5, h6⟩ := hI.own m n2 b k hn2 ho2 hb'
      refine ⟨fun hf => ?_, h5, h6⟩
      rcases h3 with ⟨eg, rfl⟩ | ⟨c, cs, e1, hφ1, hb1', hc1, _⟩ | ⟨c, e1, hφ1, her⟩
      · rcases hC.fin b hf with h | h | h
        · exact h4 h
        · exact hrestS m _ b k hn2 ho2 eg hb' h
        · exact absurd ((hI.nd m _ hn2).block hb') (Nat.not_lt.2 h)
      · exact (hC.own c _ b k hc1 rfl (by rw [hφ1]; exact hb')).1 hf
      · obtain ⟨r, fz, sh, xs, rfl, _, _, rfl, hc1⟩ := rowBack_some her
        exact (hC.own [r] _ b k hc1 ho (by rw [hφ1]; exact hb')).1 hf
  · rcases hk with hk | hk
    · exact hC.fb k (.inl hk)
    · exact Nat.lt_of_lt_of_le (hI.fb k (.inr hk)) hC.step.size
  · rcases hC.fin k hk with h | h | h
    · exact hI.fin k h
    · exact .inr (hS k h).2.2
    · exact .inr (.inr (Nat.le_trans hI.step.size h))
  · intro m cs b k hm hb
    rcases List.mem_append.1 hm with hm | hm
    · have h1 := smallObj_mem hsm m cs hm
      have h2' := hFr.nm m (by rw [hb]; simp)
      omega
    · obtain ⟨h1, cs0, h2'⟩ := hafterO m cs hm
      rw [h1]
      exact hI.obj m cs0 b k h2' hb
  · intro r fz sh xs hm h1 h2'
    rcases List.mem_append.1 hm with hm | hm
    · have := List.all_eq_true.1 hnn _ hm
      rcases okNm_one this with h | h <;> omega
    · obtain ⟨n, hn, hn'⟩ := mem_afterN.1 hm
      unfold after1 at hn'
      cases e : σ [r] with
      | gone =>
        rw [e] at hn'
        subst hn'
        rw [φgone ⟨_, hn⟩ e]
        exact hI.rw_ r fz sh xs hn h1 h2'
      | to c =>
        rw [e] at hn'
        simp only at hn'
        cases er' : (bif isRow n then rowBack o.nodes c else none) with
        | some k =>
          obtain ⟨er, fz', sh', xs', hrow⟩ := rowIf hn er'
          rw [φto ⟨_, hn⟩ e, if_pos (.inr ⟨⟨k, er⟩, _, _, _, hrow⟩), hsurvR [r] c k ⟨n, hn⟩ e er]
          exact hI.rw_ r fz' sh' xs' hrow h1 h2'
        | none =>
          rw [er'] at hn'
          simp only at hn'
          split at hn'
          · cases hn'
          · cases hm' : nmEq [r] _ with
            | false => rw [hm'] at hn'; cases hn'
            | true => rw [hm'] at hn'; simp only [cond_true] at hn'; split at hn' <;> cases hn'
  · have := hC.tm 0
    exact (this.noB hrv fr.B).ren V
end
end Go.Proofs.YtlaojkheenobaaaDoorS
