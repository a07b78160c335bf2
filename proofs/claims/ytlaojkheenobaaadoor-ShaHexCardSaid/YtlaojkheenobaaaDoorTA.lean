/- Calls: what is handed over, and what comes back. -/
import Derived.Test.YtlaojkheenobaaaDoorSZ
namespace Go.Proofs.YtlaojkheenobaaaDoorS
open Go Go.RowKit
set_option linter.unusedVariables false
set_option linter.unusedSimpArgs false
/-- What a function's answer says of its calls. -/
def FnOk (P : Program) (f : FuncId) (args : List AVal) (ns : Nodes) (o : Out) : Prop :=
  noB o.rv = true ∧ noBN o.nodes = true ∧ ∀ (fr : Fr) (φ : Nm → Loc) (F : Nat → Prop) (w : World) (vs : List Value), fr.w0 = w → FrOk fr → Inv fr φ F ⟨args, ns⟩ ⟨vs.toArray, []⟩ w →
    Calls P f vs.toArray w fun e w' => ∃ v, e = .returned v ∧ ∃ φ' F', Inv fr φ' F' ⟨[o.rv], o.nodes⟩ ⟨#[v], []⟩ w'
/-- A call comes to an end: a function of the program is entered, another one answers at once. -/
def CallsX (P : Program) (f : FuncId) (args : Array Value) (w : World) (R : Ending → World → Prop) : Prop :=
  ((∀ args w, (callFunc f args).run P w = .ok (.enter f args) w) ∧ Calls P f args w R) ∨ ∃ v w', (callFunc f args).run P w = .ok (.value v) w' ∧ R (.returned v) w'
theorem CallsX.mono {P : Program} {f : FuncId} {args : Array Value} {w : World} {R R' : Ending → World → Prop} (h : CallsX P f args w R) (hr : ∀ e w', R e w' → R' e w') : CallsX P f args w R' := by
  rcases h with ⟨h1, h2⟩ | ⟨v, w', h1, h2⟩
  · exact .inl ⟨h1, h2.mono fun e w' h => hr e w' h⟩
  · exact .inr ⟨v, w', h1, hr _ _ h2⟩
/-- What the answer says of its calls, of any function. -/
def FnOkX (P : Program) (f : FuncId) (args : List AVal) (ns : Nodes) (o : Out) : Prop :=
  noB o.rv = true ∧ noBN o.nodes = true ∧ ∀ (fr : Fr) (φ : Nm → Loc) (F : Nat → Prop) (w : World) (vs : List Value), fr.w0 = w → FrOk fr → Inv fr φ F ⟨args, ns⟩ ⟨vs.toArray, []⟩ w →
    CallsX P f vs.toArray w fun e w' => ∃ v, e = .returned v ∧ ∃ φ' F', Inv fr φ' F' ⟨[o.rv], o.nodes⟩ ⟨#[v], []⟩ w'
theorem FnOk.toX {P : Program} {f : FuncId} {args : List AVal} {ns : Nodes} {o : Out} (h : FnOk P f args ns o) (he : ∀ args w, (callFunc f args).run P w = .ok (.enter f args) w) : FnOkX P f args ns o :=
  ⟨h.1, h.2.1, fun fr φ F w vs h1 h2 h3 => .inl ⟨he, h.2.2 fr φ F w vs h1 h2 h3⟩⟩
theorem FnOkX.fn {P : Program} {f : FuncId} {args : List AVal} {ns : Nodes} {o : Out} (h : FnOkX P f args ns o) (he : ∀ args w, (callFunc f args).run P w = .ok (.enter f args) w) : FnOk P f args ns o :=
  ⟨h.1, h.2.1, fun fr φ F w vs h1 h2 h3 => by
    rcases h.2.2 fr φ F w vs h1 h2 h3 with ⟨_, h4⟩ | ⟨v, w', h4, _⟩
    · exact h4
    · rw [he] at h4; cases h4⟩
section
variable {X : Type} {P : Program} {T : Tab} {fr : Fr} {φ φ' : Nm → Loc} {F F' B B' : Nat → Prop} {s : St} {a : Act} {w w' : World} {out : X}
theorem closed0_nil {x : AVal} {c : CV} {v : Value} (h : closed0 [] x = some c) (hx : VRel w φ F B x v) : CRel w F c v ∧ (x.cellOk → c.isAgg = false) := by
  unfold closed0 at h
  split at h
  · cases h; cases hx with | v h => exact ⟨h, fun h => h⟩
  · cases h
    cases hx with
    | sl h => exact ⟨(h.mono (F' := F) (G' := F) (fun _ h => h) (fun k hk => hk.elim id (fun h => absurd h.1 (by simp))) (fun _ _ => rfl) (fun _ _ => rfl)).toC, fun _ => rfl⟩
  · cases h; cases hx with | nil0 A => exact ⟨.slc0 _ _ _, fun _ => rfl⟩
  · simp [osC, find] at h
  · cases h
theorem closedL_nil : ∀ {xs : List AVal} {cs : List CV} {vs : List Value}, closedL [] xs = some cs → VRelL w φ F B xs vs → (∀ c ∈ xs, c.cellOk) → cs.length = vs.length ∧ (∀ c ∈ cs, c.isAgg = false) ∧ ∀ (j : Nat) c v, cs[j]? = some c → vs[j]? = some v → CRel w F c v
  | [], cs, vs, h, hx, _ => by
    cases h
    have : vs = [] := List.eq_nil_of_length_eq_zero hx.1.symm
    subst this
    exact ⟨rfl, fun c hc => by simp at hc, fun j c v hc => by simp at hc⟩
  | x :: xs, cs, vs, h, hx, ho => by
    unfold closedL at h
    split at h
    · next c e =>
      split at h
      · next cs' e' =>
        cases h
        obtain ⟨v, vs', rfl, h1, h2⟩ := hx.cons_inv
        obtain ⟨g1, g2, g3⟩ := closedL_nil e' h2 (fun c hc => ho c (List.mem_cons_of_mem _ hc))
        obtain ⟨k1, k2⟩ := closed0_nil e h1
        refine ⟨by simp [g1], fun c' hc => ?_, fun j c' v' hc hv => ?_⟩
        · rcases List.mem_cons.1 hc with rfl | hc
          · exact k2 (ho x List.mem_cons_self)
          · exact g2 c' hc
        · cases j with
          | zero => simp at hc hv; subst hc hv; exact k1
          | succ j => exact g3 j c' v' (by simpa using hc) (by simpa using hv)
      · cases h
    · cases h
theorem VRel.B_mono {x : AVal} {v : Value} (h : VRel w φ F B x v) (hB : ∀ k, B k → B' k) : VRel w φ F B' x v := h.mono (Keeps.refl F B w) (Phi.refl φ) (fun _ h => h) (fun k hk => .inl (hB k hk))
/-- The blocks that a call may read beside what is only read anyway. -/
def LentB (fr : Fr) (φ : Nm → Loc) (rs : List (Nm × Nm)) (ns : Nodes) (k : Nat) : Prop := fr.B k ∨ ∃ m n, (m, n) ∈ ns ∧ passedN rs m = none ∧ BlkOf φ m k
theorem lend0_sound (hI : Inv fr φ F s a w) {rs : List (Nm × Nm)} {x : AVal} {v : Value} (h : VRel w φ F fr.B x v) : VRel w φ F (LentB fr φ rs s.nodes) (lend0 rs s.nodes x) v := by
  have h' : VRel w φ F (LentB fr φ rs s.nodes) x v := h.B_mono (fun k hk => .inl hk)
  unfold lend0
  split
  · next nm sh off len =>
    split
    · exact .undef v
    · next hp =>
      split
      · next fz ys e =>
        obtain ⟨hr, hz, xs, hf, _⟩ := osC_spec hI e h
        refine .sl (hr.mono (F' := F) (fun _ h => h) (fun k hk => ?_) (fun _ _ => rfl) (fun _ _ => rfl))
        cases fz with
        | true => exact .inl (hz rfl k hk)
        | false => exact .inr ⟨rfl, .inr ⟨nm, _, find_mem hf, hp, hk⟩⟩
      · exact .undef v
  · cases h' with | nil0 A => exact .sl ⟨A, 0, rfl, Nat.le_refl _, fun h => absurd h (Nat.lt_irrefl _)⟩
  · exact .undef v
  · exact .undef v
  · exact .undef v
  · exact h'
theorem nth_get : ∀ {l : List AVal} {j : Nat}, j < l.length → l[j]? = some (nth l j)
  | [], j, h => by simp at h
  | x :: l, 0, _ => rfl
  | x :: l, j + 1, h => by simpa [nth] using nth_get (l := l) (j := j) (by simpa using h)
theorem nth_out : ∀ {l : List AVal} {j : Nat}, l.length ≤ j → nth l j = .undef
  | [], j, h => rfl
  | x :: l, 0, h => by simp at h
  | x :: l, j + 1, h => by simpa [nth] using nth_out (l := l) (j := j) (by simpa using h)
theorem cap0_sound (hI : Inv fr φ F s a w) {rs : List (Nm × Nm)} {x : AVal} {v : Value} (h : VRel w φ F fr.B x v) : VRel w φ F (LentB fr φ rs s.nodes) (cap0 rs s.nodes x) v := by
  have h' : VRel w φ F (LentB fr φ rs s.nodes) x v := h.B_mono (fun k hk => .inl hk)
  unfold cap0
  split
  · next nm sz i j =>
    split
    · exact .undef v
    · next hp =>
      split
      · next cs hf =>
        cases e0 : Nat.beq sz 0 with
        | false => exact .undef v
        | true =>
          have e0 := Nat.eq_of_beq_eq_true e0
          simp only [cond_true]
          split
          · next c hc =>
            cases ea : c.isAgg with
            | true => exact .undef v
            | false =>
              obtain ⟨b, hb, hw, hl, ho, hcc⟩ := hI.nd nm _ (find_mem hf)
              have hj : j < cs.length := by
                rcases Nat.lt_or_ge j cs.length with hj | hj
                · exact hj
                · rw [nth_out hj] at hc; cases hc
              have := nth_get hj
              rw [hc] at this
              obtain ⟨u, hu, hr⟩ := hcc j _ this
              cases hr with | v hr =>
              cases h with
              | ptrD hd => rw [hb] at hd; cases hd
              | ptr hpp =>
                rw [hb] at hpp
                cases hpp
                rw [e0, Nat.mul_zero, Nat.zero_add]
                exact .bptr (o := j) (j := 0) (.inr (.inr ⟨nm, _, find_mem hf, hp, 0, hb⟩)) ⟨u, hu, hr, ea⟩
          · next sh xs hc =>
            obtain ⟨b, hb, hw, hl, ho, hcc⟩ := hI.nd nm _ (find_mem hf)
            have hj : j < cs.length := by
              rcases Nat.lt_or_ge j cs.length with hj | hj
              · exact hj
              · rw [nth_out hj] at hc; cases hc
            have := nth_get hj
            rw [hc] at this
            obtain ⟨u, hu, hr⟩ := hcc j _ this
            cases hr with | sl hr =>
            have hr : CRel w F (.slc sh xs) u := (hr.mono (F' := F) (G' := F) (fun _ h => h) (fun k hk => hk.elim id (fun h => absurd h.1 (by simp))) (fun _ _ => rfl) (fun _ _ => rfl)).toC
            have ea : (CV.slc sh xs).isAgg = false := rfl
            cases h with
            | ptrD hd => rw [hb] at hd; cases hd
            | ptr hpp =>
              rw [hb] at hpp
              cases hpp
              rw [e0, Nat.mul_zero, Nat.zero_add]
              exact .bptr (o := j) (j := 0) (.inr (.inr ⟨nm, _, find_mem hf, hp, 0, hb⟩)) ⟨u, hu, hr, ea⟩
          · exact .undef v
      · exact .undef v
  all_goals first | exact .undef v | exact h'
theorem lend1_sound (hI : Inv fr φ F s a w) {rs : List (Nm × Nm)} {x : AVal} {v : Value} (h : VRel w φ F fr.B x v) : VRel w φ F (LentB fr φ rs s.nodes) (lend1 rs s.nodes x) v := by
  unfold lend1
  split
  · next cs =>
    cases h with
    | @agg _ vs hl ho hr =>
      have h1 : VRelL w φ F (LentB fr φ rs s.nodes) (cs.map (lend0 rs s.nodes)) vs := by
        refine ⟨by rw [List.length_map]; exact hl, fun j c v hc hv => ?_⟩
        rw [List.getElem?_map, Option.map_eq_some_iff] at hc
        obtain ⟨c0, hc0, rfl⟩ := hc
        exact lend0_sound hI (hr j c0 v hc0 hv)
      have h2 : ∀ c ∈ cs.map (lend0 rs s.nodes), c.cellOk := fun c hc => by
        obtain ⟨c0, h0, rfl⟩ := List.mem_map.1 hc
        have := ho c0 h0
        cases c0 with
        | osl nm sh off len =>
          simp only [lend0]
          split
          · trivial
          · split <;> trivial
        | v c => cases c <;> first | trivial | exact this
        | agg l => trivial
        | tup l => trivial
        | _ => trivial
      unfold packAgg
      split
      · next ds e =>
        obtain ⟨g1, g2, g3⟩ := closedL_nil e h1 h2
        exact .v (.agg g1 g2 g3)
      · exact .agg h1.1 h2 h1.2
  · next g cs =>
    cases h with
    | @fn _ _ vs hl hr =>
      refine .fn (by rw [List.length_map]; exact hl) (fun j c v hc hv => ?_)
      rw [List.getElem?_map, Option.map_eq_some_iff] at hc
      obtain ⟨c0, hc0, rfl⟩ := hc
      exact cap0_sound hI (hr j c0 v hc0 hv)
  · exact lend0_sound hI h
theorem unP_sound {m : Nat} {x : AVal} {v : Value} (h : VRel w φ F B x v) : VRel w φ F B (unP m x) v := by
  unfold unP
  split
  · next p sh xs =>
    cases h with
    | sl h =>
      refine .sl (h.mono (F' := F) (fun _ h => h) (fun k hk => ?_) (fun _ _ => rfl) (fun _ _ => rfl))
      rcases hk with hk | ⟨hp, hk⟩
      · exact .inl hk
      · exact .inr ⟨by rw [hp]; rfl, hk⟩
  · exact h
theorem lendAll_sound (hI : Inv fr φ F s a w) {rs : List (Nm × Nm)} {md : Nat → Nat} : ∀ (i : Nat) (xs : List AVal) (vs : List Value), VRelL w φ F fr.B xs vs → VRelL w φ F (LentB fr φ rs s.nodes) (lendAll md rs s.nodes i xs) vs
  | _, [], vs, h => by
    have : vs = [] := List.eq_nil_of_length_eq_zero h.1.symm
    subst this
    exact .nil
  | i, x :: xs, vs, h => by
    obtain ⟨v, vs', rfl, h1, h2⟩ := h.cons_inv
    refine VRelL.cons.2 ⟨?_, lendAll_sound hI (i + 1) xs vs' h2⟩
    cases Nat.beq (md i) 2 with
    | true => exact h1.B_mono (fun k hk => .inl hk)
    | false => exact unP_sound (lend1_sound hI h1)
theorem mem_sortN {q : Nm × Node} : ∀ {l : Nodes}, q ∈ sortN l ↔ q ∈ l
  | [] => by simp [sortN]
  | p :: l => by rw [sortN, mem_insN, mem_sortN (l := l), List.mem_cons]
theorem sortN_perm : ∀ l : Nodes, List.Perm (sortN l) l
  | [] => .refl _
  | p :: l => (insN_perm p (sortN l)).trans ((sortN_perm l).cons p)
theorem sortN_nodup {l : Nodes} : ((sortN l).map (·.1)).Nodup ↔ (l.map (·.1)).Nodup := ((sortN_perm l).map _).nodup_iff
theorem NRel.B_mono {nm : Nm} {n : Node} (h : NRel w φ F B nm n) (hB : ∀ k, B k → B' k) : NRel w φ F B' nm n := by
  cases n with
  | row fz sh xs => exact h
  | obj cs =>
    obtain ⟨b, h1, h2, h3, ho, h4⟩ := h
    refine ⟨b, h1, h2, h3, ho, fun j c hc => ?_⟩
    obtain ⟨v, hv, hr⟩ := h4 j c hc
    exact ⟨v, hv, hr.B_mono hB⟩
  | iter => exact h
  | dead => exact h
theorem inS_to {rs : List (Nm × Nm)} {ns : Nodes} {m c : Nm} (h : inS rs ns m = .to c) : passedN rs m = some c ∧ find m ns ≠ some .dead := by
  unfold inS at h
  split at h
  · cases h
  · next hn =>
    refine ⟨by unfold passedN; rw [h], fun e => ?_⟩
    exact hn e
theorem VRelL.tm {l : List AVal} {vs : List Value} (h : VRelL w φ F B l vs) (t : Nat) : VRel w φ F B (nth l t) (vs.toArray.getD t undef) := by
  rcases Nat.lt_or_ge t l.length with ht | ht
  · have h1 := nth_get ht
    have ht' : t < vs.length := by rw [← h.1]; exact ht
    have h2 : vs[t]? = some vs[t] := List.getElem?_eq_getElem ht'
    have := h.2 t _ _ h1 h2
    have e : vs.toArray.getD t undef = vs[t] := by
      rw [Array.getD_eq_getD_getElem?]
      simp [ht']
    rw [e]; exact this
  · rw [nth_out ht]; exact .undef _
/-- The callee's own frame. -/
noncomputable def calleeFr (fr : Fr) (φ φ2 : Nm → Loc) (F : Nat → Prop) (rs : List (Nm × Nm)) (ns : Nodes) (w : World) : Fr where
  w0 := w
  S0 := fun k => ∃ m n c, (m, n) ∈ ns ∧ n.own = true ∧ BlkOf φ m k ∧ inS rs ns m = .to c
  B := LentB fr φ rs ns
  F0 := F
  φ0 := fun c => open Classical in if ∃ cs, (c, Node.obj cs) ∈ renN (inS rs ns) ns then φ2 c else .absent
  ψ0 := fun r => φ2 [r]
theorem Inv.globCall (hI : Inv fr φ F s a w) (hF : FrOk fr) {φ2 : Nm → Loc} {rs : List (Nm × Nm)} : GlobOk (calleeFr fr φ φ2 F rs s.nodes w).B (calleeFr fr φ φ2 F rs s.nodes w).F0 (calleeFr fr φ φ2 F rs s.nodes w).S0 w := fun g n cs e => by
  obtain ⟨h1, h2⟩ := hI.glob hF e
  refine ⟨h1.elim .inr (fun h => .inl (.inl h)), fun ⟨m, n, c, hm, ho, ⟨k, hb⟩, _⟩ => ?_, hI.fb g h1, h2⟩
  obtain ⟨h3, h4, _⟩ := hI.own m n g k hm ho hb
  exact h1.elim h3 h4
theorem NRel.blk_own {nm : Nm} {n : Node} {k : Nat} (h : NRel w φ F B nm n) (hb : BlkOf φ nm k) (hn : n.own = false) : F k := by
  obtain ⟨j, hb⟩ := hb
  cases n with
  | row fz sh xs =>
    obtain ⟨_, blk, h1, _, h3⟩ := h
    rw [hb] at h1
    cases h1
    simp only [Node.own, Bool.not_eq_false'] at hn
    exact (h3 k rfl).2.1 hn
  | obj cs => cases hn
  | iter => cases hn
  | dead => rw [NRel, hb] at h; cases h
theorem call_in (hI : Inv fr φ F s a w) {rs : List (Nm × Nm)} {xs : List AVal} {vs : List Value} (hx : VRelL w φ F (LentB fr φ rs s.nodes) xs vs) (hu : ((renN (inS rs s.nodes) s.nodes).map (·.1)).Nodup) :
    ∃ φ2, Inv (calleeFr fr φ φ2 F rs s.nodes w) φ2 F ⟨xs.map (·.ren (inS rs s.nodes)), sortN (renN (inS rs s.nodes) s.nodes)⟩ ⟨vs.toArray, []⟩ w ∧
      (∀ m m', φ m ≠ .absent → inS rs s.nodes m = .to m' → φ2 m' = φ m) := by
  obtain ⟨φ2, hσ, hback, huniq⟩ := ren_phi hI.dom_iff hI.uniq (inS rs s.nodes) hu
  have hne : ∀ m n, (m, n) ∈ s.nodes → φ m ≠ .absent := fun m n hm => (hI.dom_iff m).2 ⟨n, hm⟩
  refine ⟨φ2, ?_, hσ⟩
  refine { len := ?_, tm := fun t => ?_, nd := fun c n hc => ?_, dom := fun c hc => ?_, uniq := sortN_nodup.2 hu, sep := ?_, own := ?_, fb := fun k hk => ?_, f0 := fun _ h => h, fin := fun _ h => .inl h, step := Stp.refl _ _, obj := ?_, rw_ := fun _ _ _ _ _ _ _ => rfl, defers := rfl }
  · show (xs.map _).length = vs.toArray.size
    rw [List.length_map, hx.1, List.size_toArray]
  · refine VRelL.tm ⟨by rw [List.length_map]; exact hx.1, fun j c v hc hv => ?_⟩ t
    rw [List.getElem?_map, Option.map_eq_some_iff] at hc
    obtain ⟨c0, hc0, rfl⟩ := hc
    exact (hx.2 j c0 v hc0 hv).ren hσ
  · obtain ⟨m, n0, hm, e, rfl⟩ := mem_renN.1 (mem_sortN.1 hc)
    exact ((hI.nd m n0 hm).B_mono (fun k hk => .inl hk)).ren hσ (hσ m c (hne m n0 hm) e)
  · obtain ⟨m, h1, h2, _⟩ := hback c hc
    obtain ⟨n, hn⟩ := hI.dom m h1
    exact ⟨_, mem_sortN.2 (mem_renN.2 ⟨m, n, hn, h2, rfl⟩)⟩
  · intro c n c1 n1 b k k1 hc hc1 ho ho1 hb hb1
    obtain ⟨m, n0, hm, e, rfl⟩ := mem_renN.1 (mem_sortN.1 hc)
    obtain ⟨m1, n10, hm1, e1, rfl⟩ := mem_renN.1 (mem_sortN.1 hc1)
    rw [hσ m c (hne m n0 hm) e] at hb
    rw [hσ m1 c1 (hne m1 n10 hm1) e1] at hb1
    rw [Node.own_ren] at ho ho1
    have := hI.sep m n0 m1 n10 b k k1 hm hm1 ho ho1 hb hb1
    subst this
    rw [e] at e1
    cases e1
    rfl
  · intro c n b k hc ho hb
    obtain ⟨m, n0, hm, e, rfl⟩ := mem_renN.1 (mem_sortN.1 hc)
    rw [hσ m c (hne m n0 hm) e] at hb
    rw [Node.own_ren] at ho
    obtain ⟨h1, h2, h3⟩ := hI.own m n0 b k hm ho hb
    refine ⟨h1, fun hB => ?_, .inl ⟨m, n0, c, hm, ho, ⟨k, hb⟩, e⟩⟩
    rcases hB with hB | ⟨m', n', hm', hp', hb'⟩
    · exact h2 hB
    · cases ho' : n'.own with
      | true =>
        obtain ⟨k', hb'⟩ := hb'
        have := hI.sep m n0 m' n' b k k' hm hm' ho ho' hb hb'
        subst this
        rw [(inS_to e).1] at hp'
        cases hp'
      | false => exact h1 ((hI.nd m' n' hm').blk_own hb' ho')
  · rcases hk with hk | hk
    · exact hI.fb k (.inl hk)
    · rcases hk with hk | ⟨m', n', hm', hp', j, hb'⟩
      · exact hI.fb k (.inr hk)
      · exact (hI.nd m' n' hm').block hb'
  · intro c cs b k hc hb
    have : (calleeFr fr φ φ2 F rs s.nodes w).φ0 c = φ2 c := if_pos ⟨cs, mem_sortN.1 hc⟩
    rw [this] at hb
    exact ⟨_, hb⟩
end
end Go.Proofs.YtlaojkheenobaaaDoorS
