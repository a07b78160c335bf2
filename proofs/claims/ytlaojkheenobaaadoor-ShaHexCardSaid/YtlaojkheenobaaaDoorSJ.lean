/- How a state's nodes may change. -/
import Derived.Test.YtlaojkheenobaaaDoorSI
namespace Go.Proofs.YtlaojkheenobaaaDoorS
open Go Go.RowKit
set_option linter.unusedVariables false
set_option linter.unusedSimpArgs false
theorem okNm_one {r : Nat} (h : okNm [r] = true) : r < 1000 ∨ 2000 ≤ r := by
  unfold okNm at h
  rw [Bool.or_eq_true] at h
  exact h.imp Nat.le_of_ble_eq_true Nat.le_of_ble_eq_true
theorem okNm_small {r : Nat} (h : r < 1000) : okNm [r] = true := by
  unfold okNm
  rw [Bool.or_eq_true]
  exact .inl (Nat.ble_eq_true_of_le h)
section
variable {fr : Fr} {φ φ' : Nm → Loc} {F F' B : Nat → Prop} {s : St} {a : Act} {w w' : World}
/-- One name's node is told anew, or laid. -/
theorem Inv.node (h : Inv fr φ F s a w) (nm : Nm) (N : Node) (nodes' : Nodes) (T : Nat → Prop)
    (hmem : ∀ m n, (m, n) ∈ nodes' ↔ (m = nm ∧ n = N) ∨ (m ≠ nm ∧ (m, n) ∈ s.nodes)) (hu : (nodes'.map (·.1)).Nodup)
    (hother : ∀ m, m ≠ nm → φ' m = φ m) (hself : φ nm ≠ .absent → φ' nm = φ nm ∨ φ' nm = .dead)
    (hs : Stp T w w') (hT : ∀ k, T k → k < w.heap.size → ¬ F k ∧ ¬ fr.B k ∧ (fr.S0 k ∨ fr.w0.heap.size ≤ k) ∧ ∀ m n j, m ≠ nm → (m, n) ∈ s.nodes → n.own = true → φ m ≠ .at_ (some k) j)
    (hF : ∀ k, F k → F' k) (hF' : ∀ k, F' k → F k ∨ (N.own = false ∧ ∃ n j, (nm, n) ∈ s.nodes ∧ n.own = true ∧ φ nm = .at_ (some k) j))
    (hN : NRel w' φ' F' fr.B nm N)
    (hown : N.own = true → ∀ b k, φ' nm = .at_ (some b) k → ¬ F' b ∧ ¬ fr.B b ∧ (fr.S0 b ∨ fr.w0.heap.size ≤ b) ∧ ∀ m n j, m ≠ nm → (m, n) ∈ s.nodes → n.own = true → φ m ≠ .at_ (some b) j)
    (hobj : ∀ cs b k, N = .obj cs → fr.φ0 nm = .at_ (some b) k → ∃ k', φ' nm = .at_ (some b) k')
    (hrw : ∀ r fz sh xs, nm = [r] → N = .row fz sh xs → 1000 ≤ r → r < 2000 → φ' [r] = fr.ψ0 r) :
    Inv fr φ' F' ⟨s.tmps, nodes'⟩ a w' := by
  have hTF : ∀ k, T k → k < w.heap.size → ¬ F k ∧ ¬ fr.B k ∧ (fr.S0 k ∨ fr.w0.heap.size ≤ k) := fun k hk hl => by
    obtain ⟨h1, h2, h3, _⟩ := hT k hk hl
    exact ⟨h1, h2, h3⟩
  have hφ : Phi φ φ' := fun m hm => by
    by_cases e : m = nm
    · subst e; exact hself hm
    · exact .inl (hother m e)
  have hK : Keeps F fr.B w w' := ⟨fun k hk => hs.block k (h.fb k (.inl hk)) (fun ht => (hTF k ht (h.fb k (.inl hk))).1 hk), fun k hk => hs.block k (h.fb k (.inr hk)) (fun ht => (hTF k ht (h.fb k (.inr hk))).2.1 hk), hs.bs⟩
  have hsame : ∀ m n, m ≠ nm → (m, n) ∈ s.nodes → ∀ b k, φ m = .at_ (some b) k → w'.heap[b]? = w.heap[b]? := fun m n hm hn b k hb => by
    have hlt := (h.nd m n hn).block hb
    refine hs.block b hlt (fun ht => ?_)
    obtain ⟨_, _, _, h4⟩ := hT b ht hlt
    cases ho : n.own with
    | true => exact h4 m n k hm hn ho hb
    | false =>
      have hnF := (hTF b ht hlt).1
      cases n with
      | row fz sh xs =>
        obtain ⟨_, blk, g1, _, g3⟩ := h.nd m _ hn
        rw [hb] at g1
        cases g1
        simp only [Node.own, Bool.not_eq_false'] at ho
        exact hnF ((g3 b rfl).2.1 ho)
      | obj cs => simp [Node.own] at ho
      | iter t p => simp [Node.own] at ho
      | dead => have := h.nd m _ hn; rw [NRel, hb] at this; cases this
  refine { len := h.len, tm := fun t => (h.tm t).mono hK hφ hF (fun _ hk => .inl hk), nd := fun m n hn => ?_, dom := fun m hm => ?_, uniq := hu, sep := ?_, own := ?_, fb := fun k hk => ?_, f0 := fun k hk => hF k (h.f0 k hk), fin := fun k hk => ?_, step := ?_, obj := ?_, rw_ := ?_, defers := h.defers }
  · rcases (hmem m n).1 hn with ⟨rfl, rfl⟩ | ⟨hm, hn⟩
    · exact hN
    · exact (h.nd m n hn).mono hK hφ (hother m hm) (hsame m n hm hn) hF
  · by_cases e : m = nm
    · subst e; exact ⟨N, (hmem m N).2 (.inl ⟨rfl, rfl⟩)⟩
    · rw [hother m e] at hm
      obtain ⟨n, hn⟩ := h.dom m hm
      exact ⟨n, (hmem m n).2 (.inr ⟨e, hn⟩)⟩
  · intro m n m' n' b k k' hn hn' ho ho' hb hb'
    rcases (hmem m n).1 hn with ⟨rfl, rfl⟩ | ⟨hm, hn⟩
    · rcases (hmem m' n').1 hn' with ⟨rfl, rfl⟩ | ⟨hm', hn'⟩
      · rfl
      · rw [hother m' hm'] at hb'
        exact absurd hb' ((hown ho b k hb).2.2.2 m' n' k' hm' hn' ho')
    · rcases (hmem m' n').1 hn' with ⟨rfl, rfl⟩ | ⟨hm', hn'⟩
      · rw [hother m hm] at hb
        exact absurd hb ((hown ho' b k' hb').2.2.2 m n k hm hn ho)
      · rw [hother m hm] at hb
        rw [hother m' hm'] at hb'
        exact h.sep m n m' n' b k k' hn hn' ho ho' hb hb'
  · intro m n b k hn ho hb
    rcases (hmem m n).1 hn with ⟨rfl, rfl⟩ | ⟨hm, hn⟩
    · obtain ⟨h1, h2, h3, _⟩ := hown ho b k hb
      exact ⟨h1, h2, h3⟩
    · rw [hother m hm] at hb
      obtain ⟨h1, h2, h3⟩ := h.own m n b k hn ho hb
      refine ⟨fun hf => ?_, h2, h3⟩
      rcases hF' b hf with hf | ⟨_, n', j, g1, g2, g3⟩
      · exact h1 hf
      · exact hm (h.sep m n nm n' b k j hn g1 ho g2 hb g3)
  · rcases hk with hk | hk
    · rcases hF' k hk with hf | ⟨_, n', j, g1, g2, g3⟩
      · exact Nat.lt_of_lt_of_le (h.fb k (.inl hf)) hs.size
      · exact Nat.lt_of_lt_of_le ((h.nd nm n' g1).block g3) hs.size
    · exact Nat.lt_of_lt_of_le (h.fb k (.inr hk)) hs.size
  · rcases hF' k hk with hf | ⟨_, n', j, g1, g2, g3⟩
    · exact h.fin k hf
    · exact .inr (h.own nm n' k j g1 g2 g3).2.2
  · exact h.step.trans hs (fun i hi hl => (hTF i hi hl).2.2)
  · intro m cs b k hn hb
    rcases (hmem m (.obj cs)).1 hn with ⟨rfl, e⟩ | ⟨hm, hn⟩
    · exact hobj cs b k e.symm hb
    · rw [hother m hm]
      exact h.obj m cs b k hn hb
  · intro r fz sh xs hn h1 h2
    rcases (hmem [r] _).1 hn with ⟨rfl, e⟩ | ⟨hm, hn⟩
    · exact hrw r fz sh xs rfl e.symm h1 h2
    · rw [hother _ hm]
      exact h.rw_ r fz sh xs hn h1 h2
theorem mem_upd {nm : Nm} {N : Node} : ∀ {l : Nodes}, (l.map (·.1)).Nodup → (∃ n, (nm, n) ∈ l) → ∀ m n, (m, n) ∈ upd nm N l ↔ (m = nm ∧ n = N) ∨ (m ≠ nm ∧ (m, n) ∈ l)
  | [], _, ⟨n, hn⟩, _, _ => by simp at hn
  | (q, k) :: l, hu, hex, m, n => by
    simp only [List.map_cons, List.nodup_cons] at hu
    unfold upd
    cases e : nmEq q nm with
    | true =>
      have e' := nmEq_iff.1 e
      subst e'
      simp only [cond_true, List.mem_cons, Prod.mk.injEq]
      constructor
      · rintro (h | h)
        · exact .inl h
        · refine .inr ⟨fun e2 => hu.1 (List.mem_map.2 ⟨(m, n), h, e2⟩), .inr h⟩
      · rintro (h | ⟨h1, h | h⟩)
        · exact .inl h
        · exact absurd h.1 h1
        · exact .inr h
    | false =>
      have hne : q ≠ nm := fun h => by subst h; rw [nmEq_refl] at e; cases e
      have hex' : ∃ n, (nm, n) ∈ l := by
        obtain ⟨n0, h0⟩ := hex
        simp only [List.mem_cons, Prod.mk.injEq] at h0
        rcases h0 with h0 | h0
        · exact absurd h0.1.symm hne
        · exact ⟨n0, h0⟩
      simp only [cond_false, List.mem_cons, Prod.mk.injEq]
      rw [mem_upd hu.2 hex' m n]
      constructor
      · rintro (h | h | h)
        · exact .inr ⟨by rw [h.1]; exact hne, .inl h⟩
        · exact .inl h
        · exact .inr ⟨h.1, .inr h.2⟩
      · rintro (h | ⟨h1, h | h⟩)
        · exact .inr (.inl h)
        · exact .inl h
        · exact .inr (.inr ⟨h1, h⟩)
theorem upd_names (nm : Nm) (N : Node) : ∀ l : Nodes, (upd nm N l).map (·.1) = l.map (·.1)
  | [] => rfl
  | (q, k) :: l => by
    unfold upd
    cases nmEq q nm with
    | true => rfl
    | false => simp [upd_names nm N l]
/-- A node is told anew; its block may have been written. -/
theorem Inv.setN (h : Inv fr φ F s a w) {nm : Nm} {n N : Node} (hn : find nm s.nodes = some n) (ho : n.own = true) (hO : N.own = true) {b k : Nat} (hb : φ nm = .at_ (some b) k) (hs : Stp (fun i => i = b) w w') (hN : NRel w' φ F fr.B nm N)
    (hobj : ∀ cs, N = .obj cs → ∃ cs', n = .obj cs') (hrow : ∀ fz sh xs, N = .row fz sh xs → ∃ fz' sh' xs', n = .row fz' sh' xs' := by intro _ _ _ e; first | exact ⟨_, _, _, rfl⟩ | cases e) : Inv fr φ F (s.setN nm N) a w' := by
  have hm := find_mem hn
  refine h.node nm N _ (fun i => i = b) (mem_upd h.uniq ⟨n, hm⟩) (by rw [upd_names]; exact h.uniq) (fun _ _ => rfl) (fun _ => .inl rfl) hs (fun i hi _ => by
    subst hi
    obtain ⟨h1, h2, h3⟩ := h.own nm n _ k hm ho hb
    exact ⟨h1, h2, h3, fun m n' j hne hn' ho' hj => hne (h.sep m n' nm n _ j k hn' hm ho' ho hj hb)⟩) (fun _ hk => hk) (fun _ hk => .inl hk) hN (fun _ b' k' hb' => ?_) (fun cs b' k' e hb' => ?_) (fun r fz sh xs e e2 h1 h2 => ?_)
  · obtain ⟨h1, h2, h3⟩ := h.own nm n b' k' hm ho hb'
    exact ⟨h1, h2, h3, fun m n' j hne hn' ho' hj => hne (h.sep m n' nm n b' j k' hn' hm ho' ho hj hb')⟩
  · obtain ⟨cs', rfl⟩ := hobj cs e
    exact h.obj nm cs' b' k' hm hb'
  · obtain ⟨fz', sh', xs', rfl⟩ := hrow fz sh xs e2
    subst e
    exact h.rw_ r _ _ _ hm h1 h2
/-- A row without a block (nil) is told anew. -/
theorem Inv.dead (h : Inv fr φ F s a w) {nm : Nm} {n : Node} (hn : find nm s.nodes = some n) : ∃ φ', Inv fr φ' F (s.setN nm .dead) a w ∧ φ' nm = .dead ∧ ∀ m, m ≠ nm → φ' m = φ m := by
  have hm := find_mem hn
  refine ⟨fun m => if m = nm then .dead else φ m, ?_, if_pos rfl, fun m hne => if_neg hne⟩
  refine h.node nm .dead _ (fun _ => False) (mem_upd h.uniq ⟨n, hm⟩) (by rw [upd_names]; exact h.uniq) (fun m hne => if_neg hne) (fun _ => .inr (if_pos rfl)) (Stp.refl _ _) (fun _ hf => hf.elim) (fun _ hk => hk) (fun _ hk => .inl hk) (if_pos rfl) (fun e => by cases e) (fun cs b k e => by cases e) (fun _ _ _ _ _ e => by cases e)
theorem Keeps.refl (F B : Nat → Prop) (w : World) : Keeps F B w w := ⟨fun _ _ => rfl, fun _ _ => rfl, fun _ _ => rfl⟩
/-- A row is only read from here on. -/
theorem Inv.freeze (h : Inv fr φ F s a w) {nm : Nm} {sh : Option Nat} {xs : List CV} (hn : find nm s.nodes = some (.row false sh xs)) :
    ∃ F', Inv fr φ F' (s.setN nm (.row true sh xs)) a w ∧ (∀ k, F k → F' k) ∧ ∀ b k, φ nm = .at_ (some b) k → F' b := by
  have hm := find_mem hn
  have hr := h.nd nm _ hm
  refine ⟨fun k => F k ∨ ∃ j, φ nm = .at_ (some k) j, ?_, fun _ => .inl, fun b k hb => .inr ⟨k, hb⟩⟩
  refine h.node nm (.row true sh xs) _ (fun _ => False) (mem_upd h.uniq ⟨_, hm⟩) (by rw [upd_names]; exact h.uniq) (fun _ _ => rfl) (fun _ => .inl rfl) (Stp.refl _ _) (fun _ hf => hf.elim) (fun _ => .inl) (fun k hk => hk.imp id fun ⟨j, hj⟩ => ⟨rfl, _, j, hm, rfl, hj⟩) ?_ (fun e => by cases e) (fun cs b k e => by cases e) (fun r _ _ _ e _ h1 h2 => by subst e; exact h.rw_ r _ _ _ hm h1 h2)
  obtain ⟨h0, blk, h1, h2, h3⟩ := hr
  refine ⟨h0, blk, h1, h2, fun b hb => ?_⟩
  obtain ⟨h4, h5, h6, h7⟩ := h3 b hb
  subst hb
  exact ⟨h4, fun _ => .inr ⟨_, h1⟩, h6, fun i x hx => (h7 i x hx).mono (fun _ => .inl) (fun _ _ => rfl) rfl⟩
/-- A block is laid under a name that nothing has. -/
theorem Inv.new (h : Inv fr φ F s a w) {nm : Nm} (hn : find nm s.nodes = none) (N : Node) (loc : Loc) {T : Nat → Prop} (hs : Stp T w w') (hT : ∀ k, T k → k < w.heap.size → ¬ F k ∧ ¬ fr.B k ∧ (fr.S0 k ∨ fr.w0.heap.size ≤ k) ∧ ∀ m n j, m ≠ nm → (m, n) ∈ s.nodes → n.own = true → φ m ≠ .at_ (some k) j)
    (hloc : ∀ b k, loc = .at_ (some b) k → ¬ F b ∧ ¬ fr.B b ∧ (fr.S0 b ∨ fr.w0.heap.size ≤ b) ∧ ∀ m n j, m ≠ nm → (m, n) ∈ s.nodes → n.own = true → φ m ≠ .at_ (some b) j)
    (h0 : ∀ cs b k, N = .obj cs → fr.φ0 nm = .at_ (some b) k → ∃ k', loc = .at_ (some b) k') (hN : ∀ φ', (∀ m, m ≠ nm → φ' m = φ m) → φ' nm = loc → Phi φ φ' → NRel w' φ' F fr.B nm N) (hnm : okNm nm = true) :
    ∃ φ', Inv fr φ' F ⟨s.tmps, (nm, N) :: s.nodes⟩ a w' ∧ φ' nm = loc ∧ (∀ m, m ≠ nm → φ' m = φ m) ∧ Phi φ φ' := by
  have habs : φ nm = .absent := by
    cases e : φ nm with
    | absent => rfl
    | dead => obtain ⟨n, hm⟩ := h.dom nm (by rw [e]; simp); exact absurd hm (find_none hn n)
    | at_ b k => obtain ⟨n, hm⟩ := h.dom nm (by rw [e]; simp); exact absurd hm (find_none hn n)
  have hφ : Phi φ (fun m => if m = nm then loc else φ m) := fun m hm => by
    by_cases e : m = nm
    · subst e; exact absurd habs hm
    · exact .inl (if_neg e)
  refine ⟨fun m => if m = nm then loc else φ m, ?_, if_pos rfl, fun m hne => if_neg hne, hφ⟩
  refine h.node nm N _ T (fun m n => ?_) ?_ (fun m hne => if_neg hne) (fun hne => absurd habs hne) hs hT (fun _ hk => hk) (fun _ hk => .inl hk) (hN _ (fun m hne => if_neg hne) (if_pos rfl) hφ) (fun _ b k hb => hloc b k ((if_pos rfl).symm.trans hb)) (fun cs b k e hb => by rw [if_pos rfl]; exact h0 cs b k e hb) (fun r _ _ _ e _ h1 h2 => by
    subst e
    rcases okNm_one hnm with h | h <;> omega)
  · simp only [List.mem_cons, Prod.mk.injEq]
    constructor
    · rintro (hx | hx)
      · exact .inl hx
      · refine .inr ⟨fun e => ?_, hx⟩
        subst e
        exact find_none hn n hx
    · rintro (hx | hx)
      · exact .inl hx
      · exact .inr hx.2
  · simp only [List.map_cons, List.nodup_cons]
    refine ⟨fun hx => ?_, h.uniq⟩
    obtain ⟨p, hp, rfl⟩ := List.mem_map.1 hx
    exact find_none hn p.2 hp
theorem Inv.perm (hI : Inv fr φ F s a w) {ns : Nodes} (hp : List.Perm ns s.nodes) : Inv fr φ F ⟨s.tmps, ns⟩ a w :=
  { hI with
    nd := fun nm n h => hI.nd nm n (hp.mem_iff.1 h)
    dom := fun nm h => let ⟨n, hn⟩ := hI.dom nm h; ⟨n, hp.mem_iff.2 hn⟩
    uniq := ((hp.map _).nodup_iff).2 hI.uniq
    sep := fun nm n nm' n' b k k' h h' => hI.sep nm n nm' n' b k k' (hp.mem_iff.1 h) (hp.mem_iff.1 h')
    own := fun nm n b k h => hI.own nm n b k (hp.mem_iff.1 h)
    obj := fun nm cs b k h => hI.obj nm cs b k (hp.mem_iff.1 h)
    rw_ := fun r fz sh xs h => hI.rw_ r fz sh xs (hp.mem_iff.1 h) }
theorem mem_insN {p q : Nm × Node} : ∀ {l : Nodes}, q ∈ insN p l ↔ q = p ∨ q ∈ l
  | [] => by simp [insN]
  | r :: l => by
    unfold insN
    cases nmLe p.1.reverse r.1.reverse with
    | true => simp
    | false =>
      simp only [cond_false, List.mem_cons, mem_insN (l := l)]
      constructor
      · rintro (h | h | h)
        · exact .inr (.inl h)
        · exact .inl h
        · exact .inr (.inr h)
      · rintro (h | h | h)
        · exact .inr (.inl h)
        · exact .inl h
        · exact .inr (.inr h)
theorem insN_perm (p : Nm × Node) : ∀ l : Nodes, List.Perm (insN p l) (p :: l)
  | [] => .refl _
  | r :: l => by
    unfold insN
    cases nmLe p.1.reverse r.1.reverse with
    | true => exact .refl _
    | false => exact ((insN_perm p l).cons r).trans (.swap p r l)
theorem insA_perm : ∀ (A l : Nodes), List.Perm (insA A l) (A ++ l)
  | [], l => .refl _
  | p :: A, l => (insN_perm p (insA A l)).trans ((insA_perm A l).cons p)
theorem nmLe_anti : ∀ {a b : Nm}, nmLe a b = true → nmLe b a = true → a = b
  | [], [], _, _ => rfl
  | [], _ :: _, _, h => by cases h
  | _ :: _, [], h, _ => by cases h
  | a :: l, b :: m, h, k => by
    unfold nmLe at h k
    by_cases e : a = b
    · subst e
      have hr : Nat.beq a a = true := Nat.beq_refl a
      rw [hr] at h k
      rw [nmLe_anti h k]
    · have e1 : Nat.beq a b = false := by cases q : Nat.beq a b with
        | false => rfl
        | true => exact absurd (Nat.eq_of_beq_eq_true q) e
      have e2 : Nat.beq b a = false := by cases q : Nat.beq b a with
        | false => rfl
        | true => exact absurd (Nat.eq_of_beq_eq_true q).symm e
      rw [e1] at h
      rw [e2] at k
      exact absurd (Nat.le_antisymm (Nat.le_of_ble_eq_true h) (Nat.le_of_ble_eq_true k)) e
theorem nmLe_total : ∀ {a b : Nm}, nmLe a b = false → nmLe b a = true
  | [], _, h => by cases h
  | _ :: _, [], _ => rfl
  | a :: l, b :: m, h => by
    unfold nmLe at h ⊢
    by_cases e : a = b
    · subst e
      have hr : Nat.beq a a = true := Nat.beq_refl a
      rw [hr] at h ⊢
      exact nmLe_total h
    · have e1 : Nat.beq a b = false := by cases q : Nat.beq a b with
        | false => rfl
        | true => exact absurd (Nat.eq_of_beq_eq_true q) e
      have e2 : Nat.beq b a = false := by cases q : Nat.beq b a with
        | false => rfl
        | true => exact absurd (Nat.eq_of_beq_eq_true q).symm e
      rw [e1] at h
      rw [e2]
      have h : Nat.ble a b = false := h
      show Nat.ble b a = true
      refine Nat.ble_eq_true_of_le ?_
      rcases Nat.le_total b a with q | q
      · exact q
      · rw [Nat.ble_eq_true_of_le q] at h; cases h
theorem nmLe_trans : ∀ {a b c : Nm}, nmLe a b = true → nmLe b c = true → nmLe a c = true
  | [], _, _, _, _ => by cases ‹Nm› <;> rfl
  | _ :: _, [], _, h, _ => by cases h
  | _ :: _, _ :: _, [], _, k => by cases k
  | a :: l, b :: m, c :: n, h, k => by
    unfold nmLe at h k ⊢
    have ne : ∀ {x y : Nat}, x ≠ y → Nat.beq x y = false := fun {x y} e => by cases q : Nat.beq x y with
      | false => rfl
      | true => exact absurd (Nat.eq_of_beq_eq_true q) e
    by_cases e : a = b
    · subst e
      rw [Nat.beq_refl] at h
      by_cases e2 : a = c
      · subst e2
        rw [Nat.beq_refl] at k ⊢
        exact nmLe_trans h k
      · rw [ne e2] at k ⊢; exact k
    · rw [ne e] at h
      have h1 := Nat.le_of_ble_eq_true (show Nat.ble a b = true from h)
      by_cases e2 : b = c
      · subst e2
        rw [ne e]; exact Nat.ble_eq_true_of_le h1
      · rw [ne e2] at k
        have k1 := Nat.le_of_ble_eq_true (show Nat.ble b c = true from k)
        rw [ne (show a ≠ c by omega)]
        exact Nat.ble_eq_true_of_le (by omega)
theorem insN_comm {p q : Nm × Node} (h : p.1 ≠ q.1) : ∀ l : Nodes, insN p (insN q l) = insN q (insN p l) := by
  have hr : p.1.reverse ≠ q.1.reverse := fun e => h (by simpa using congrArg List.reverse e)
  have two : (nmLe p.1.reverse q.1.reverse = true ∧ nmLe q.1.reverse p.1.reverse = false) ∨ (nmLe p.1.reverse q.1.reverse = false ∧ nmLe q.1.reverse p.1.reverse = true) := by
    cases e1 : nmLe p.1.reverse q.1.reverse with
    | false => exact .inr ⟨rfl, nmLe_total e1⟩
    | true =>
      cases e2 : nmLe q.1.reverse p.1.reverse with
      | false => exact .inl ⟨rfl, rfl⟩
      | true => exact absurd (nmLe_anti e1 e2) hr
  intro l
  induction l with
  | nil =>
    rcases two with ⟨e1, e2⟩ | ⟨e1, e2⟩ <;> simp [insN, e1, e2]
  | cons x l ih =>
    cases ep : nmLe p.1.reverse x.1.reverse <;> cases eq : nmLe q.1.reverse x.1.reverse
    · simp [insN, ep, eq, ih]
    · have e1 : nmLe p.1.reverse q.1.reverse = false := by
        cases e : nmLe p.1.reverse q.1.reverse with
        | false => rfl
        | true => rw [nmLe_trans e eq] at ep; cases ep
      simp [insN, ep, eq, e1]
    · have e1 : nmLe q.1.reverse p.1.reverse = false := by
        cases e : nmLe q.1.reverse p.1.reverse with
        | false => rfl
        | true => rw [nmLe_trans e ep] at eq; cases eq
      simp [insN, ep, eq, e1]
    · rcases two with ⟨e1, e2⟩ | ⟨e1, e2⟩ <;> simp [insN, ep, eq, e1, e2]
theorem insA_comm1 {p : Nm × Node} : ∀ {A : Nodes}, (∀ q ∈ A, p.1 ≠ q.1) → ∀ l, insN p (insA A l) = insA A (insN p l)
  | [], _, l => rfl
  | q :: A, h, l => by
    show insN p (insN q (insA A l)) = insN q (insA A (insN p l))
    rw [insN_comm (h q List.mem_cons_self), insA_comm1 (fun r hr => h r (List.mem_cons_of_mem _ hr))]
theorem insA_comm : ∀ {A B : Nodes}, (∀ p ∈ A, ∀ q ∈ B, p.1 ≠ q.1) → ∀ l, insA A (insA B l) = insA B (insA A l)
  | [], B, _, l => rfl
  | p :: A, B, h, l => by
    show insN p (insA A (insA B l)) = insA B (insN p (insA A l))
    rw [insA_comm (fun q hq => h q (List.mem_cons_of_mem _ hq)), insA_comm1 (h p List.mem_cons_self)]
theorem insA_append : ∀ (A B l : Nodes), insA (A ++ B) l = insA A (insA B l)
  | [], B, l => rfl
  | p :: A, B, l => by show insN p (insA (A ++ B) l) = insN p (insA A (insA B l)); rw [insA_append A B l]
theorem find_insN_ne {nm : Nm} {p : Nm × Node} (h : p.1 ≠ nm) : ∀ l : Nodes, find nm (insN p l) = find nm l
  | [] => by show find nm [p] = none; obtain ⟨m, n⟩ := p; simp [find, nmEq_ne h]
  | q :: l => by
    unfold insN
    cases nmLe p.1.reverse q.1.reverse with
    | true => obtain ⟨m, n⟩ := p; simp only [cond_true]; rw [find, nmEq_ne h]; rfl
    | false =>
      obtain ⟨m, n⟩ := q
      simp only [cond_false]
      unfold find
      rw [find_insN_ne h l]
theorem find_insN_self {nm : Nm} {n : Node} : ∀ {l : Nodes}, find nm l = none → find nm (insN (nm, n) l) = some n
  | [], _ => by simp [insN, find, nmEq_refl]
  | (q, k) :: l, h => by
    unfold insN
    cases nmLe (nm, n).1.reverse (q, k).1.reverse with
    | true => simp [find, nmEq_refl]
    | false =>
      simp only [cond_false]
      unfold find at h ⊢
      cases e : nmEq q nm with
      | true => rw [e] at h; cases h
      | false => rw [e] at h; exact find_insN_self h
theorem find_insA {nm : Nm} : ∀ (A l : Nodes), (∀ p ∈ A, p.1 ≠ nm) → find nm (insA A l) = find nm l
  | [], l, _ => rfl
  | p :: A, l, h => (find_insN_ne (h p List.mem_cons_self) _).trans (find_insA A l fun q hq => h q (List.mem_cons_of_mem _ hq))
theorem insN_le {p q : Nm × Node} {l : Nodes} (h : nmLe p.1.reverse q.1.reverse = true) : insN p (q :: l) = p :: q :: l := by unfold insN; rw [h]; rfl
theorem insN_gt {p q : Nm × Node} {l : Nodes} (h : nmLe p.1.reverse q.1.reverse = false) : insN p (q :: l) = q :: insN p l := by
  show (bif nmLe p.1.reverse q.1.reverse then p :: q :: l else q :: insN p l) = _
  rw [h]; rfl
theorem upd_insN_ne {nm : Nm} {X : Node} {p : Nm × Node} (h : p.1 ≠ nm) : ∀ l : Nodes, upd nm X (insN p l) = insN p (upd nm X l)
  | [] => by obtain ⟨m, n⟩ := p; simp [insN, upd, nmEq_ne h]
  | (q, k) :: l => by
    obtain ⟨m, n⟩ := p
    have hq := upd_insN_ne (X := X) h l
    have hu : ∀ r, upd nm X ((q, k) :: r) = (bif nmEq q nm then (q, X) :: r else (q, k) :: upd nm X r) := fun r => rfl
    have hm : ∀ r, upd nm X ((m, n) :: r) = (m, n) :: upd nm X r := fun r => by rw [upd, nmEq_ne h]; rfl
    cases e : nmLe (m, n).1.reverse (q, k).1.reverse with
    | true =>
      rw [insN_le e, hm, hu]
      cases e2 : nmEq q nm
      · exact (insN_le (p := (m, n)) (q := (q, k)) e).symm
      · exact (insN_le (p := (m, n)) (q := (q, X)) e).symm
    | false =>
      rw [insN_gt e, hu, hu]
      cases e2 : nmEq q nm
      · exact (congrArg ((q, k) :: ·) hq).trans (insN_gt (p := (m, n)) (q := (q, k)) e).symm
      · exact (insN_gt (p := (m, n)) (q := (q, X)) e).symm
theorem upd_insN_self {nm : Nm} {X Y : Node} : ∀ {l : Nodes}, find nm l = none → upd nm X (insN (nm, Y) l) = insN (nm, X) l
  | [], _ => by simp [insN, upd, nmEq_refl]
  | (q, k) :: l, h => by
    unfold insN
    cases e : nmLe nm.reverse q.reverse with
    | true => simp [e, upd, nmEq_refl]
    | false =>
      simp only [e, cond_false]
      unfold find at h
      cases e2 : nmEq q nm with
      | true => rw [e2] at h; cases h
      | false =>
        rw [e2] at h
        rw [upd, e2, cond_false, upd_insN_self h]
end
end Go.Proofs.YtlaojkheenobaaaDoorS
