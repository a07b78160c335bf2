/- How a state's nodes may change. -/
import Derived.Test.YtidniahglagllaaSI
namespace Go.Proofs.YtidniahglagllaaS
open Go Go.RowKit
set_option linter.unusedVariables false
set_option linter.unusedSimpArgs false
theorem okNm_one {r : Nat} (h : okNm [r] = true) : r < 1000 ∨ 2000 ≤ r := by
  unfold okNm at h
  rw [Bool.or_eq_true] at h
  exact h.imp Nat.le_of_ble_eq_true Nat.le_of_ble_eq_true
theorem okNm_small {r : Nat} (h : r < 1000) : okNm [r] = true := by
  unfold okNm
  rw [Bool.or_eq_true]
  exact .inl (Nat.ble_eq_true_of_le h)
section
variable {fr : Fr} {φ φ' : Nm → Loc} {F F' B : Nat → Prop} {s : St} {a : Act} {w w' : World}
/-- One name's node is told anew, or laid. -/
theorem Inv.node (h : Inv fr φ F s a w) (nm : Nm) (N : Node) (nodes' : Nodes) (T : Nat → Prop)
    (hmem : ∀ m n, (m, n) ∈ nodes' ↔ (m = nm ∧ n = N) ∨ (m ≠ nm ∧ (m, n) ∈ s.nodes)) (hu : (nodes'.map (·.1)).Nodup)
    (hother : ∀ m, m ≠ nm → φ' m = φ m) (hself : φ nm ≠ .absent → φ' nm = φ nm ∨ φ' nm = .dead)
    (hs : Stp T w w') (hT : ∀ k, T k → k < w.heap.size → ¬ F k ∧ ¬ fr.B k ∧ (fr.S0 k ∨ fr.w0.heap.size ≤ k) ∧ ∀ m n j, m ≠ nm → (m, n) ∈ s.nodes → n.own = true → φ m ≠ .at_ (some k) j)
    (hF : ∀ k, F k → F' k) (hF' : ∀ k, F' k → F k ∨ (N.own = false ∧ ∃ n j, (nm, n) ∈ s.nodes ∧ n.own = true ∧ φ nm = .at_ (some k) j))
    (hN : NRel w' φ' F' fr.B nm N)
    (hown : N.own = true → ∀ b k, φ' nm = .at_ (some b) k → ¬ F' b ∧ ¬ fr.B b ∧ (fr.S0 b ∨ fr.w0.heap.size ≤ b) ∧ ∀ m n j, m ≠ nm → (m, n) ∈ s.nodes → n.own = true → φ m ≠ .at_ (some b) j)
    (hobj : ∀ cs b k, N = .obj cs → fr.φ0 nm = .at_ (some b) k → ∃ k', φ' nm = .at_ (some b) k')
    (hrw : ∀ r fz sh xs, nm = [r] → N = .row fz sh xs → 1000 ≤ r → r < 2000 → φ' [r] = fr.ψ0 r) :
    Inv fr φ' F' ⟨s.tmps, nodes'⟩ a w' := by
  have hTF : ∀ k, T k → k < w.heap.size → ¬ F k ∧ ¬ fr.B k ∧ (fr.S0 k ∨ fr.w0.heap.size ≤ k) := fun k hk hl => by
    obtain ⟨h1, h2, h3, _⟩ := hT k hk hl
    exact ⟨h1, h2, h3⟩
  have hφ : Phi φ φ' := fun m hm => by
    by_cases e : m = nm
    · subst e; exact hself hm
    · exact .inl (hother m e)
  have hK : Keeps F fr.B w w' := ⟨fun k hk => hs.block k (h.fb k (.inl hk)) (fun ht => (hTF k ht (h.fb k (.inl hk))).1 hk), fun k hk => hs.block k (h.fb k (.inr hk)) (fun ht => (hTF k ht (h.fb k (.inr hk))).2.1 hk), hs.bs⟩
  have hsame : ∀ m n, m ≠ nm → (m, n) ∈ s.nodes → ∀ b k, φ m = .at_ (some b) k → w'.heap[b]? = w.heap[b]? := fun m n hm hn b k hb => by
    have hlt := (h.nd m n hn).block hb
    refine hs.block b hlt (fun ht => ?_)
    obtain ⟨_, _, _, h4⟩ := hT b ht hlt
    cases ho : n.own with
    | true => exact h4 m n k hm hn ho hb
    | false =>
      have hnF := (hTF b ht hlt).1
      cases n with
      | row fz sh xs =>
        obtain ⟨_, blk, g1, _, g3⟩ := h.nd m _ hn
        rw [hb] at g1
        cases g1
        simp only [Node.own, Bool.not_eq_false'] at ho
        exact hnF ((g3 b rfl).2.1 ho)
      | obj cs => simp [Node.own] at ho
      | dead => have := h.nd m _ hn; rw [NRel, hb] at this; cases this
  refine { len := h.len, tm := fun t => (h.tm t).mono hK hφ hF (fun _ hk => .inl hk), nd := fun m n hn => ?_, dom := fun m hm => ?_, uniq := hu, sep := ?_, own := ?_, fb := fun k hk => ?_, f0 := fun k hk => hF k (h.f0 k hk), fin := fun k hk => ?_, step := ?_, obj := ?_, rw_ := ?_, defers := h.defers }
  · rcases (hmem m n).1 hn with ⟨rfl, rfl⟩ | ⟨hm, hn⟩
    · exact hN
    · exact (h.nd m n hn).mono hK hφ (hother m hm) (hsame m n hm hn) hF
  · by_cases e : m = nm
    · subst e; exact ⟨N, (hmem m N).2 (.inl ⟨rfl, rfl⟩)⟩
    · rw [hother m e] at hm
      obtain ⟨n, hn⟩ := h.dom m hm
      exact ⟨n, (hmem m n).2 (.inr ⟨e, hn⟩)⟩
  · intro m n m' n' b k k' hn hn' ho ho' hb hb'
    rcases (hmem m n).1 hn with ⟨rfl, rfl⟩ | ⟨hm, hn⟩
    · rcases (hmem m' n').1 hn' with ⟨rfl, rfl⟩ | ⟨hm', hn'⟩
      · rfl
      · rw [hother m' hm'] at hb'
        exact absurd hb' ((hown ho b k hb).2.2.2 m' n' k' hm' hn' ho')
    · rcases (hmem m' n').1 hn' with ⟨rfl, rfl⟩ | ⟨hm', hn'⟩
      · rw [hother m hm] at hb
        exact absurd hb ((hown ho' b k' hb').2.2.2 m n k hm hn ho)
      · rw [hother m hm] at hb
        rw [hother m' hm'] at hb'
        exact h.sep m n m' n' b k k' hn hn' ho ho' hb hb'
  · intro m n b k hn ho hb
    rcases (hmem m n).1 hn with ⟨rfl, rfl⟩ | ⟨hm, hn⟩
    · obtain ⟨h1, h2, h3, _⟩ := hown ho b k hb
      exact ⟨h1, h2, h3⟩
    · rw [hother m hm] at hb
      obtain ⟨h1, h2, h3⟩ := h.own m n b k hn ho hb
      refine ⟨fun hf => ?_, h2, h3⟩
      rcases hF' b hf with hf | ⟨_, n', j, g1, g2, g3⟩
      · exact h1 hf
      · exact hm (h.sep m n nm n' b k j hn g1 ho g2 hb g3)
  · rcases hk with hk | hk
    · rcases hF' k hk with hf | ⟨_, n', j, g1, g2, g3⟩
      · exact Nat.lt_of_lt_of_le (h.fb k (.inl hf)) hs.size
      · exact Nat.lt_of_lt_of_le ((h.nd nm n' g1).block g3) hs.size
    · exact Nat.lt_of_lt_of_le (h.fb k (.inr hk)) hs.size
  · rcases hF' k hk with hf | ⟨_, n', j, g1, g2, g3⟩
    · exact h.fin k hf
    · exact .inr (h.own nm n' k j g1 g2 g3).2.2
  · exact h.step.trans hs (fun i hi hl => (hTF i hi hl).2.2)
  · intro m cs b k hn hb
    rcases (hmem m (.obj cs)).1 hn with ⟨rfl, e⟩ | ⟨hm, hn⟩
    · exact hobj cs b k e.symm hb
    · rw [hother m hm]
      exact h.obj m cs b k hn hb
  · intro r fz sh xs hn h1 h2
    rcases (hmem [r] _).1 hn with ⟨rfl, e⟩ | ⟨hm, hn⟩
    · exact hrw r fz sh xs rfl e.symm h1 h2
    · rw [hother _ hm]
      exact h.rw_ r fz sh xs hn h1 h2
theorem mem_upd {nm : Nm} {N : Node} : ∀ {l : Nodes}, (l.map (·.1)).Nodup → (∃ n, (nm, n) ∈ l) → ∀ m n, (m, n) ∈ upd nm N l ↔ (m = nm ∧ n = N) ∨ (m ≠ nm ∧ (m, n) ∈ l)
  | [], _, ⟨n, hn⟩, _, _ => by simp at hn
  | (q, k) :: l, hu, hex, m, n => by
    simp only [List.map_cons, List.nodup_cons] at hu
    unfold upd
    cases e : nmEq q nm with
    | true =>
      have e' := nmEq_iff.1 e
      subst e'
      simp only [cond_true, List.mem_cons, Prod.mk.injEq]
      constructor
      · rintro (h | h)
        · exact .inl h
        · refine .inr ⟨fun e2 => hu.1 (List.mem_map.2 ⟨(m, n), h, e2⟩), .inr h⟩
      · rintro (h | ⟨h1, h | h⟩)
        · exact .inl h
        · exact absurd h.1 h1
        · exact .inr h
    | false =>
      have hne : q ≠ nm := fun h => by subst h; rw [nmEq_refl] at e; cases e
      have hex' : ∃ n, (nm, n) ∈ l := by
        obtain ⟨n0, h0⟩ := hex
        simp only [List.mem_cons, Prod.mk.injEq] at h0
        rcases h0 with h0 | h0
        · exact absurd h0.1.symm hne
        · exact ⟨n0, h0⟩
      simp only [cond_false, List.mem_cons, Prod.mk.injEq]
      rw [mem_upd hu.2 hex' m n]
      constructor
      · rintro (h | h | h)
        · exact .inr ⟨by rw [h.1]; exact hne, .inl h⟩
        · exact .inl h
        · exact .inr ⟨h.1, .inr h.2⟩
      · rintro (h | ⟨h1, h | h⟩)
        · exact .inr (.inl h)
        · exact .inl h
        · exact .inr (.inr ⟨h1, h⟩)
theorem upd_names (nm : Nm) (N : Node) : ∀ l : Nodes, (upd nm N l).map (·.1) = l.map (·.1)
  | [] => rfl
  | (q, k) :: l => by
    unfold upd
    cases nmEq q nm with
    | true => rfl
    | false => simp [upd_names nm N l]
/-- A node is told anew; its block may have been written. -/
theorem Inv.setN (h : Inv fr φ F s a w) {nm : Nm} {n N : Node} (hn : find nm s.nodes = some n) (ho : n.own = true) (hO : N.own = true) {b k : Nat} (hb : φ nm = .at_ (some b) k) (hs : Stp (fun i => i = b) w w') (hN : NRel w' φ F fr.B nm N)
    (hobj : ∀ cs, N = .obj cs → ∃ cs', n = .obj cs') (hrow : ∀ fz sh xs, N = .row fz sh xs → ∃ fz' sh' xs', n = .row fz' sh' xs' := by intro _ _ _ e; first | exact ⟨_, _, _, rfl⟩ | cases e) : Inv fr φ F (s.setN nm N) a w' := by
  have hm := find_mem hn
  refine h.node nm N _ (fun i => i = b) (mem_upd h.uniq ⟨n, hm⟩) (by rw [upd_names]; exact h.uniq) (fun _ _ => rfl) (fun _ => .inl rfl) hs (fun i hi _ => by
    subst hi
    obtain ⟨h1, h2, h3⟩ := h.own nm n _ k hm ho hb
    exact ⟨h1, h2, h3, fun m n' j hne hn' ho' hj => hne (h.sep m n' nm n _ j k hn' hm ho' ho hj hb)⟩) (fun _ hk => hk) (fun _ hk => .inl hk) hN (fun _ b' k' hb' => ?_) (fun cs b' k' e hb' => ?_) (fun r fz sh xs e e2 h1 h2 => ?_)
  · obtain ⟨h1, h2, h3⟩ := h.own nm n b' k' hm ho hb'
    exact ⟨h1, h2, h3, fun m n' j hne hn' ho' hj => hne (h.sep m n' nm n b' j k' hn' hm ho' ho hj hb')⟩
  · obtain ⟨cs', rfl⟩ := hobj cs e
    exact h.obj nm cs' b' k' hm hb'
  · obtain ⟨fz', sh', xs', rfl⟩ := hrow fz sh xs e2
    subst e
    exact h.rw_ r _ _ _ hm h1 h2
/-- A row without a block (nil) is told anew. -/
theorem Inv.dead (h : Inv fr φ F s a w) {nm : Nm} {n : Node} (hn : find nm s.nodes = some n) : ∃ φ', Inv fr φ' F (s.setN nm .dead) a w ∧ φ' nm = .dead ∧ ∀ m, m ≠ nm → φ' m = φ m := by
  have hm := find_mem hn
  refine ⟨fun m => if m = nm then .dead else φ m, ?_, if_pos rfl, fun m hne => if_neg hne⟩
  refine h.node nm .dead _ (fun _ => False) (mem_upd h.uniq ⟨n, hm⟩) (by rw [upd_names]; exact h.uniq) (fun m hne => if_neg hne) (fun _ => .inr (if_pos rfl)) (Stp.refl _ _) (fun _ hf => hf.elim) (fun _ hk => hk) (fun _ hk => .inl hk) (if_pos rfl) (fun e => by cases e) (fun cs b k e => by cases e) (fun _ _ _ _ _ e => by cases e)
theorem Keeps.refl (F B : Nat → Prop) (w : World) : Keeps F B w w := ⟨fun _ _ => rfl, fun _ _ => rfl, fun _ _ => rfl⟩
/-- A row is only read from here on. -/
theorem Inv.freeze (h : Inv fr φ F s a w) {nm : Nm} {sh : Option Nat} {xs : List CV} (hn : find nm s.nodes = some (.row false sh xs)) :
    ∃ F', Inv fr φ F' (s.setN nm (.row true sh xs)) a w ∧ (∀ k, F k → F' k) ∧ ∀ b k, φ nm = .at_ (some b) k → F' b := by
  have hm := find_mem hn
  have hr := h.nd nm _ hm
  refine ⟨fun k => F k ∨ ∃ j, φ nm = .at_ (some k) j, ?_, fun _ => .inl, fun b k hb => .inr ⟨k, hb⟩⟩
  refine h.node nm (.row true sh xs) _ (fun _ => False) (mem_upd h.uniq ⟨_, hm⟩) (by rw [upd_names]; exact h.uniq) (fun _ _ => rfl) (fun _ => .inl rfl) (Stp.refl _ _) (fun _ hf => hf.elim) (fun _ => .inl) (fun k hk => hk.imp id fun ⟨j, hj⟩ => ⟨rfl, _, j, hm, rfl, hj⟩) ?_ (fun e => by cases e) (fun cs b k e => by cases e) (fun r _ _ _ e _ h1 h2 => by subst e; exact h.rw_ r _ _ _ hm h1 h2)
  obtain ⟨h0, blk, h1, h2, h3⟩ := hr
  refine ⟨h0, blk, h1, h2, fun b hb => ?_⟩
  obtain ⟨h4, h5, h6, h7⟩ := h3 b hb
  subst hb
  exact ⟨h4, fun _ => .inr ⟨_, h1⟩, h6, fun i x hx => (h7 i x hx).mono (fun _ => .inl) (fun _ _ => rfl) rfl⟩
/-- A block is laid under a name that nothing has. -/
theorem Inv.new (h : Inv fr φ F s a w) {nm : Nm} (hn : find nm s.nodes = none) (N : Node) (loc : Loc) {T : Nat → Prop} (hs : Stp T w w') (hT : ∀ k, T k → k < w.heap.size → ¬ F k ∧ ¬ fr.B k ∧ (fr.S0 k ∨ fr.w0.heap.size ≤ k) ∧ ∀ m n j, m ≠ nm → (m, n) ∈ s.nodes → n.own = true → φ m ≠ .at_ (some k) j)
    (hloc : ∀ b k, loc = .at_ (some b) k → ¬ F b ∧ ¬ fr.B b ∧ (fr.S0 b ∨ fr.w0.heap.size ≤ b) ∧ ∀ m n j, m ≠ nm → (m, n) ∈ s.nodes → n.own = true → φ m ≠ .at_ (some b) j)
    (h0 : ∀ cs b k, N = .obj cs → fr.φ0 nm = .at_ (some b) k → ∃ k', loc = .at_ (some b) k') (hN : ∀ φ', (∀ m, m ≠ nm → φ' m = φ m) → φ' nm = loc → Phi φ φ' → NRel w' φ' F fr.B nm N) (hnm : okNm nm = true) :
    ∃ φ', Inv fr φ' F ⟨s.tmps, (nm, N) :: s.nodes⟩ a w' ∧ φ' nm = loc ∧ (∀ m, m ≠ nm → φ' m = φ m) ∧ Phi φ φ' := by
  have habs : φ nm = .absent := by
    cases e : φ nm with
    | absent => rfl
    | dead => obtain ⟨n, hm⟩ := h.dom nm (by rw [e]; simp); exact absurd hm (find_none hn n)
    | at_ b k => obtain ⟨n, hm⟩ := h.dom nm (by rw [e]; simp); exact absurd hm (find_none hn n)
  have hφ : Phi φ (fun m => if m = nm then loc else φ m) := fun m hm => by
    by_cases e : m = nm
    · subst e; exact absurd habs hm
    · exact .inl (if_neg e)
  refine ⟨fun m => if m = nm then loc else φ m, ?_, if_pos rfl, fun m hne => if_neg hne, hφ⟩
  refine h.node nm N _ T (fun m n => ?_) ?_ (fun m hne => if_neg hne) (fun hne => absurd habs hne) hs hT (fun _ hk => hk) (fun _ hk => .inl hk) (hN _ (fun m hne => if_neg hne) (if_pos rfl) hφ) (fun _ b k hb => hloc b k ((if_pos rfl).symm.trans hb)) (fun cs b k e hb => by rw [if_pos rfl]; exact h0 cs b k e hb) (fun r _ _ _ e _ h1 h2 => by
    subst e
    rcases okNm_one hnm with h | h <;> omega)
  · simp only [List.mem_cons, Prod.mk.injEq]
    constructor
    · rintro (hx | hx)
      · exact .inl hx
      · refine .inr ⟨fun e => ?_, hx⟩
        subst e
        exact find_none hn n hx
    · rintro (hx | hx)
      · exact .inl hx
      · exact .inr hx.2
  · simp only [List.map_cons, List.nodup_cons]
    refine ⟨fun hx => ?_, h.uniq⟩
    obtain ⟨p, hp, rfl⟩ := List.mem_map.1 hx
    exact find_none hn p.2 hp
end
end Go.Proofs.YtidniahglagllaaS
