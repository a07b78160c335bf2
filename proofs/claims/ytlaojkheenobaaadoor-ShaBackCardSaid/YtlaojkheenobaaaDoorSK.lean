/- A turn of names. -/
import Derived.Test.YtlaojkheenobaaaDoorSJ
namespace Go.Proofs.YtlaojkheenobaaaDoorS
open Go Go.RowKit
set_option linter.unusedVariables false
set_option linter.unusedSimpArgs false
theorem mem_renN {σ : Nm → Sb} {m' : Nm} {n' : Node} : ∀ {l : Nodes}, (m', n') ∈ renN σ l ↔ ∃ m n, (m, n) ∈ l ∧ σ m = .to m' ∧ n' = n.ren σ
  | [] => by simp [renN]
  | (q, k) :: l => by
    unfold renN
    cases e : σ q with
    | gone =>
      simp only [mem_renN (l := l), List.mem_cons, Prod.mk.injEq]
      constructor
      · rintro ⟨m, n, h1, h2, h3⟩; exact ⟨m, n, .inr h1, h2, h3⟩
      · rintro ⟨m, n, h1 | h1, h2, h3⟩
        · rw [h1.1, e] at h2; cases h2
        · exact ⟨m, n, h1, h2, h3⟩
    | to q' =>
      simp only [mem_renN (l := l), List.mem_cons, Prod.mk.injEq]
      constructor
      · rintro (h | ⟨m, n, h1, h2, h3⟩)
        · exact ⟨q, k, .inl ⟨rfl, rfl⟩, by rw [e, h.1], h.2⟩
        · exact ⟨m, n, .inr h1, h2, h3⟩
      · rintro ⟨m, n, h1 | h1, h2, h3⟩
        · obtain ⟨rfl, rfl⟩ := h1
          rw [e] at h2
          cases h2
          exact .inl ⟨rfl, h3⟩
        · exact .inr ⟨m, n, h1, h2, h3⟩
theorem nodupN_iff : ∀ {l : List Nm}, nodupN l = true ↔ l.Nodup
  | [] => by simp [nodupN]
  | a :: l => by
    rw [nodupN, Bool.and_eq_true, List.nodup_cons, nodupN_iff (l := l), Bool.not_eq_true', List.any_eq_false]
    constructor
    · rintro ⟨h1, h2⟩
      exact ⟨fun hm => h1 a hm (nmEq_refl a), h2⟩
    · rintro ⟨h1, h2⟩
      exact ⟨fun x hx he => h1 (by rw [nmEq_iff.1 he]; exact hx), h2⟩
section
variable {fr : Fr} {φ φ' : Nm → Loc} {F F' B : Nat → Prop} {s : St} {a : Act} {w w' : World}
theorem VRel.ren0 {σ : Nm → Sb} (hσ : ∀ m m', φ m ≠ .absent → σ m = .to m' → φ' m' = φ m) {x : AVal} {v : Value} (h : VRel w φ F B x v) : VRel w φ' F B (x.ren0 σ) v := by
  cases h with
  | v h => exact .v h
  | sl h => exact .sl h
  | nil0 A => exact .nil0 A
  | @oslD nm sh off len h A n c =>
    simp only [AVal.ren0]
    cases e : σ nm with
    | to m => exact .oslD ((hσ nm m (by rw [h]; simp) e).trans h) A n c
    | gone => exact .undef _
  | @osl nm sh off len blk n v h h' =>
    simp only [AVal.ren0]
    cases e : σ nm with
    | to m => exact .osl ((hσ nm m (by rw [h]; simp) e).trans h) h'
    | gone => exact .undef _
  | @ptrD nm sz i j h A =>
    simp only [AVal.ren0]
    cases e : σ nm with
    | to m => exact .ptrD ((hσ nm m (by rw [h]; simp) e).trans h) A
    | gone => exact .undef _
  | @ptr nm sz i j b n h =>
    simp only [AVal.ren0]
    cases e : σ nm with
    | to m => exact .ptr ((hσ nm m (by rw [h]; simp) e).trans h)
    | gone => exact .undef _
  | bptr hb h => exact .bptr hb h
  | agg hl ho h => exact .undef _
  | @tup cs vs hl h =>
    cases cs with
    | nil => exact .tup hl (fun j c v hc => by simp at hc)
    | cons c cs => exact .undef _
  | fn hl h => exact .undef _
  | undef v => exact .undef v
theorem cellOk_ren0 {σ : Nm → Sb} {c : AVal} (h : c.cellOk) : (c.ren0 σ).cellOk := by
  cases c with
  | osl nm sh off len => simp only [AVal.ren0]; cases σ nm <;> trivial
  | ptr nm sz i j => simp only [AVal.ren0]; cases σ nm <;> trivial
  | tup l => cases l <;> exact h.elim
  | agg l => exact h.elim
  | _ => exact h
theorem cellOk_ren1 {σ : Nm → Sb} {c : AVal} (h : c.cellOk) : (c.ren1 σ).cellOk := by
  cases c with
  | agg l => exact h.elim
  | fn g cs => trivial
  | osl nm sh off len => exact cellOk_ren0 (σ := σ) h
  | ptr nm sz i j => exact cellOk_ren0 (σ := σ) h
  | tup l => exact h.elim
  | _ => exact h
theorem VRel.ren1 {σ : Nm → Sb} (hσ : ∀ m m', φ m ≠ .absent → σ m = .to m' → φ' m' = φ m) {x : AVal} {v : Value} (h : VRel w φ F B x v) : VRel w φ' F B (x.ren1 σ) v := by
  have h0 := VRel.ren0 (φ' := φ') hσ h
  cases h with
  | agg hl ho h =>
    refine .agg (by rw [List.length_map]; exact hl) (fun c hc => ?_) (fun j c v hc hv => ?_)
    · obtain ⟨c0, h0, rfl⟩ := List.mem_map.1 hc
      exact cellOk_ren0 (ho c0 h0)
    rw [List.getElem?_map, Option.map_eq_some_iff] at hc
    obtain ⟨c0, hc0, rfl⟩ := hc
    exact (h j c0 v hc0 hv).ren0 hσ
  | fn hl h =>
    refine .fn (by rw [List.length_map]; exact hl) (fun j c v hc hv => ?_)
    rw [List.getElem?_map, Option.map_eq_some_iff] at hc
    obtain ⟨c0, hc0, rfl⟩ := hc
    exact (h j c0 v hc0 hv).ren0 hσ
  | _ => exact h0
theorem VRel.ren {σ : Nm → Sb} (hσ : ∀ m m', φ m ≠ .absent → σ m = .to m' → φ' m' = φ m) {x : AVal} {v : Value} (h : VRel w φ F B x v) : VRel w φ' F B (x.ren σ) v := by
  have h0 := VRel.ren1 (φ' := φ') hσ h
  cases h with
  | tup hl h =>
    refine .tup (by rw [List.length_map]; exact hl) (fun j c v hc hv => ?_)
    rw [List.getElem?_map, Option.map_eq_some_iff] at hc
    obtain ⟨c0, hc0, rfl⟩ := hc
    exact (h j c0 v hc0 hv).ren1 hσ
  | _ => exact h0
theorem NRel.ren {σ : Nm → Sb} (hσ : ∀ m m', φ m ≠ .absent → σ m = .to m' → φ' m' = φ m) {nm nm' : Nm} {n : Node} (hn : φ' nm' = φ nm) (h : NRel w φ F B nm n) : NRel w φ' F B nm' (n.ren σ) := by
  cases n with
  | row fz sh xs => obtain ⟨h0, blk, h1, h2⟩ := h; exact ⟨h0, blk, hn.trans h1, h2⟩
  | obj cs =>
    obtain ⟨b, h1, h2, h3, ho, h4⟩ := h
    refine ⟨b, hn.trans h1, h2, by rw [List.length_map]; exact h3, fun c hc => ?_, fun j c hc => ?_⟩
    · obtain ⟨c0, h0, rfl⟩ := List.mem_map.1 hc
      exact cellOk_ren1 (ho c0 h0)
    rw [List.getElem?_map, Option.map_eq_some_iff] at hc
    obtain ⟨c0, hc0, rfl⟩ := hc
    obtain ⟨v, hv, hr⟩ := h4 j c0 hc0
    exact ⟨v, hv, hr.ren1 hσ⟩
  | iter t p => obtain ⟨b, h1, h2⟩ := h; exact ⟨b, hn.trans h1, h2⟩
  | dead => exact hn.trans h
theorem Node.own_ren {σ : Nm → Sb} (n : Node) : (n.ren σ).own = n.own := by cases n <;> rfl
theorem nth_map (f : AVal → AVal) (hf : f .undef = .undef) : ∀ (l : List AVal) (t : Nat), nth (l.map f) t = f (nth l t)
  | [], t => by simp [nth, hf]
  | _ :: _, 0 => rfl
  | _ :: l, t + 1 => by simp [nth, nth_map f hf l t]
/-- The places behind a turn of names. -/
theorem ren_phi {φ : Nm → Loc} {l : Nodes} (hdom : ∀ m, φ m ≠ .absent ↔ ∃ n, (m, n) ∈ l) (huq : (l.map (·.1)).Nodup) (σ : Nm → Sb) (hu : ((renN σ l).map (·.1)).Nodup) :
    ∃ φ' : Nm → Loc, (∀ m m', φ m ≠ .absent → σ m = .to m' → φ' m' = φ m) ∧ (∀ m', φ' m' ≠ .absent → ∃ m, φ m ≠ .absent ∧ σ m = .to m' ∧ φ' m' = φ m) ∧ ∀ m m1 m', φ m ≠ .absent → φ m1 ≠ .absent → σ m = .to m' → σ m1 = .to m' → m = m1 := by
  classical
  have huniq : ∀ m m1 m', φ m ≠ .absent → φ m1 ≠ .absent → σ m = .to m' → σ m1 = .to m' → m = m1 := by
    have key : ∀ (l : Nodes), ((renN σ l).map (·.1)).Nodup → (l.map (·.1)).Nodup → ∀ m n m1 n1 m', (m, n) ∈ l → (m1, n1) ∈ l → σ m = .to m' → σ m1 = .to m' → m = m1 := by
      intro l
      induction l with
      | nil => intro _ _ m n m1 n1 m' hm; simp at hm
      | cons p l ih =>
        obtain ⟨q, k⟩ := p
        intro h1 h2 m n m1 n1 m' hm hm1 e e1
        simp only [List.map_cons, List.nodup_cons] at h2
        simp only [List.mem_cons, Prod.mk.injEq] at hm hm1
        have hrest : ((renN σ l).map (·.1)).Nodup := by
          unfold renN at h1
          cases eq : σ q with
          | gone => rw [eq] at h1; exact h1
          | to q' => rw [eq] at h1; simp only [List.map_cons, List.nodup_cons] at h1; exact h1.2
        have clash : ∀ x y, x = q → (y, n1) ∈ l ∨ (∃ n0, (y, n0) ∈ l) → σ x = .to m' → σ y = .to m' → False := by
          intro x y hx hy ex ey
          subst hx
          unfold renN at h1
          rw [ex] at h1
          simp only [List.map_cons, List.nodup_cons] at h1
          obtain ⟨n0, hn0⟩ : ∃ n0, (y, n0) ∈ l := hy.elim (fun h => ⟨_, h⟩) id
          exact h1.1 (List.mem_map.2 ⟨(m', n0.ren σ), mem_renN.2 ⟨y, n0, hn0, ey, rfl⟩, rfl⟩)
        rcases hm with hm | hm
        · rcases hm1 with hm1 | hm1
          · rw [hm.1, hm1.1]
          · exact (clash m m1 hm.1 (.inl hm1) e e1).elim
        · rcases hm1 with hm1 | hm1
          · exact (clash m1 m hm1.1 (.inr ⟨n, hm⟩) e1 e).elim
          · exact ih hrest h2.2 m n m1 n1 m' hm hm1 e e1
    intro m m1 m' hm hm1 e e1
    obtain ⟨n, hn⟩ := (hdom m).1 hm
    obtain ⟨n1, hn1⟩ := (hdom m1).1 hm1
    exact key l hu huq m n m1 n1 m' hn hn1 e e1
  let φ' : Nm → Loc := fun m' => if hx : ∃ m, φ m ≠ .absent ∧ σ m = .to m' then φ hx.choose else .absent
  have hσ : ∀ m m', φ m ≠ .absent → σ m = .to m' → φ' m' = φ m := fun m m' hm e => by
    have hx : ∃ m, φ m ≠ .absent ∧ σ m = .to m' := ⟨m, hm, e⟩
    show (if hx : ∃ m, φ m ≠ .absent ∧ σ m = .to m' then φ hx.choose else .absent) = φ m
    rw [dif_pos hx]
    rw [huniq _ m m' hx.choose_spec.1 hm hx.choose_spec.2 e]
  have hback : ∀ m', φ' m' ≠ .absent → ∃ m, φ m ≠ .absent ∧ σ m = .to m' ∧ φ' m' = φ m := fun m' hm => by
    by_cases hx : ∃ m, φ m ≠ .absent ∧ σ m = .to m'
    · obtain ⟨m, h1, h2⟩ := hx
      exact ⟨m, h1, h2, hσ m m' h1 h2⟩
    · exact absurd (dif_neg hx) hm
  exact ⟨φ', hσ, hback, huniq⟩
theorem Inv.dom_iff (h : Inv fr φ F s a w) (m : Nm) : φ m ≠ .absent ↔ ∃ n, (m, n) ∈ s.nodes :=
  ⟨h.dom m, fun ⟨n, hn⟩ => by
    have := h.nd m n hn
    intro e
    cases n with
    | row fz sh xs => obtain ⟨_, blk, h1, _⟩ := this; rw [e] at h1; cases h1
    | obj cs => obtain ⟨b, h1, _⟩ := this; rw [e] at h1; cases h1
    | iter t p => obtain ⟨b, h1, _⟩ := this; rw [e] at h1; cases h1
    | dead => rw [NRel, e] at this; cases this⟩
/-- Names are turned. -/
theorem Inv.ren (h : Inv fr φ F s a w) (σ : Nm → Sb) (hu : ((s.ren σ).nodes.map (·.1)).Nodup) (hobj : ∀ m m' cs, (m, .obj cs) ∈ s.nodes → σ m = .to m' → m' = m ∨ fr.φ0 m' = .absent) (hrow : ∀ m m', σ m = .to m' → m' = m ∨ okNm m' = true) :
    ∃ φ', Inv fr φ' F (s.ren σ) a w ∧ ∀ m m', φ m ≠ .absent → σ m = .to m' → φ' m' = φ m := by
  have hdom := h.dom_iff
  obtain ⟨φ', hσ, hback, huniq⟩ := ren_phi hdom h.uniq σ hu
  refine ⟨φ', { len := by show (s.tmps.map _).length = _; rw [List.length_map]; exact h.len, tm := fun t => ?_, nd := fun m' n' hn => ?_, dom := fun m' hm => ?_, uniq := hu, sep := ?_, own := ?_, fb := h.fb, f0 := h.f0, fin := h.fin, step := h.step, obj := ?_, rw_ := ?_, defers := h.defers }, hσ⟩
  · show VRel w φ' F fr.B (nth (s.tmps.map _) t) _
    rw [nth_map _ rfl]
    exact (h.tm t).ren hσ
  · obtain ⟨m, n, hm, e, rfl⟩ := mem_renN.1 hn
    have hne := (hdom m).2 ⟨n, hm⟩
    exact (h.nd m n hm).ren hσ (hσ m m' hne e)
  · obtain ⟨m, h1, h2, _⟩ := hback m' hm
    obtain ⟨n, hn⟩ := (hdom m).1 h1
    exact ⟨_, mem_renN.2 ⟨m, n, hn, h2, rfl⟩⟩
  · intro p n p1 n1 b k k1 hn hn1 ho ho1 hb hb1
    obtain ⟨m, n0, hm, e, rfl⟩ := mem_renN.1 hn
    obtain ⟨m1, n10, hm1, e1, rfl⟩ := mem_renN.1 hn1
    have hne := (hdom m).2 ⟨n0, hm⟩
    have hne1 := (hdom m1).2 ⟨n10, hm1⟩
    rw [hσ m p hne e] at hb
    rw [hσ m1 p1 hne1 e1] at hb1
    have := h.sep m n0 m1 n10 b k k1 hm hm1 (by rw [← Node.own_ren (σ := σ)]; exact ho) (by rw [← Node.own_ren (σ := σ)]; exact ho1) hb hb1
    rw [this, e1] at e
    cases e
    rfl
  · intro p n b k hn ho hb
    obtain ⟨m, n0, hm, e, rfl⟩ := mem_renN.1 hn
    rw [hσ m p ((hdom m).2 ⟨n0, hm⟩) e] at hb
    exact h.own m n0 b k hm (by rw [← Node.own_ren (σ := σ)]; exact ho) hb
  · intro p cs b k hn hb
    obtain ⟨m, n0, hm, e, e2⟩ := mem_renN.1 hn
    cases n0 with
    | obj cs0 =>
      rcases hobj m p cs0 hm e with this | this
      · subst this
        rw [hσ p p ((hdom p).2 ⟨_, hm⟩) e]
        exact h.obj p cs0 b k hm hb
      · rw [this] at hb; cases hb
    | row => cases e2
    | iter => cases e2
    | dead => cases e2
  · intro r fz sh xs hn h1 h2
    obtain ⟨m, n0, hm, e, e2⟩ := mem_renN.1 hn
    cases n0 with
    | row fz0 sh0 xs0 =>
      rcases hrow m [r] e with this | this
      · subst this
        rw [hσ [r] [r] ((hdom [r]).2 ⟨_, hm⟩) e]
        exact h.rw_ r _ _ _ hm h1 h2
      · rcases okNm_one this with h | h <;> omega
    | obj => cases e2
    | iter => cases e2
    | dead => cases e2
end
end Go.Proofs.YtlaojkheenobaaaDoorS
