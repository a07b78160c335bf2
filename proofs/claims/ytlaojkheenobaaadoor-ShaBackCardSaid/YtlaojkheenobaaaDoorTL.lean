/- A table of types is the program's: a check that the kernel runs. -/
import Derived.Test.YtlaojkheenobaaaDoorTV
namespace Go.Proofs.YtlaojkheenobaaaDoorS
open Go Go.RowKit
set_option linter.unusedVariables false
set_option linter.unusedSimpArgs false
def cvIs : CV → Value → Bool
  | .int k n, .int k' n' => decide (k = k') && decide (n = n')
  | .bool b, .bool b' => b == b'
  | .str s, .string s' => decide (s.data = s'.data)
  | .nilp, .pointer none => true
  | .slc _ [], .slice _ 0 _ => true
  | _, _ => false
def cvsAre : List CV → List Value → Bool
  | [], [] => true
  | c :: cs, v :: vs => cvIs c v && !c.isAgg && cvsAre cs vs
  | _, _ => false
def avIs0 : AVal → Value → Bool
  | .v c, v => cvIs c v && !c.isAgg
  | .nil0 _, .slice _ 0 0 => true
  | _, _ => false
def avsAre : List AVal → List Value → Bool
  | [], [] => true
  | c :: cs, v :: vs => avIs0 c v && avsAre cs vs
  | _, _ => false
def avIs : AVal → Value → Bool
  | .undef, _ => true
  | .v (.agg cs), .agg vs => cvsAre cs vs.toList
  | .agg cs, .agg vs => avsAre cs vs.toList
  | a, v => avIs0 a v
section
variable {P : Program} {φ : Nm → Loc} {F B : Nat → Prop} {w : World}
theorem cvIs_rel {c : CV} {v : Value} (h : cvIs c v = true) : CRel w F c v := by
  unfold cvIs at h
  split at h
  · rw [Bool.and_eq_true] at h
    rw [of_decide_eq_true h.1, of_decide_eq_true h.2]; exact .int _ _
  · rw [eq_of_beq h]; exact .bool _
  · next s s' =>
    have : s = s' := by cases s; cases s'; simp at h; rw [h]
    rw [this]; exact .str _
  · exact .nilp
  · exact .slc0 _ _ _
  · cases h
theorem cvsAre_rel : ∀ {cs : List CV} {vs : List Value}, cvsAre cs vs = true → cs.length = vs.length ∧ (∀ c ∈ cs, c.isAgg = false) ∧ ∀ (j : Nat) c v, cs[j]? = some c → vs[j]? = some v → CRel w F c v
  | [], [], _ => ⟨rfl, fun c h => by simp at h, fun j c v h => by simp at h⟩
  | [], _ :: _, h => by cases h
  | _ :: _, [], h => by cases h
  | c :: cs, v :: vs, h => by
    have h' : (cvIs c v && !c.isAgg && cvsAre cs vs) = true := h
    rw [Bool.and_eq_true, Bool.and_eq_true] at h'
    obtain ⟨⟨h1, h2⟩, h3⟩ := h'
    obtain ⟨g1, g2, g3⟩ := cvsAre_rel h3
    refine ⟨by simp [g1], fun c' hc => ?_, fun j c' v' hc hv => ?_⟩
    · rcases List.mem_cons.1 hc with rfl | hc
      · simpa using h2
      · exact g2 c' hc
    · cases j with
      | zero => simp at hc hv; subst hc hv; exact cvIs_rel h1
      | succ j => exact g3 j c' v' (by simpa using hc) (by simpa using hv)
theorem avIs0_rel {a : AVal} {v : Value} (h : avIs0 a v = true) : VRel w φ F B a v ∧ a.cellOk := by
  unfold avIs0 at h
  split at h
  · rw [Bool.and_eq_true] at h
    exact ⟨.v (cvIs_rel h.1), by simpa [AVal.cellOk] using h.2⟩
  · exact ⟨.nil0 _, trivial⟩
  · cases h
theorem avsAre_rel : ∀ {cs : List AVal} {vs : List Value}, avsAre cs vs = true → cs.length = vs.length ∧ (∀ c ∈ cs, c.cellOk) ∧ ∀ (j : Nat) c v, cs[j]? = some c → vs[j]? = some v → VRel w φ F B c v
  | [], [], _ => ⟨rfl, fun c h => by simp at h, fun j c v h => by simp at h⟩
  | [], _ :: _, h => by cases h
  | _ :: _, [], h => by cases h
  | c :: cs, v :: vs, h => by
    have h' : (avIs0 c v && avsAre cs vs) = true := h
    rw [Bool.and_eq_true] at h'
    obtain ⟨h1, h3⟩ := h'
    obtain ⟨g1, g2, g3⟩ := avsAre_rel h3
    refine ⟨by simp [g1], fun c' hc => ?_, fun j c' v' hc hv => ?_⟩
    · rcases List.mem_cons.1 hc with rfl | hc
      · exact (avIs0_rel (w := w) (φ := φ) (F := F) (B := B) h1).2
      · exact g2 c' hc
    · cases j with
      | zero => simp at hc hv; subst hc hv; exact (avIs0_rel h1).1
      | succ j => exact g3 j c' v' (by simpa using hc) (by simpa using hv)
theorem avIs_rel {a : AVal} {v : Value} (h : avIs a v = true) : VRel w φ F B a v := by
  unfold avIs at h
  split at h
  · exact .undef _
  · next cs vs =>
    obtain ⟨g1, g2, g3⟩ := cvsAre_rel (w := w) (F := F) h
    have := CRel.agg (w := w) (F := F) g1 g2 g3
    exact .v (by simpa using this)
  · next cs vs =>
    obtain ⟨g1, g2, g3⟩ := avsAre_rel (w := w) (φ := φ) (F := F) (B := B) h
    have := VRel.agg (w := w) (φ := φ) (F := F) (B := B) g1 g2 g3
    simpa using this
  · exact (avIs0_rel h).1
end
def fieldsAre : List (Nat × Nat) → List Field → Bool
  | [], [] => true
  | p :: l, f :: fs => Nat.beq f.offset p.1 && Nat.beq f.type p.2 && fieldsAre l fs
  | _, _ => false
def placesOk (P : Program) : List Field → Bool
  | [] => true
  | f :: fs => (match P.info? f.type with
    | some _ => true
    | none => false) && placesOk P fs
def tdIs (P : Program) (td : TD) (u : Option TypeDesc) : Bool := match td, u with
  | .int k, some (.int k') => decide (k = k')
  | .bool, some .bool => true
  | .str, some .string => true
  | .ptr e, some (.pointer e') => Nat.beq e e'
  | .slice e, some (.slice e') => Nat.beq e e'
  | .arr n e, some (.array n' e') => Nat.beq n n' && Nat.beq e e'
  | .struct fs, some (.struct fields) => fieldsAre fs fields.toList && placesOk P fields.toList
  | .func, some (.func ..) => true
  | _, _ => false
def rowIs (P : Program) (t : Nat) (i : TI) : Bool := tdIs P i.td (P.underlying t) && (match P.info? t with
  | some inf => Nat.beq inf.size i.size && Nat.beq inf.bytes i.bytes && (match inf.zero with
    | some z => avIs i.zero z && Nat.beq z.cells.size i.size
    | none => false)
  | none => false) && i.zero.lv1.isEmpty
def tabOf : List (Nat × TI) → Tab
  | [], _ => none
  | (t, i) :: l, n => bif Nat.beq t n then some i else tabOf l n
def rowsAre (P : Program) : List (Nat × TI) → Bool
  | [] => true
  | (t, i) :: l => rowIs P t i && rowsAre P l
section
variable {P : Program}
theorem tabOf_ok : ∀ {l : List (Nat × TI)}, rowsAre P l = true → ∀ t i, tabOf l t = some i → rowIs P t i = true
  | [], _, t, i, h => by cases h
  | (u, j) :: l, hr, t, i, h => by
    have hr' : (rowIs P u j && rowsAre P l) = true := hr
    rw [Bool.and_eq_true] at hr'
    unfold tabOf at h
    cases e : Nat.beq u t with
    | true =>
      rw [e] at h
      have := Nat.eq_of_beq_eq_true e
      subst this
      cases h
      exact hr'.1
    | false => rw [e] at h; exact tabOf_ok hr'.2 t i h
theorem fieldsAre_spec : ∀ {l : List (Nat × Nat)} {fs : List Field}, fieldsAre l fs = true → l.length = fs.length ∧ ∀ (f : Nat) p, l[f]? = some p → ∃ fd, fs[f]? = some fd ∧ fd.offset = p.1 ∧ fd.type = p.2
  | [], [], _ => ⟨rfl, fun f p h => by simp at h⟩
  | [], _ :: _, h => by cases h
  | _ :: _, [], h => by cases h
  | p :: l, f :: fs, h => by
    have h' : (Nat.beq f.offset p.1 && Nat.beq f.type p.2 && fieldsAre l fs) = true := h
    rw [Bool.and_eq_true, Bool.and_eq_true] at h'
    obtain ⟨⟨h1, h2⟩, h3⟩ := h'
    obtain ⟨g1, g2⟩ := fieldsAre_spec h3
    refine ⟨by simp [g1], fun j q hq => ?_⟩
    cases j with
    | zero => simp at hq; subst hq; exact ⟨f, rfl, Nat.eq_of_beq_eq_true h1, Nat.eq_of_beq_eq_true h2⟩
    | succ j => exact g2 j q (by simpa using hq)
theorem placesOk_spec : ∀ {fs : List Field}, placesOk P fs = true → ∃ places, fs.mapM (fun f => (P.info? f.type).map fun i => (f.offset, i.size)) = some places
  | [], _ => ⟨[], rfl⟩
  | f :: fs, h => by
    have h' : ((match P.info? f.type with | some _ => true | none => false) && placesOk P fs) = true := h
    rw [Bool.and_eq_true] at h'
    obtain ⟨h1, h2⟩ := h'
    obtain ⟨ps, hp⟩ := placesOk_spec h2
    cases e : P.info? f.type with
    | none => rw [e] at h1; cases h1
    | some i => exact ⟨(f.offset, i.size) :: ps, by rw [List.mapM_cons, e]; simp [hp]⟩
theorem tdIs_spec {td : TD} {u : Option TypeDesc} (h : tdIs P td u = true) : TDOk td u ∧ td ≠ .other := by
  unfold tdIs at h
  split at h
  · rw [of_decide_eq_true h]; exact ⟨rfl, by simp⟩
  · exact ⟨rfl, by simp⟩
  · exact ⟨rfl, by simp⟩
  · rw [Nat.eq_of_beq_eq_true h]; exact ⟨rfl, by simp⟩
  · rw [Nat.eq_of_beq_eq_true h]; exact ⟨rfl, by simp⟩
  · rw [Bool.and_eq_true] at h
    rw [Nat.eq_of_beq_eq_true h.1, Nat.eq_of_beq_eq_true h.2]; exact ⟨rfl, by simp⟩
  · next fs fields =>
    rw [Bool.and_eq_true] at h
    obtain ⟨g1, g2⟩ := fieldsAre_spec h.1
    refine ⟨⟨fields, rfl, by simpa using g1, fun f p hp => ?_⟩, by simp⟩
    obtain ⟨fd, h1, h2⟩ := g2 f p hp
    exact ⟨fd, by simpa using h1, h2⟩
  · exact ⟨⟨_, _, _, rfl⟩, by simp⟩
  · cases h
theorem tabOf_noOther {l : List (Nat × TI)} (h : rowsAre P l = true) : NoOther (tabOf l) := fun t i ht => by
  have := tabOf_ok h t i ht
  unfold rowIs at this
  rw [Bool.and_eq_true, Bool.and_eq_true] at this
  exact (tdIs_spec this.1.1).2
theorem tabOf_tabOk {l : List (Nat × TI)} (h : rowsAre P l = true) : TabOk (tabOf l) P where
  places := fun t fs sz by_ z ht => by
    have := tabOf_ok h t _ ht
    unfold rowIs at this
    rw [Bool.and_eq_true, Bool.and_eq_true] at this
    have h1 := this.1.1
    simp only at h1
    unfold tdIs at h1
    split at h1 <;> first | (cases h1; done) | skip
    all_goals first
      | (next heq _ => cases heq; done)
      | skip
    next fs' fields e1 e2 =>
      rw [Bool.and_eq_true] at h1
      obtain ⟨ps, hp⟩ := placesOk_spec h1.2
      exact ⟨fields, ps, e2, hp⟩
  td := fun t i ht => by
    have := tabOf_ok h t i ht
    unfold rowIs at this
    rw [Bool.and_eq_true, Bool.and_eq_true] at this
    exact (tdIs_spec this.1.1).1
  info := fun t i ht => by
    have := tabOf_ok h t i ht
    unfold rowIs at this
    rw [Bool.and_eq_true, Bool.and_eq_true] at this
    obtain ⟨⟨_, h2⟩, h3⟩ := this
    split at h2
    · next inf e =>
      rw [Bool.and_eq_true, Bool.and_eq_true] at h2
      obtain ⟨⟨g1, g2⟩, g3⟩ := h2
      split at g3
      · next z ez =>
        rw [Bool.and_eq_true] at g3
        exact ⟨inf, z, e, Nat.eq_of_beq_eq_true g1, Nat.eq_of_beq_eq_true g2, ez, fun w φ F B => avIs_rel g3.1, Nat.eq_of_beq_eq_true g3.2, by simpa using h3⟩
      · cases g3
    · cases h2
end
end Go.Proofs.YtlaojkheenobaaaDoorS
