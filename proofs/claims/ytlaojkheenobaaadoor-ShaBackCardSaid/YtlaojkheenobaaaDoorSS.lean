/- Fields, lengths, the rest of what only computes. -/
import Derived.Test.YtlaojkheenobaaaDoorSQ
namespace Go.Proofs.YtlaojkheenobaaaDoorS
open Go Go.RowKit
set_option linter.unusedVariables false
set_option linter.unusedSimpArgs false
section
variable {X : Type} {P : Program} {T : Tab} {fr : Fr} {φ φ' : Nm → Loc} {F F' B : Nat → Prop} {s : St} {a : Act} {w w' : World} {out : X}
theorem struct_spec (hT : TabOk T P) {t : Nat} {fs : List (Nat × Nat)} {sz by_ : Nat} {z : AVal} (e : T t = some ⟨.struct fs, sz, by_, z⟩) {f : Nat} {p : Nat × Nat} (hp : fs[f]? = some p) :
    ∃ (fields : Array Field) (fd : Field), P.underlying t = some (.struct fields) ∧ fields[f]? = some fd ∧ fd.offset = p.1 ∧ fd.type = p.2 := by
  obtain ⟨fields, hu, _, hf⟩ := hT.td t _ e
  obtain ⟨fd, h1, h2, h3⟩ := hf f p hp
  exact ⟨fields, fd, hu, h1, h2, h3⟩
theorem evField0_sound (hT : TabOk T P) (hO : NoOther T) {t f : Nat} {x : AVal} {vx : Value} {K : AVal → Option X} (h : evField0 T t x f K = some out) (hx : VRel w φ F B x vx) :
    ∃ z v, K z = some out ∧ VRel w φ F B z v ∧ (Instr.field t vx f).run P w = .ok v w := by
  unfold evField0 at h
  split at h
  · next fs _ _ _ eq =>
    obtain ⟨⟨off, ft⟩, hp, h2⟩ := bind_some h
    obtain ⟨fields, fd, hu, hfd, rfl, rfl⟩ := struct_spec hT eq hp
    simp only at h2
    clear h
    split at h2
    · next cs =>
      obtain ⟨h1, h3⟩ := grd_some h2
      clear h2
      have hsz := (size_spec hT h1).1
      obtain ⟨vs, rfl⟩ : ∃ vs : List Value, vx = .agg vs.toArray := by cases hx with | agg hl ho hr => exact ⟨_, rfl⟩
      cases ha : isAggT T fd.type with
      | true =>
        rw [ha] at h3
        obtain ⟨hle, h4⟩ := grd_some h3
        have hle := Nat.le_of_ble_eq_true hle
        refine ⟨_, _, h4, (hx.sub fd.offset (sizeT T fd.type)).mkAgg, ?_⟩
        unfold Instr.field
        simp only [Sem.run_bind, run_underlying hu, Result.andThen_ok, hfd, asAgg, Sem.run_pure, part, isAggT_spec hT ha, if_true, hsz]
        simp [List.extract_eq_take_drop]
      | false =>
        rw [ha] at h3
        obtain ⟨c, hc, h4⟩ := bind_some h3
        obtain ⟨v, hv, hr⟩ : ∃ v, vs[fd.offset]? = some v ∧ VRel w φ F B c v := by
          generalize hA : Value.agg vs.toArray = A at hx
          cases hx with
          | @agg _ vs' hl ho hr =>
            injection hA with hA
            injection hA with hA
            subst hA
            have hj := (List.getElem?_eq_some_iff.1 hc).1
            have hv : vs[fd.offset]? = some vs[fd.offset] := List.getElem?_eq_getElem (by omega)
            exact ⟨_, hv, hr _ _ _ hc hv⟩
          | _ => cases hA
        refine ⟨_, _, h4, hr, ?_⟩
        unfold Instr.field
        simp only [Sem.run_bind, run_underlying hu, Result.andThen_ok, hfd, asAgg, Sem.run_pure, part, agg_false hT h1 ha (hO _), Bool.false_eq_true, if_false]
        simp [hv]
    · next c =>
      obtain ⟨h1, h3⟩ := grd_some h2
      clear h2
      have hsz := (size_spec hT h1).1
      cases hx with | v hr =>
      cases ha : isAggT T fd.type with
      | true =>
        rw [ha] at h3
        obtain ⟨c', hc, h4⟩ := bind_some h3
        unfold CV.part at hc
        split at hc
        · next cs =>
          obtain ⟨vs, rfl⟩ := hr.agg_val
          cases hle : Nat.ble (fd.offset + sizeT T fd.type) cs.length with
          | false => rw [hle] at hc; cases hc
          | true =>
            rw [hle] at hc
            cases hc
            refine ⟨_, _, h4, .v (hr.sub fd.offset (sizeT T fd.type)), ?_⟩
            unfold Instr.field
            simp only [Sem.run_bind, run_underlying hu, Result.andThen_ok, hfd, asAgg, Sem.run_pure, part, isAggT_spec hT ha, if_true, hsz]
            simp [List.extract_eq_take_drop]
        · cases hc
      | false =>
        rw [ha] at h3
        obtain ⟨c', hc, h4⟩ := bind_some h3
        unfold CV.cell at hc
        split at hc
        · next cs =>
          obtain ⟨vs, rfl⟩ := hr.agg_val
          obtain ⟨v, hv, hr', _⟩ := hr.cell_ok hc
          refine ⟨_, _, h4, .v hr', ?_⟩
          unfold Instr.field
          simp only [Sem.run_bind, run_underlying hu, Result.andThen_ok, hfd, asAgg, Sem.run_pure, part, agg_false hT h1 ha (hO _), Bool.false_eq_true, if_false]
          simp [hv]
        · cases hc
    · cases h2
  · cases h
theorem evField_sound (hT : TabOk T P) (hO : NoOther T) {t f : Nat} {x : AVal} {vx : Value} {K : AVal → Option X} (h : evField T t x f K = some out) (hx : VRel w φ F B x vx) :
    ∃ z v, K z = some out ∧ VRel w φ F B z v ∧ (Instr.field t vx f).run P w = .ok v w := by
  obtain ⟨z, v, h1, h2, h3⟩ := evField0_sound hT hO h hx
  obtain ⟨y, h4, h5⟩ := typed_sound h1 h2
  exact ⟨y, v, h4, h5, h3⟩
theorem evFieldAddr_sound (hT : TabOk T P) {t f : Nat} {x : AVal} {vx : Value} {K : AVal → Option X} (h : evFieldAddr T t x f K = some out) (hx : VRel w φ F B x vx) :
    ∃ z v, K z = some out ∧ VRel w φ F B z v ∧ (Instr.fieldAt t vx f).run P w = .ok v w := by
  unfold evFieldAddr at h
  split at h
  · next fs _ _ _ eq =>
    obtain ⟨⟨off, ft⟩, hp, h2⟩ := bind_some h
    obtain ⟨fields, fd, hu, hfd, rfl, rfl⟩ := struct_spec hT eq hp
    simp only at h2
    clear h
    have key : ∀ (p : Addr), Nat.blt 0 (sizeT T fd.type) = true → (Instr.fieldAt t (.pointer (some p)) f).run P w = .ok (.pointer (some (p.add fd.offset))) w := fun p h1 => by
      have hsz := size_spec hT h1
      unfold Instr.fieldAt
      have : ¬ sizeT T fd.type = 0 := by omega
      simp only [Sem.run_bind, run_underlying hu, Result.andThen_ok, hfd, Instr.sureAddr, Sem.run_pure, fieldPlace, hsz.1, this, if_false]
    split at h2
    · next nm sz i j =>
      obtain ⟨h1, h3⟩ := grd_some h2
      cases hx with
      | ptrD hd A => exact ⟨_, _, h3, .ptrD hd _, key _ h1⟩
      | ptr hp => exact ⟨_, _, h3, .ptr hp, by rw [key _ h1, add_none, Nat.add_assoc]⟩
    · next sh x j =>
      obtain ⟨h1, h3⟩ := grd_some h2
      cases hx with
      | bptr hb he => exact ⟨_, _, h3, .bptr hb he, by rw [key _ h1, add_none, Nat.add_assoc]⟩
    · cases h2
  · cases h
theorem evIndex_sound (hT : TabOk T P) (hO : NoOther T) {t : Nat} {x i : AVal} {vx vi : Value} {K : AVal → Option X} (h : evIndex T t x i K = some out) (hx : VRel w φ F B x vx) (hi : VRel w φ F B i vi) :
    ∃ z v, K z = some out ∧ VRel w φ F B z v ∧ (Instr.index t vx vi).run P w = .ok v w := by
  unfold evIndex at h
  obtain ⟨k, i, rfl, h2⟩ := asI_some h hi
  clear h
  split at h2
  · next n e _ _ _ ht =>
    split at h2
    · next c =>
      obtain ⟨h1, h3⟩ := grd_some h2
      obtain ⟨h4, h5⟩ := grd_some h3
      obtain ⟨h6, h7⟩ := grd_some h5
      obtain ⟨d, hd, h8⟩ := bind_some h7
      have h4 := of_decide_eq_true h4
      have h6 := of_decide_eq_true h6
      rw [Bool.and_eq_true] at h1
      have hz := Nat.eq_of_beq_eq_true h1.1
      have hz0 : Nat.blt 0 (sizeT T e) = true := by rw [hz]; rfl
      have ha : isAggT T e = false := by simpa using h1.2
      cases hx with | v hr =>
      unfold CV.cell at hd
      split at hd
      · next cs =>
        obtain ⟨vs, rfl⟩ := hr.agg_val
        obtain ⟨v, hv, hr', _⟩ := hr.cell_ok hd
        obtain ⟨y, h9, h10⟩ := typed_sound h8 (VRel.v (φ := φ) (B := B) hr')
        refine ⟨y, v, h9, h10, ?_⟩
        unfold Instr.index
        have hv' : vs.toArray[i.toNat]? = some v := by simpa using hv
        simp only [Sem.run_bind, run_underlying (hT.td t _ ht), Result.andThen_ok, Sem.run_pure, asIntOf]
        rw [if_pos ⟨h4, h6⟩]
        simp only [Sem.run_bind, (size_spec hT hz0).1, Result.andThen_ok, hz, Nat.mul_one, part, agg_false hT hz0 ha (hO e), Bool.false_eq_true, if_false, hv', Sem.run_pure]
      · cases hd
    · cases h2
  split at h2
  · next b =>
    obtain rfl := hx.str
    obtain ⟨h1, h3⟩ := grd_some h2
    obtain ⟨h4, h5⟩ := grd_some h3
    obtain ⟨c, hc, h6⟩ := bind_some h5
    have h4 := of_decide_eq_true h4
    refine ⟨_, _, h6, .v (.int _ _), ?_⟩
    unfold Instr.index
    have : b[i.toNat]? = some c := by
      have hlt := (Array.getElem?_eq_some_iff.1 hc).1
      rw [Array.getElem?_eq_getElem hlt] at hc
      have e : (b[i.toNat]? : Option UInt8) = some b[i.toNat] := by
        exact getElem?_pos b i.toNat hlt
      rw [e]
      exact hc
    simp only [Sem.run_bind, run_underlying (strT_spec hT h1), Result.andThen_ok, Sem.run_pure, asIntOf]
    rw [if_pos h4, this]
    rfl
  · cases h2
theorem evCap_sound (hT : TabOk T P) {t ty : Nat} {x : AVal} {vx : Value} {K : AVal → Option X} (h : evCap T t x K = some out) (hx : VRel w φ F fr.B x vx) :
    ∃ z v, K z = some out ∧ VRel w φ F fr.B z v ∧ (Builtin.cap_ #[t] ty #[vx]).run P w = .ok v w := by
  unfold evCap at h
  split at h
  · next sh =>
    obtain ⟨h1, h2⟩ := grd_some h
    obtain ⟨e, hu, _⟩ := sliceT_spec hT h1
    cases hx with | nil0 A =>
    refine ⟨_, _, h2, .v (.int _ _), ?_⟩
    unfold Builtin.cap_
    simp [run_underlying hu, goInt]
  · cases h
theorem evLen_sound (hT : TabOk T P) (hI : Inv fr φ F s a w) {t ty : Nat} {x : AVal} {vx : Value} {K : AVal → Option X} (h : evLen T s.nodes t x K = some out) (hx : VRel w φ F fr.B x vx) :
    ∃ z v, K z = some out ∧ VRel w φ F fr.B z v ∧ (Builtin.len_ #[t] ty #[vx]).run P w = .ok v w := by
  have key : ∀ {e A n c}, P.underlying t = some (.slice e) → (Builtin.len_ #[t] ty #[.slice A n c]).run P w = .ok (.int .i64 n) w := fun {e A n c} hu => by
    unfold Builtin.len_
    simp [run_underlying hu, goInt]
  unfold evLen at h
  split at h
  · next b =>
    obtain rfl := hx.str
    obtain ⟨h1, h2⟩ := grd_some h
    refine ⟨_, _, h2, .v (.int _ _), ?_⟩
    unfold Builtin.len_
    simp [run_underlying (strT_spec hT h1), goInt]
  · next sh xs =>
    obtain ⟨h1, h2⟩ := grd_some h
    obtain ⟨e, hu, _⟩ := sliceT_spec hT h1
    cases hx with | v hr =>
    obtain ⟨A, c, rfl, _⟩ := hr.row
    exact ⟨_, _, h2, .v (.int _ _), key hu⟩
  · next p sh xs =>
    obtain ⟨h1, h2⟩ := grd_some h
    obtain ⟨e, hu, _⟩ := sliceT_spec hT h1
    cases hx with | sl hr =>
    obtain ⟨A, c, rfl, _⟩ := hr
    exact ⟨_, _, h2, .v (.int _ _), key hu⟩
  · next sh =>
    obtain ⟨h1, h2⟩ := grd_some h
    obtain ⟨e, hu, _⟩ := sliceT_spec hT h1
    cases hx with | nil0 A =>
    exact ⟨_, _, h2, .v (.int _ _), key hu⟩
  · next nm sh off len =>
    obtain ⟨h1, h2⟩ := grd_some h
    rw [Bool.and_eq_true] at h1
    obtain ⟨e, hu, _⟩ := sliceT_spec hT h1.1
    obtain ⟨b, k, hb⟩ := aliveN_spec hI h1.2
    cases hx with
    | oslD hd => rw [hb] at hd; cases hd
    | osl hp ho =>
      rcases ho with ⟨A, rfl, rfl, hn⟩ | ⟨b', cap, rfl, rfl, _⟩ | ⟨_, A, cap, rfl, _⟩
      · exact ⟨_, _, h2, .v (.int _ _), key hu⟩
      · exact ⟨_, _, h2, .v (.int _ _), key hu⟩
      · exact ⟨_, _, h2, .v (.int _ _), key hu⟩
  · cases h
theorem evMin_sound {x y : AVal} {vx vy : Value} {K : AVal → Option X} (h : evMin x y K = some out) (hx : VRel w φ F B x vx) (hy : VRel w φ F B y vy) :
    ∃ z v, K z = some out ∧ VRel w φ F B z v ∧ (Builtin.min2 vx vy).run P w = .ok v w := by
  unfold evMin at h
  split at h
  · obtain rfl := hx.int
    obtain rfl := hy.int
    exact ⟨_, _, h, .v (.int _ _), by simp [Builtin.min2]⟩
  · cases h
theorem evMax_sound {x y : AVal} {vx vy : Value} {K : AVal → Option X} (h : evMax x y K = some out) (hx : VRel w φ F B x vx) (hy : VRel w φ F B y vy) :
    ∃ z v, K z = some out ∧ VRel w φ F B z v ∧ (Builtin.max2 vx vy).run P w = .ok v w := by
  unfold evMax at h
  split at h
  · obtain rfl := hx.int
    obtain rfl := hy.int
    exact ⟨_, _, h, .v (.int _ _), by simp [Builtin.max2]⟩
  · cases h
/-- Values, pair by pair. -/
def VRelL (w : World) (φ : Nm → Loc) (F B : Nat → Prop) (l : List AVal) (vs : List Value) : Prop := l.length = vs.length ∧ ∀ (j : Nat) c v, l[j]? = some c → vs[j]? = some v → VRel w φ F B c v
theorem VRelL.nil : VRelL w φ F B [] [] := ⟨rfl, fun j c v hc => by simp at hc⟩
theorem VRelL.cons {c : AVal} {v : Value} {l : List AVal} {vs : List Value} : VRelL w φ F B (c :: l) (v :: vs) ↔ VRel w φ F B c v ∧ VRelL w φ F B l vs := by
  constructor
  · rintro ⟨h1, h2⟩
    exact ⟨h2 0 c v rfl rfl, by simpa using h1, fun j c v hc hv => h2 (j + 1) c v (by simpa using hc) (by simpa using hv)⟩
  · rintro ⟨h1, h2, h3⟩
    refine ⟨by simp [h2], fun j c' v' hc hv => ?_⟩
    cases j with
    | zero => simp at hc hv; subst hc hv; exact h1
    | succ j => exact h3 j c' v' (by simpa using hc) (by simpa using hv)
theorem VRelL.cons_inv {c : AVal} {l : List AVal} {vs : List Value} (h : VRelL w φ F B (c :: l) vs) : ∃ v vs', vs = v :: vs' ∧ VRel w φ F B c v ∧ VRelL w φ F B l vs' := by
  cases vs with
  | nil => have := h.1; simp at this
  | cons v vs' => exact ⟨v, vs', rfl, VRelL.cons.1 h⟩
theorem VRelL.map_eval (hFr : FrOk fr) (hI : Inv fr φ F s a w) : ∀ xs : List Operand, VRelL w φ F fr.B (xs.map s.eval) (xs.map a.eval)
  | [] => .nil
  | x :: xs => VRelL.cons.2 ⟨hI.eval hFr x, VRelL.map_eval hFr hI xs⟩
theorem VRelL.resA : ∀ (ts : List Nat) {l : List AVal} {vs : List Value}, VRelL w φ F B l vs → VRelL w φ F B (resA T ts l) vs
  | [], l, vs, h => by cases l <;> exact h
  | t :: ts, [], vs, h => h
  | t :: ts, a :: l, vs, h => by
    obtain ⟨v, vs', rfl, h1, h2⟩ := h.cons_inv
    exact VRelL.cons.2 ⟨h1.resize t, VRelL.resA ts h2⟩
theorem VRelL.append {l l' : List AVal} {vs vs' : List Value} (h : VRelL w φ F B l vs) (h' : VRelL w φ F B l' vs') : VRelL w φ F B (l ++ l') (vs ++ vs') := by
  induction l generalizing vs with
  | nil => cases vs with
    | nil => exact h'
    | cons v vs => have := h.1; simp at this
  | cons c l ih =>
    obtain ⟨v, vs1, rfl, h1, h2⟩ := h.cons_inv
    exact VRelL.cons.2 ⟨h1, ih h2⟩
theorem evMinL_sound (f : AVal → AVal → (AVal → Option X) → Option X) (g : Value → Value → Sem Value)
    (hf : ∀ {x y : AVal} {vx vy : Value} {K : AVal → Option X}, f x y K = some out → VRel w φ F B x vx → VRel w φ F B y vy → ∃ z v, K z = some out ∧ VRel w φ F B z v ∧ (g vx vy).run P w = .ok v w) :
    ∀ (l : List AVal) (vs : List Value) (x : AVal) (vx : Value) (K : AVal → Option X), evMinL f x l K = some out → VRel w φ F B x vx → VRelL w φ F B l vs → ∃ z v, K z = some out ∧ VRel w φ F B z v ∧ (vs.foldlM g vx).run P w = .ok v w
  | [], vs, x, vx, K, h, hx, hl => by
    have : vs = [] := List.eq_nil_of_length_eq_zero hl.1.symm
    subst this
    exact ⟨x, vx, h, hx, by simp⟩
  | y :: l, vs, x, vx, K, h, hx, hl => by
    obtain ⟨vy, vs', rfl, hy, hl'⟩ := hl.cons_inv
    unfold evMinL at h
    obtain ⟨z, v, hz, hr, hrun⟩ := hf h hx hy
    obtain ⟨z', v', hz', hr', hrun'⟩ := evMinL_sound f g hf l vs' z v K hz hr hl'
    exact ⟨z', v', hz', hr', by simp [List.foldlM, hrun, hrun']⟩
end
end Go.Proofs.YtlaojkheenobaaaDoorS
