/- Structs held against each other. -/
import Derived.Test.YtgkopcfbdcbjbaaTB
import Derived.Laws.StructEq
namespace Go.Proofs.YtgkopcfbdcbjbaaS
open Go Go.RowKit
set_option linter.unusedVariables false
set_option linter.unusedSimpArgs false
/-- Values of a type may be held against each other, part by part. -/
structure CmpOk (P : Program) (t : Nat) : Prop where
  guard : P.eqGuardType P.depth t = false
  flds : ∀ fields, P.underlying t = some (.struct fields) → (∀ f ∈ fields.toList, f.name ≠ "_") ∧ P.stoodInHeld t = false
def cmpIs (P : Program) (t : Nat) : Bool := !P.eqGuardType P.depth t && (match P.underlying t with
  | some (.struct fields) => fields.toList.all (fun f => f.name != "_") && !P.stoodInHeld t
  | _ => true)
theorem cmpIs_ok {P : Program} {t : Nat} (h : cmpIs P t = true) : CmpOk P t := by
  unfold cmpIs at h
  rw [Bool.and_eq_true] at h
  refine ⟨by simpa using h.1, fun fields hu => ?_⟩
  have h2 := h.2
  rw [hu] at h2
  simp only [Bool.and_eq_true, List.all_eq_true] at h2
  exact ⟨fun f hf => by simpa using h2.1 f hf, by simpa using h2.2⟩
section
variable {X : Type} {P : Program} {T : Tab} {fr : Fr} {φ φ' : Nm → Loc} {F F' B : Nat → Prop} {s : St} {a : Act} {w w' : World} {out : X}
theorem eqLeaf_sound (hT : TabOk T P) {t d : Nat} {x y : AVal} {vx vy : Value} {K : Bool → Option X} (h : eqLeaf T t x y K = some out) (hx : VRel w φ F B x vx) (hy : VRel w φ F B y vy) :
    ∃ b, K b = some out ∧ isAggT T t = false ∧ (Op.equalIn (d + 1) t vx vy).run P w = .ok b w := by
  unfold eqLeaf at h
  split at h
  · next k0 _ _ _ k a k' b e =>
    obtain ⟨h1, h2⟩ := grd_some h
    have hk := of_decide_eq_true h1
    subst hk
    obtain rfl := hx.int
    obtain rfl := hy.int
    exact ⟨_, h2, by simp [isAggT, e], run_equalIn_int w d t _ k0 a b (hT.td t _ e)⟩
  · next a b e =>
    obtain rfl := hx.bool
    obtain rfl := hy.bool
    exact ⟨_, h, by simp [isAggT, e], run_equalIn_bool w d t a b (hT.td t _ e)⟩
  · next a b e =>
    obtain rfl := hx.str
    obtain rfl := hy.str
    exact ⟨_, h, by simp [isAggT, e], run_equalIn_string w d t a b (hT.td t _ e)⟩
  · cases h
theorem run_part (hT : TabOk T P) (hO : NoOther T) {t : Nat} (h1 : Nat.blt 0 (sizeT T t) = true) (ha : isAggT T t = false) {vs : List Value} {off : Nat} {v : Value} (hv : vs[off]? = some v) : (part t vs.toArray off).run P w = .ok v w := by
  unfold part
  simp only [Sem.run_bind, agg_false hT h1 ha (hO _), Result.andThen_ok, Bool.false_eq_true, if_false]
  simp [hv]
theorem evEqL_sound (hT : TabOk T P) (hO : NoOther T) {xs ys : List AVal} {vx vy : List Value} (hx : VRelL w φ F B xs vx) (hy : VRelL w φ F B ys vy) {d : Nat} : ∀ (fs : List (Nat × Nat)) (fields : List Field) {K : Bool → Option X},
    evEqL T xs ys fs K = some out → fs.length = fields.length → (∀ (f : Nat) p, fs[f]? = some p → ∃ fd, fields[f]? = some fd ∧ fd.offset = p.1 ∧ fd.type = p.2) → (∀ f ∈ fields, f.name ≠ "_") → ∃ b, K b = some out ∧ (Op.eqFields (d + 1) vx.toArray vy.toArray fields).run P w = .ok b w
  | [], [], K, h, _, _, _ => ⟨true, h, by simp [Op.eqFields]⟩
  | [], _ :: _, K, _, hl, _, _ => by simp at hl
  | _ :: _, [], K, _, hl, _, _ => by simp at hl
  | (off, ft) :: fs, f :: fields, K, h, hl, hf, hn => by
    unfold evEqL at h
    obtain ⟨h1, h⟩ := grd_some h
    simp only [Bool.and_eq_true] at h1
    obtain ⟨⟨g1, g2⟩, g3⟩ := h1
    have g2 : off < xs.length := Nat.le_of_ble_eq_true g2
    have g3 : off < ys.length := Nat.le_of_ble_eq_true g3
    obtain ⟨fd, hfd, e1, e2⟩ := hf 0 (off, ft) rfl
    simp only [List.getElem?_cons_zero, Option.some.injEq] at hfd
    subst hfd
    have hlx : off < vx.length := by rw [← hx.1]; exact g2
    have hly : off < vy.length := by rw [← hy.1]; exact g3
    have hvx : vx[off]? = some vx[off] := List.getElem?_eq_getElem hlx
    have hvy : vy[off]? = some vy[off] := List.getElem?_eq_getElem hly
    obtain ⟨b, h2, ha, hb⟩ := eqLeaf_sound (d := d) hT h (hx.2 off _ _ (nth_get g2) hvx) (hy.2 off _ _ (nth_get g3) hvy)
    obtain ⟨c, h3, hc⟩ := evEqL_sound hT hO hx hy fs fields h2 (by simpa using hl) (fun j p hp => by
      obtain ⟨fd, k1, k2⟩ := hf (j + 1) p (by simpa using hp)
      exact ⟨fd, by simpa using k1, k2⟩) (fun g hg => hn g (List.mem_cons_of_mem _ hg))
    refine ⟨_, h3, ?_⟩
    rw [Op.eqFields, if_pos (hn f List.mem_cons_self)]
    simp only at e1 e2
    subst e1
    subst e2
    simp only [Sem.run_bind, run_part hT hO g1 ha hvx, run_part hT hO g1 ha hvy, Result.andThen_ok, hb]
    cases b with
    | true => simpa using hc
    | false => simp
theorem evEqS_sound (hT : TabOk T P) (hO : NoOther T) {cmp : Nat → Bool} (hc : ∀ t, cmp t = true → CmpOk P t) {op : BinOp} {t : Nat} {x y : AVal} {vx vy : Value} {K : AVal → Option X} (h : evEqS T cmp op t x y K = some out) (hx : VRel w φ F B x vx) (hy : VRel w φ F B y vy) (xo yo : Operand) :
    ∃ z v, K z = some out ∧ VRel w φ F B z v ∧ (do eqGuard op t xo yo vx vy; binOp op t vx vy : Sem Value).run P w = .ok v w := by
  unfold evEqS at h
  obtain ⟨h0, h⟩ := grd_some h
  have hcmp := hc t h0
  obtain ⟨x', h, hx'⟩ := expand_sound h hx
  obtain ⟨y', h, hy'⟩ := expand_sound h hy
  split at h
  · next fs _ _ _ e =>
    cases x' with
    | agg xs =>
      cases y' with
      | agg ys =>
        obtain ⟨vs, rfl, hxs⟩ : ∃ vs : List Value, vx = .agg vs.toArray ∧ VRelL w φ F B xs vs := by cases hx' with | agg hl ho hr => exact ⟨_, rfl, hl, hr⟩
        obtain ⟨us, rfl, hys⟩ : ∃ vs : List Value, vy = .agg vs.toArray ∧ VRelL w φ F B ys vs := by cases hy' with | agg hl ho hr => exact ⟨_, rfl, hl, hr⟩
        obtain ⟨fields, hu, hl, hf⟩ := hT.td t _ e
        obtain ⟨k1, k2⟩ := hcmp.flds fields hu
        obtain ⟨b, h2, hb⟩ := evEqL_sound (d := 9998) (w := w) hT hO hxs hys fs fields.toList (K := fun b => (match op with
            | .eql => K (.v (.bool b))
            | .neq => K (.v (.bool (!b)))
            | _ => none)) h (by simpa using hl) (fun f p hp => by
          obtain ⟨fd, j1, j2⟩ := hf f p hp
          exact ⟨fd, by simpa using j1, j2⟩) k1
        have hfo : P.fieldsOf t = fields := by unfold Program.fieldsOf; rw [hu]
        have hrun : (Op.equalIn 10000 t (.agg vs.toArray) (.agg us.toArray)).run P w = .ok b w := by
          rw [run_equalIn_agg w 9999 t _ _ (by rw [hfo]; exact hu) k2, hfo]
          exact hb
        split at h2
        · exact ⟨_, _, h2, .v (.bool _), by simp only [Sem.run_bind, run_eqGuard_agg w _ t xo yo _ _ hcmp.guard, Result.andThen_ok, run_eql_struct, hrun]⟩
        · exact ⟨_, _, h2, .v (.bool _), by simp only [Sem.run_bind, run_eqGuard_agg w _ t xo yo _ _ hcmp.guard, Result.andThen_ok, run_neq_struct, hrun]⟩
        · cases h2
      | _ => cases h
    | _ => cases h
  · cases h
theorem evBin2_sound (hT : TabOk T P) (hO : NoOther T) {cmp : Nat → Bool} (hc : ∀ t, cmp t = true → CmpOk P t) {op : BinOp} {t : Nat} {x y : AVal} {vx vy : Value} {K : AVal → Option X} (h : evBin2 T cmp op t x y K = some out) (hx : VRel w φ F B x vx) (hy : VRel w φ F B y vy) (xo yo : Operand) :
    ∃ z v, K z = some out ∧ VRel w φ F B z v ∧ (do eqGuard op t xo yo vx vy; binOp op t vx vy : Sem Value).run P w = .ok v w := by
  unfold evBin2 at h
  cases e : isAggT T t with
  | true => rw [e] at h; exact evEqS_sound hT hO hc h hx hy xo yo
  | false => rw [e] at h; exact evBin_sound hT h hx hy xo yo
end
end Go.Proofs.YtgkopcfbdcbjbaaS
