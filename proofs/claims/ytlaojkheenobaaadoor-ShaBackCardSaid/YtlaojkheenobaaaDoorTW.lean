/- Structs held against each other. -/
import Derived.Test.YtlaojkheenobaaaDoorTB
import Derived.Laws.StructEq
namespace Go.Proofs.YtlaojkheenobaaaDoorS
open Go Go.RowKit
set_option linter.unusedVariables false
set_option linter.unusedSimpArgs false
/-- Values of a type may be held against each other, part by part. -/
structure CmpOk (P : Program) (t : Nat) : Prop where
  guard : P.eqGuardType P.depth t = false
  flds : ∀ fields, P.underlying t = some (.struct fields) → (∀ f ∈ fields.toList, f.name ≠ "_") ∧ P.stoodInHeld t = false
def cmpIs (P : Program) (t : Nat) : Bool := !P.eqGuardType P.depth t && (match P.underlying t with
  | some (.struct fields) => fields.toList.all (fun f => f.name != "_") && !P.stoodInHeld t
  | _ => true)
theorem cmpIs_ok {P : Program} {t : Nat} (h : cmpIs P t = true) : CmpOk P t := by
  unfold cmpIs at h
  rw [Bool.and_eq_true] at h
  refine ⟨by simpa using h.1, fun fields hu => ?_⟩
  have h2 := h.2
  rw [hu] at h2
  simp only [Bool.and_eq_true, List.all_eq_true] at h2
  exact ⟨fun f hf => by simpa using h2.1 f hf, by simpa using h2.2⟩
section
variable {X : Type} {P : Program} {T : Tab} {fr : Fr} {φ φ' : Nm → Loc} {F F' B : Nat → Prop} {s : St} {a : Act} {w w' : World} {out : X}
theorem eqLeaf_sound (hT : TabOk T P) {t d : Nat} {x y : AVal} {vx vy : Value} {K : Bool → Option X} (h : eqLeaf T t x y K = some out) (hx : VRel w φ F B x vx) (hy : VRel w φ F B y vy) :
    ∃ b, K b = some out ∧ isAggT T t = false ∧ (Op.equalIn (d + 1) t vx vy).run P w = .ok b w := by
  unfold eqLeaf at h
  split at h
  · next k0 _ _ _ k a k' b e =>
    obtain ⟨h1, h2⟩ := grd_some h
    have hk := of_decide_eq_true h1
    subst hk
    obtain rfl := hx.int
    obtain rfl := hy.int
    exact ⟨_, h2, by simp [isAggT, e], run_equalIn_int w d t _ k0 a b (hT.td t _ e)⟩
  · next a b e =>
    obtain rfl := hx.bool
    obtain rfl := hy.bool
    exact ⟨_, h, by simp [isAggT, e], run_equalIn_bool w d t a b (hT.td t _ e)⟩
  · next a b e =>
    obtain rfl := hx.str
    obtain rfl := hy.str
    exact ⟨_, h, by simp [isAggT, e], run_equalIn_string w d t a b (hT.td t _ e)⟩
  · cases h
theorem run_part (hT : TabOk T P) (hO : NoOther T) {t : Nat} (h1 : Nat.blt 0 (sizeT T t) = true) (ha : isAggT T t = false) {vs : List Value} {off : Nat} {v : Value} (hv : vs[off]? = some v) : (part t vs.toArray off).run P w = .ok v w := by
  unfold part
  simp only [Sem.run_bind, agg_false hT h1 ha (hO _), Result.andThen_ok, Bool.false_eq_true, if_false]
  simp [hv]
theorem evEqL_sound (hT : TabOk T P) (hO : NoOther T) {xs ys : List AVal} {vx vy : List Value} (hx : VRelL w φ F B xs vx) (hy : VRelL w φ F B ys vy) {d : Nat} : ∀ (fs : List (Nat × Nat)) (fields : List Field) {K : Bool → Option X},
    evEqL T xs ys fs K = some out → fs.length = fields.length → (∀ (f : Nat) p, fs[f]? = some p → ∃ fd, fields[f]? = some fd ∧ fd.offset = p.1 ∧ fd.type = p.2) → (∀ f ∈ fields, f.name ≠ "_") → ∃ b, K b = some out ∧ (Op.eqFields (d + 1) vx.toArray vy.toArray fields).run P w = .ok b w
  | [], [], K, h, _, _, _ => ⟨true, h, by simp [Op.eqFields]⟩
  | [], _ :: _, K, _, hl, _, _ => by simp at hl
  | _ :: _, [], K, _, hl, _, _ => by simp at hl
  | (off, ft) :: fs, f :: fields, K, h, hl, hf, hn => by
    unfold evEqL at h
    obtain ⟨h1, h⟩ := grd_some h
    simp only [Bool.and_eq_true] at h1
    obtain ⟨⟨g1, g2⟩, g3⟩ := h1
    have g2 : off < xs.length := Nat.le_of_ble_eq_true g2
    have g3 : off < ys.length := Nat.le_of_ble_eq_true g3
    obtain ⟨fd, hfd, e1, e2⟩ := hf 0 (off, ft) rfl
    simp only [List.getElem?_cons_zero, Option.some.injEq] at hfd
    subst hfd
    have hlx : off < vx.length := by rw [← hx.1]; exact g2
    have hly : off < vy.length := by rw [← hy.1]; exact g3
    have hvx : vx[off]? = some vx[off] := List.getElem?_eq_getElem hlx
    have hvy : vy[off]? = some vy[off] := List.getElem?_eq_getElem hly
    obtain ⟨b, h2, ha, hb⟩ := eqLeaf_sound (d := d) hT h (hx.2 off _ _ (nth_get g2) hvx) (hy.2 off _ _ (nth_get g3) hvy)
    obtain ⟨c, h3, hc⟩ := evEqL_sound hT hO hx hy fs fields h2 (by simpa using hl) (fun j p hp => by
      obtain ⟨fd, k1, k2⟩ := hf (j + 1) p (by simpa using hp)
      exact ⟨fd, by simpa using k1, k2⟩) (fun g hg => hn g (List.mem_cons_of_mem _ hg))
    refine ⟨_, h3, ?_⟩
    rw [Op.eqFields, if_pos (hn f List.mem_cons_self)]
    simp only at e1 e2
    subst e1
    subst e2
    simp only [Sem.run_bind, run_part hT hO g1 ha hvx, run_part hT hO g1 ha hvy, Result.andThen_ok, hb]
    cases b with
    | true => simpa using hc
    | false => simp
theorem evEqS_sound (hT : TabOk T P) (hO : NoOther T) {cmp : Nat → Bool} (hc : ∀ t, cmp t = true → CmpOk P t) {op : BinOp} {t : Nat} {x y : AVal} {vx vy : Value} {K : AVal → Option X} (h : evEqS T cmp op t x y K = some out) (hx : VRel w φ F B x vx) (hy : VRel w φ F B y vy) (xo yo : Operand) :
    ∃ z v, K z = some out ∧ VRel w φ F B z v ∧ (do eqGuard op t xo yo vx vy; binOp op t vx vy : Sem Value).run P w = .ok v w := by
  unfold evEqS at h
  obtain ⟨h0, h⟩ := grd_some h
  have hcmp := hc t h0
  obtain ⟨x', h, hx'⟩ := expand_sound h hx
  obtain ⟨y', h, hy'⟩ := expand_sound h hy
  split at h
  · next fs _ _ _ e =>
    cases x' with
    | agg xs =>
      cases y' with
      | agg ys =>
        obtain ⟨vs, rfl, hxs⟩ : ∃ vs : List Value, vx = .agg vs.toArray ∧ VRelL w φ F B xs vs := by cases hx' with | agg hl ho hr => exact ⟨_, rfl, hl, hr⟩
        obtain ⟨us, rfl, hys⟩ : ∃ vs : List Value, vy = .agg vs.toArray ∧ VRelL w φ F B ys vs := by cases hy' with | agg hl ho hr => exact ⟨_, rfl, hl, hr⟩
        obtain ⟨fields, hu, hl, hf⟩ := hT.td t _ e
        obtain ⟨k1, k2⟩ := hcmp.flds fields hu
        obtain ⟨b, h2, hb⟩ := evEqL_sound (d := 9998) (w := w) hT hO hxs hys fs fields.toList (K := fun b => (match op with
            | .eql => K (.v (.bool b))
            | .neq => K (.v (.bool (!b)))
            | _ => none)) h (by simpa using hl) (fun f p hp => by
          obtain ⟨fd, j1, j2⟩ := hf f p hp
          exact ⟨fd, by simpa using j1, j2⟩) k1
        have hfo : P.fieldsOf t = fields := by unfold Program.fieldsOf; rw [hu]
        have hrun : (Op.equalIn 10000 t (.agg vs.toArray) (.agg us.toArray)).run P w = .ok b w := by
          rw [run_equalIn_agg w 9999 t _ _ (by rw [hfo]; exact hu) k2, hfo]
          exact hb
        split at h2
        · exact ⟨_, _, h2, .v (.bool _), by simp only [Sem.run_bind, run_eqGuard_agg w _ t xo yo _ _ hcmp.guard, Result.andThen_ok, run_eql_struct, hrun]⟩
        · exact ⟨_, _, h2, .v (.bool _), by simp only [Sem.run_bind, run_eqGuard_agg w _ t xo yo _ _ hcmp.guard, Result.andThen_ok, run_neq_struct, hrun]⟩
        · cases h2
      | _ => cases h
    | _ => cases h
  · cases h
theorem eqItems_ints {d : Nat} {e : TypeId} {k : IntKind} (he : P.underlying e = some (.int k)) {as bs : List Int} : ∀ (m i : Nat), i + m = as.length → as.length = bs.length →
    (Op.eqItems (d + 1) e 1 (as.map (Value.int k)).toArray (bs.map (Value.int k)).toArray (List.range' i m)).run P w = .ok (as.drop i == bs.drop i) w
  | 0, i, h1, h2 => by
    rw [List.drop_of_length_le (by omega), List.drop_of_length_le (by omega)]
    simp [Op.eqItems]
  | m + 1, i, h1, h2 => by
    have hi : i < as.length := by omega
    have hj : i < bs.length := by omega
    have px : (part e (as.map (Value.int k)).toArray (i * 1)).run P w = .ok (.int k as[i]) w := by
      simp [part, isAgg, run_underlying he, hi]
    have py : (part e (bs.map (Value.int k)).toArray (i * 1)).run P w = .ok (.int k bs[i]) w := by
      simp [part, isAgg, run_underlying he, hj]
    have ih := eqItems_ints (d := d) he (as := as) (bs := bs) m (i + 1) (by omega) h2
    rw [List.range'_succ, Op.eqItems]
    simp only [Sem.run_bind, px, py, Result.andThen_ok, run_equalIn_int w d e k k _ _ he]
    rw [List.drop_eq_getElem_cons hi, List.drop_eq_getElem_cons hj, List.cons_beq_cons]
    cases hb : (as[i] == bs[i]) with
    | true => simpa using ih
    | false => simp
theorem ints_vals {k : IntKind} : ∀ {cs : List CV} {vs : List Value}, cs.all (CV.isI k) = true → CRel w F (.agg cs) (.agg vs.toArray) → vs = (intsOf cs).map (Value.int k) := by
  intro cs vs h hr
  have hl := hr.len
  refine List.ext_getElem? fun i => ?_
  rcases Nat.lt_or_ge i cs.length with hi | hi
  · obtain ⟨v, hv, hr', _⟩ := hr.cell_ok (List.getElem?_eq_getElem hi)
    have hk : cs[i].isI k = true := by rw [List.all_eq_true] at h; exact h _ (List.getElem_mem hi)
    rw [CV.isI_eq hk] at hr'
    have hv' := (VRel.v (φ := fun _ => .absent) (B := F) hr').int
    rw [hv, hv', intsOf, List.map_map, List.getElem?_map, List.getElem?_eq_getElem hi]
    rfl
  · rw [List.getElem?_eq_none (by omega), List.getElem?_eq_none (by simp [intsOf]; omega)]
theorem arrK_spec (hT : TabOk T P) {t n : Nat} {k : IntKind} (h : arrK T t = some (n, k)) : ∃ e inf, P.underlying t = some (.array n e) ∧ P.underlying e = some (.int k) ∧ P.info? e = some inf ∧ P.cellsOf e = 1 := by
  unfold arrK at h
  split at h
  · next n' e _ _ _ ht =>
    split at h
    · next k' sz _ _ he =>
      cases hs : Nat.beq sz 1 with
      | false => rw [hs] at h; cases h
      | true =>
        rw [hs] at h
        cases h
        obtain ⟨inf, z, i1, i2, _⟩ := hT.info e _ he
        have hs := Nat.eq_of_beq_eq_true hs
        exact ⟨e, inf, hT.td t _ ht, hT.td e _ he, i1, by simp only [Program.cellsOf, i1]; simpa [hs] using i2⟩
    · cases h
  · cases h
theorem eqArr_sound (hT : TabOk T P) {t n d : Nat} {k : IntKind} (hk : arrK T t = some (n, k)) {c c' : CV} {vx vy : Value} {K : Bool → Option X} (h : eqArr n k c c' K = some out) (hx : CRel w F c vx) (hy : CRel w F c' vy) :
    ∃ b, K b = some out ∧ (Op.equalIn (d + 2) t vx vy).run P w = .ok b w := by
  unfold eqArr at h
  obtain ⟨h1, h⟩ := grd_some h
  obtain ⟨h2, h⟩ := grd_some h
  rw [Bool.and_eq_true] at h1 h2
  unfold numsAre at h2
  rw [Bool.and_eq_true, Bool.and_eq_true] at h2
  obtain ⟨⟨e1, e2⟩, e3, e4⟩ := h2
  obtain ⟨e, inf, u1, u2, u3, u4⟩ := arrK_spec hT hk
  cases c with
  | agg cs =>
    cases c' with
    | agg ds =>
      obtain ⟨vs, rfl⟩ := hx.agg_val
      obtain ⟨us, rfl⟩ := hy.agg_val
      have e1 := Nat.eq_of_beq_eq_true e1
      have e3 := Nat.eq_of_beq_eq_true e3
      simp only [CV.cells] at e1 e2 e3 e4 h
      have g1 := ints_vals e2 hx
      have g2 := ints_vals e4 hy
      refine ⟨_, h, ?_⟩
      rw [run_equalIn_array w (d + 1) _ _ u1 u3, u4, g1, g2, List.range_eq_range', eqItems_ints u2 n 0 (by simp [intsOf, e1]) (by simp [intsOf, e1, e3])]
      simp
    | _ => cases h1.2
  | _ => cases h1.1
theorem CRel.part_ok {c c' : CV} {v : Value} {off n : Nat} (h : CRel w F c v) (hc : c.part off n = some c') : ∃ vs : List Value, v = .agg vs.toArray ∧ CRel w F c' (.agg ((vs.drop off).take n).toArray) := by
  unfold CV.part at hc
  split at hc
  · next cs =>
    obtain ⟨vs, rfl⟩ := h.agg_val
    cases hle : Nat.ble (off + n) cs.length with
    | false => rw [hle] at hc; cases hc
    | true => rw [hle] at hc; cases hc; exact ⟨vs, rfl, h.sub off n⟩
  · cases hc
theorem CRel.cell_at {c c' : CV} {v : Value} {off : Nat} (h : CRel w F c v) (hc : c.cell off = some c') : ∃ (vs : List Value) (u : Value), v = .agg vs.toArray ∧ vs[off]? = some u ∧ CRel w F c' u := by
  unfold CV.cell at hc
  split at hc
  · next cs =>
    obtain ⟨vs, rfl⟩ := h.agg_val
    obtain ⟨u, hu, hr, _⟩ := h.cell_ok hc
    exact ⟨vs, u, rfl, hu, hr⟩
  · cases hc
theorem agg_inj {vs us : List Value} (h : Value.agg vs.toArray = .agg us.toArray) : vs = us := by
  injection h with h
  exact List.toArray_inj h
theorem run_part_agg {t n : Nat} {e : TypeId} {inf : TypeInfo} (hu : P.underlying t = some (.array n e)) {vs : List Value} {off sz : Nat} (hs : ∀ w, (sizeOf t).run P w = .ok sz w) : (part t vs.toArray off).run P w = .ok (.agg ((vs.drop off).take sz).toArray) w := by
  unfold part
  have ha : (isAgg t).run P w = .ok true w := by simp [isAgg, run_underlying hu]
  simp only [Sem.run_bind, ha, Result.andThen_ok, if_true, hs, Sem.run_pure]
  congr 3
  simp [List.extract_eq_take_drop]
theorem evEqF_sound (hT : TabOk T P) (hO : NoOther T) {c c' : CV} {vx vy : List Value} (hx : CRel w F c (.agg vx.toArray)) (hy : CRel w F c' (.agg vy.toArray)) {d : Nat} : ∀ (fs : List (Nat × Nat)) (fields : List Field) {K : Bool → Option X},
    evEqF T c c' fs K = some out → fs.length = fields.length → (∀ (f : Nat) p, fs[f]? = some p → ∃ fd, fields[f]? = some fd ∧ fd.offset = p.1 ∧ fd.type = p.2) → (∀ f ∈ fields, f.name ≠ "_") → ∃ b, K b = some out ∧ (Op.eqFields (d + 2) vx.toArray vy.toArray fields).run P w = .ok b w
  | [], [], K, h, _, _, _ => ⟨true, h, by simp [Op.eqFields]⟩
  | [], _ :: _, K, _, hl, _, _ => by simp at hl
  | _ :: _, [], K, _, hl, _, _ => by simp at hl
  | (off, ft) :: fs, f :: fields, K, h, hl, hf, hn => by
    unfold evEqF at h
    obtain ⟨fd, hfd, e1, e2⟩ := hf 0 (off, ft) rfl
    simp only [List.getElem?_cons_zero, Option.some.injEq] at hfd
    subst hfd
    simp only at e1 e2
    subst e1
    subst e2
    have rest : ∀ {K : Bool → Option X}, evEqF T c c' fs K = some out → ∃ q, K q = some out ∧ (Op.eqFields (d + 2) vx.toArray vy.toArray fields).run P w = .ok q w := fun h2 =>
      evEqF_sound hT hO hx hy fs fields h2 (by simpa using hl) (fun j p hp => by
        obtain ⟨fd, k1, k2⟩ := hf (j + 1) p (by simpa using hp)
        exact ⟨fd, by simpa using k1, k2⟩) (fun g hg => hn g (List.mem_cons_of_mem _ hg))
    cases hk : arrK T f.type with
    | some p =>
      obtain ⟨n, k⟩ := p
      simp only [hk] at h
      obtain ⟨hz, h⟩ := grd_some h
      have hz := Nat.eq_of_beq_eq_true hz
      obtain ⟨c1, g1, h⟩ := bind_some h
      obtain ⟨c2, g2, h⟩ := bind_some h
      obtain ⟨vs, q1, r1⟩ := hx.part_ok g1
      obtain ⟨us, q2, r2⟩ := hy.part_ok g2
      have q1 := agg_inj q1
      have q2 := agg_inj q2
      subst q1 q2
      obtain ⟨b, h2, hb⟩ := eqArr_sound (d := d) hT hk h r1 r2
      obtain ⟨q, h3, hq⟩ := rest h2
      obtain ⟨e, inf, u1, _⟩ := arrK_spec hT hk
      have hsz : ∀ w, (sizeOf f.type).run P w = .ok n w := fun w => by
        cases hi : T f.type with
        | none => simp [arrK, hi] at hk
        | some i => rw [run_size hT hi, hz]
      refine ⟨_, h3, ?_⟩
      rw [Op.eqFields, if_pos (hn f List.mem_cons_self)]
      simp only [Sem.run_bind, run_part_agg (inf := inf) u1 hsz, Result.andThen_ok, hb]
      cases b with
      | true => simpa using hq
      | false => simp
    | none =>
      simp only [hk] at h
      obtain ⟨g0, h⟩ := grd_some h
      obtain ⟨c1, g1, h⟩ := bind_some h
      obtain ⟨c2, g2, h⟩ := bind_some h
      obtain ⟨vs, u, q1, q2, r1⟩ := hx.cell_at g1
      obtain ⟨us, u', q3, q4, r2⟩ := hy.cell_at g2
      have q1 := agg_inj q1
      have q3 := agg_inj q3
      subst q1 q3
      obtain ⟨y1, h, s1⟩ := typed_sound h (VRel.v (φ := fun _ => .absent) (B := F) r1)
      obtain ⟨y2, h, s2⟩ := typed_sound h (VRel.v (φ := fun _ => .absent) (B := F) r2)
      obtain ⟨b, h2, ha, hb⟩ := eqLeaf_sound (d := d + 1) hT h s1 s2
      obtain ⟨q, h3, hq⟩ := rest h2
      refine ⟨_, h3, ?_⟩
      rw [Op.eqFields, if_pos (hn f List.mem_cons_self)]
      simp only [Sem.run_bind, run_part hT hO g0 ha q2, run_part hT hO g0 ha q4, Result.andThen_ok, hb]
      cases b with
      | true => simpa using hq
      | false => simp
theorem evEqA_sound (hT : TabOk T P) (hO : NoOther T) {cmp : Nat → Bool} (hc : ∀ t, cmp t = true → CmpOk P t) {op : BinOp} {t : Nat} {x y : AVal} {vx vy : Value} {K : AVal → Option X} (h : evEqA T cmp op t x y K = some out) (hx : VRel w φ F B x vx) (hy : VRel w φ F B y vy) (xo yo : Operand) :
    ∃ z v, K z = some out ∧ VRel w φ F B z v ∧ (do eqGuard op t xo yo vx vy; binOp op t vx vy : Sem Value).run P w = .ok v w := by
  unfold evEqA at h
  split at h
  · next c d =>
    obtain ⟨h0, h⟩ := grd_some h
    rw [Bool.and_eq_true, Bool.and_eq_true] at h0
    have hcmp := hc t h0.1.1
    cases hx with | v hx =>
    cases hy with | v hy =>
    obtain ⟨vs, rfl⟩ : ∃ vs : List Value, vx = .agg vs.toArray := by
      cases c with
      | agg cs => exact hx.agg_val
      | _ => cases h0.1.2
    obtain ⟨us, rfl⟩ : ∃ us : List Value, vy = .agg us.toArray := by
      cases d with
      | agg cs => exact hy.agg_val
      | _ => cases h0.2
    have fin : ∀ {b : Bool}, finEq op K b = some out → (Op.equalIn 10000 t (.agg vs.toArray) (.agg us.toArray)).run P w = .ok b w → ∃ z v, K z = some out ∧ VRel w φ F B z v ∧ (do eqGuard op t xo yo (.agg vs.toArray) (.agg us.toArray); binOp op t (.agg vs.toArray) (.agg us.toArray) : Sem Value).run P w = .ok v w := by
      intro b h2 hrun
      unfold finEq at h2
      split at h2
      · exact ⟨_, _, h2, .v (.bool _), by simp only [Sem.run_bind, run_eqGuard_agg w _ t xo yo _ _ hcmp.guard, Result.andThen_ok, run_eql_struct, hrun]⟩
      · exact ⟨_, _, h2, .v (.bool _), by simp only [Sem.run_bind, run_eqGuard_agg w _ t xo yo _ _ hcmp.guard, Result.andThen_ok, run_neq_struct, hrun]⟩
      · cases h2
    split at h
    · next fs _ _ _ e =>
      obtain ⟨fields, hu, hl, hf⟩ := hT.td t _ e
      obtain ⟨k1, k2⟩ := hcmp.flds fields hu
      obtain ⟨b, h2, hb⟩ := evEqF_sound (d := 9997) (w := w) hT hO hx hy fs fields.toList h (by simpa using hl) (fun f p hp => by
          obtain ⟨fd, j1, j2⟩ := hf f p hp
          exact ⟨fd, by simpa using j1, j2⟩) k1
      have hfo : P.fieldsOf t = fields := by unfold Program.fieldsOf; rw [hu]
      refine fin h2 ?_
      rw [run_equalIn_agg w 9999 t _ _ (by rw [hfo]; exact hu) k2, hfo]
      exact hb
    · cases hk : arrK T t with
      | none => rw [hk] at h; cases h
      | some p =>
        obtain ⟨n, k⟩ := p
        simp only [hk] at h
        obtain ⟨b, h2, hb⟩ := eqArr_sound (d := 9998) hT hk h hx hy
        exact fin h2 hb
  · cases h
theorem evBin2_sound (hT : TabOk T P) (hO : NoOther T) {cmp : Nat → Bool} (hc : ∀ t, cmp t = true → CmpOk P t) {op : BinOp} {t : Nat} {x y : AVal} {vx vy : Value} {K : AVal → Option X} (h : evBin2 T cmp op t x y K = some out) (hx : VRel w φ F B x vx) (hy : VRel w φ F B y vy) (xo yo : Operand) :
    ∃ z v, K z = some out ∧ VRel w φ F B z v ∧ (do eqGuard op t xo yo vx vy; binOp op t vx vy : Sem Value).run P w = .ok v w := by
  unfold evBin2 at h
  cases e : isAggT T t with
  | true =>
    rw [e] at h
    cases e2 : hasArr T t with
    | true => rw [e2] at h; exact evEqA_sound hT hO hc h hx hy xo yo
    | false => rw [e2] at h; exact evEqS_sound hT hO hc h hx hy xo yo
  | false => rw [e] at h; exact evBin_sound hT h hx hy xo yo
end
end Go.Proofs.YtlaojkheenobaaaDoorS
