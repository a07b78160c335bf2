/- The operations that only look, on: elements, fields, loads. -/
import Derived.Test.YtlaojkheenobaaaDoorSP
namespace Go.Proofs.YtlaojkheenobaaaDoorS
open Go Go.RowKit
set_option linter.unusedVariables false
set_option linter.unusedSimpArgs false
section
variable {X : Type} {P : Program} {T : Tab} {fr : Fr} {φ φ' : Nm → Loc} {F F' B : Nat → Prop} {s : St} {a : Act} {w w' : World} {out : X}
theorem bind_some {α : Type} {o : Option α} {K : α → Option X} (h : Option.bind o K = some out) : ∃ x, o = some x ∧ K x = some out := by
  cases o with
  | none => cases h
  | some x => exact ⟨x, rfl, h⟩
theorem run_indexAt_slice {t e : TypeId} (hu : P.underlying t = some (.slice e)) {n : Nat} (hsz : ∀ w, (sizeOf e).run P w = .ok n w) (b o len cap : Nat) (k : IntKind) {i : Int} (h0 : 0 ≤ i) (h1 : i < len) :
    (Instr.indexAt t (.slice (some ⟨b, o, none⟩) len cap) (.int k i)).run P w = .ok (.pointer (some ⟨b, o + i.toNat * n, none⟩)) w := by
  unfold Instr.indexAt
  have : 0 ≤ i ∧ i < (len : Int) := ⟨h0, h1⟩
  simp only [Sem.run_bind, run_underlying hu, Result.andThen_ok, Sem.run_pure, asIntOf]
  by_cases hl : len ≤ 1
  · simp only [hl, decide_true, Bool.true_and]
    simp [this, hsz, add_none]
  · simp [hl, this, hsz, add_none]
theorem run_indexAt_arr {t m e : TypeId} (hu : P.underlying t = some (.array m e)) {n : Nat} (hsz : ∀ w, (sizeOf e).run P w = .ok n w) (b o : Nat) (k : IntKind) {i : Int} (h0 : 0 ≤ i) (h1 : i < m) :
    (Instr.indexAt t (.pointer (some ⟨b, o, none⟩)) (.int k i)).run P w = .ok (.pointer (some ⟨b, o + i.toNat * n, none⟩)) w := by
  unfold Instr.indexAt
  have : 0 ≤ i ∧ i < (m : Int) := ⟨h0, h1⟩
  simp only [Sem.run_bind, run_underlying hu, Result.andThen_ok, Sem.run_pure, asIntOf, Instr.sureAddr]
  by_cases hl : m ≤ 1
  · simp [hl, this, hsz, add_none]
  · simp [hl, this, hsz, add_none]
theorem size_spec (hT : TabOk T P) {t : Nat} (h : Nat.blt 0 (sizeT T t) = true) : (∀ w, (sizeOf t).run P w = .ok (sizeT T t) w) ∧ 0 < sizeT T t := by
  have h2 := Nat.le_of_ble_eq_true h
  cases hi : T t with
  | none => simp [sizeT, hi] at h2
  | some i => exact ⟨fun w => run_size hT hi w, h2⟩
theorem evIndexAddr_sound (hT : TabOk T P) (hI : Inv fr φ F s a w) {t : Nat} {x i : AVal} {vx vi : Value} {K : AVal → Option X} (h : evIndexAddr T s.nodes t x i K = some out) (hx : VRel w φ F fr.B x vx) (hi : VRel w φ F fr.B i vi) :
    ∃ z v, K z = some out ∧ VRel w φ F fr.B z v ∧ (Instr.indexAt t vx vi).run P w = .ok v w := by
  unfold evIndexAddr at h
  replace h := asI_some h hi
  obtain ⟨k, i, rfl, h⟩ := h
  split at h
  · next nm sh off len =>
    replace h := grd_some h
    obtain ⟨h1, h⟩ := h
    rw [Bool.and_eq_true] at h1
    obtain ⟨e, hu, _, hsz⟩ := sliceOf_spec hT h1.1
    obtain ⟨b, q, hb⟩ := aliveN_spec hI h1.2
    replace h := grd_some h
    obtain ⟨g0, h⟩ := h
    replace h := grd_some h
    obtain ⟨g1, h⟩ := h
    have g0 := of_decide_eq_true g0
    have g1 := of_decide_eq_true g1
    cases hx with
    | oslD hd => rw [hb] at hd; cases hd
    | osl hp ho =>
      rcases ho with ⟨A, rfl, rfl, hn⟩ | ⟨b', cap, rfl, rfl, h2, h3, h4, _⟩ | ⟨rfl, _⟩
      rotate_left 2
      · exact (sliceOf_pos h1.1).elim
      · simp at g1; omega
      · refine ⟨_, _, h, .ptr hp, ?_⟩
        rw [run_indexAt_slice hu hsz b' _ len cap k g0 g1, Nat.add_mul, Nat.add_zero]
  · next p sh xs =>
    cases hx with | sl hr =>
    replace h := grd_some h
    obtain ⟨h1, h⟩ := h
    obtain ⟨e, hu, _, hsz⟩ := sliceOf_spec hT h1
    replace h := grd_some h
    obtain ⟨g0, h⟩ := h
    have g0 := of_decide_eq_true g0
    replace h := bind_some h
    obtain ⟨x, hxe, h⟩ := h
    obtain ⟨A, c, rfl, hc, hr'⟩ := hr
    have hlt := (List.getElem?_eq_some_iff.1 hxe).1
    obtain ⟨b, o, rfl, hb, he⟩ := hr' (by omega)
    refine ⟨_, _, h, .bptr (b := b) (o := o + i.toNat * szOf sh) ?_ (he _ _ hxe), ?_⟩
    · rcases hb with hb | hb
      · exact .inl hb
      · exact .inr hb.2
    · rw [run_indexAt_slice hu hsz b o xs.length c k g0 (by omega)]; rfl
  · next sh xs =>
    cases hx with | v hr =>
    replace h := grd_some h
    obtain ⟨h1, h⟩ := h
    obtain ⟨e, hu, _, hsz⟩ := sliceOf_spec hT h1
    replace h := grd_some h
    obtain ⟨g0, h⟩ := h
    have g0 := of_decide_eq_true g0
    replace h := bind_some h
    obtain ⟨x, hxe, h⟩ := h
    obtain ⟨A, c, rfl, hc, hr'⟩ := hr.row
    have hlt := (List.getElem?_eq_some_iff.1 hxe).1
    obtain ⟨b, o, rfl, hb, he⟩ := hr' (by omega)
    refine ⟨_, _, h, .bptr (b := b) (o := o + i.toNat * szOf sh) (.inl hb) (he _ _ hxe), ?_⟩
    rw [run_indexAt_slice hu hsz b o xs.length c k g0 (by omega)]; rfl
  · next nm sz q j =>
    split at h
    · next n e _ _ _ eq =>
      replace h := grd_some h
      obtain ⟨h1, h⟩ := h
      rw [Bool.and_eq_true] at h1
      obtain ⟨b, q', hb⟩ := aliveN_spec hI h1.1
      have hsz := (size_spec hT h1.2).1
      replace h := grd_some h
      obtain ⟨g0, h⟩ := h
      replace h := grd_some h
      obtain ⟨g1, h⟩ := h
      have g0 := of_decide_eq_true g0
      have g1 := of_decide_eq_true g1
      cases hx with
      | ptrD hd => rw [hb] at hd; cases hd
      | ptr hp =>
        refine ⟨_, _, h, .ptr hp, ?_⟩
        rw [run_indexAt_arr (hT.td t _ eq) hsz _ _ k g0 g1, Nat.add_assoc]
    · cases h
  · next sh x j =>
    split at h
    · next n e _ _ _ eq =>
      replace h := grd_some h
      obtain ⟨h1, h⟩ := h
      have hsz := (size_spec hT h1).1
      replace h := grd_some h
      obtain ⟨g0, h⟩ := h
      replace h := grd_some h
      obtain ⟨g1, h⟩ := h
      have g0 := of_decide_eq_true g0
      have g1 := of_decide_eq_true g1
      cases hx with
      | bptr hb he =>
        refine ⟨_, _, h, .bptr hb he, ?_⟩
        rw [run_indexAt_arr (hT.td t _ eq) hsz _ _ k g0 g1, Nat.add_assoc]
    · cases h
  · cases h
theorem CRel.cell_ok {cs : List CV} {vs : List Value} (h : CRel w F (.agg cs) (.agg vs.toArray)) {j : Nat} {c : CV} (hc : cs[j]? = some c) : ∃ v, vs[j]? = some v ∧ CRel w F c v ∧ c.isAgg = false := by
  generalize hA : Value.agg vs.toArray = A at h
  cases h with
  | @agg _ vs' hl ha hr =>
    have e : vs = vs' := by
      injection hA with hA
      injection hA
    subst e
    have hj := (List.getElem?_eq_some_iff.1 hc).1
    have hv : vs[j]? = some vs[j] := List.getElem?_eq_getElem (by omega)
    exact ⟨_, hv, hr j c _ hc hv, ha c (List.mem_of_getElem? hc)⟩
theorem CRel.len {cs : List CV} {vs : List Value} (h : CRel w F (.agg cs) (.agg vs.toArray)) : cs.length = vs.length := by
  generalize hA : Value.agg vs.toArray = A at h
  cases h with
  | @agg _ vs' hl ha hr =>
    injection hA with hA
    injection hA with hA
    rw [hA]; exact hl
theorem CRel.sub {cs : List CV} {vs : List Value} (h : CRel w F (.agg cs) (.agg vs.toArray)) (j n : Nat) : CRel w F (.agg ((cs.drop j).take n)) (.agg ((vs.drop j).take n).toArray) := by
  have hl := h.len
  refine .agg (by simp [hl]) (fun c hc => ?_) (fun i c v hc hv => ?_)
  · have hm : c ∈ cs := List.mem_of_mem_drop (List.mem_of_mem_take hc)
    obtain ⟨i, hi, rfl⟩ := List.mem_iff_getElem.1 hm
    exact (h.cell_ok (List.getElem?_eq_getElem hi)).choose_spec.2.2
  · rw [List.getElem?_take] at hc hv
    split at hc
    · next hlt =>
      rw [if_pos hlt] at hv
      rw [List.getElem?_drop] at hc hv
      obtain ⟨v', hv', hr, _⟩ := h.cell_ok hc
      rw [hv] at hv'
      cases hv'
      exact hr
    · cases hc
theorem CRel.agg_val {cs : List CV} {v : Value} (h : CRel w F (.agg cs) v) : ∃ vs : List Value, v = .agg vs.toArray := by
  cases h with
  | @agg _ vs hl ha hr => exact ⟨vs, rfl⟩
theorem run_loadVar_cells {t b o : Nat} {us : List Value} (ha : ∀ w, (isAgg t).run P w = .ok true w) (hs : ∀ w, (sizeOf t).run P w = .ok us.length w) (hc : ∀ (j : Nat) u, us[j]? = some u → w.cell? ⟨b, o + j, none⟩ = some u) :
    (loadVar t ⟨b, o, none⟩).run P w = .ok (.agg us.toArray) w := by
  have hl := run_loadCells_list (P := P) w ⟨b, o, none⟩ us (fun j v hv => by rw [add_none]; exact hc j v hv)
  unfold loadVar
  simp only [Sem.run_bind, ha, Result.andThen_ok, if_true, hs, hl, Sem.run_pure]
theorem run_loadVar_cell {t b o : Nat} {u : Value} (ha : ∀ w, (isAgg t).run P w = .ok false w) (hc : w.cell? ⟨b, o, none⟩ = some u) : (loadVar t ⟨b, o, none⟩).run P w = .ok u w := by
  unfold loadVar
  simp only [Sem.run_bind, ha, Result.andThen_ok, Bool.false_eq_true, if_false, run_load, hc]
theorem notOther {T : Tab} {t : Nat} {i : TI} (h : T t = some i) : i.td ≠ .other ∨ i.td = .other := by
  cases i.td <;> simp
/-- Is a type told? -/
theorem agg_false (hT : TabOk T P) {t : Nat} (h : Nat.blt 0 (sizeT T t) = true) (hf : isAggT T t = false) (hno : ∀ i, T t = some i → i.td ≠ .other) : ∀ w, (isAgg t).run P w = .ok false w := by
  have h2 := Nat.le_of_ble_eq_true h
  cases hi : T t with
  | none => simp [sizeT, hi] at h2
  | some i => exact isAggT_false hT hi (hno i hi) hf
/-- No type of the table is left untold. -/
def NoOther (T : Tab) : Prop := ∀ t i, T t = some i → i.td ≠ .other
theorem elemLoad_sound (hT : TabOk T P) (hO : NoOther T) {t : Nat} {sh : Option Nat} {x : CV} {j b o : Nat} {K : AVal → Option X} (hz : Nat.blt 0 (sizeT T t) = true) (h : elemLoad T t sh x j K = some out) (he : ElAt w F sh x b o) :
    ∃ z v, K z = some out ∧ VRel w φ F B z v ∧ (loadVar t ⟨b, o + j, none⟩).run P w = .ok v w := by
  unfold elemLoad at h
  have hsz := (size_spec hT hz).1
  split at h
  · obtain ⟨h1, h⟩ := grd_some h
    replace h := grd_some h
    obtain ⟨h2, h⟩ := h
    have h1 : isAggT T t = false := by simpa using h1
    have h2 := Nat.eq_of_beq_eq_true h2
    obtain ⟨u, hu, hr, _⟩ := he
    refine ⟨_, _, h, .v hr, ?_⟩
    rw [h2]
    exact run_loadVar_cell (agg_false hT hz h1 (hO t)) hu
  · next n =>
    obtain ⟨us, hl, hc, hr⟩ := he
    cases ha : isAggT T t with
    | true =>
      rw [ha] at h
      have hA := isAggT_spec hT ha
      simp only [cond_true] at h
      cases hb : (Nat.beq j 0 && Nat.beq (sizeT T t) n) with
      | true =>
        rw [hb] at h
        rw [Bool.and_eq_true] at hb
        have e1 := Nat.eq_of_beq_eq_true hb.1
        have e2 := Nat.eq_of_beq_eq_true hb.2
        refine ⟨_, _, h, .v hr, ?_⟩
        rw [e1]
        exact run_loadVar_cells hA (fun w => by rw [hsz, e2, hl]) hc
      | false =>
        rw [hb] at h
        simp only [cond_false] at h
        replace h := bind_some h
        obtain ⟨c, hc', h⟩ := h
        unfold CV.part at hc'
        split at hc'
        · next cs =>
          cases hle : Nat.ble (j + sizeT T t) cs.length with
          | false => rw [hle] at hc'; cases hc'
          | true =>
            rw [hle] at hc'
            cases hc'
            have hle := Nat.le_of_ble_eq_true hle
            have hlen := hr.len
            refine ⟨_, _, h, .v (hr.sub j (sizeT T t)), run_loadVar_cells hA (fun w => by rw [hsz]; simp; omega) (fun i u hu => ?_)⟩
            rw [List.getElem?_take] at hu
            split at hu
            · rw [List.getElem?_drop] at hu
              rw [Nat.add_assoc]
              exact hc _ _ hu
            · cases hu
        · cases hc'
    | false =>
      rw [ha] at h
      simp only [cond_false] at h
      replace h := bind_some h
      obtain ⟨c, hc', h⟩ := h
      unfold CV.cell at hc'
      split at hc'
      · next cs =>
        obtain ⟨v, hv, hr', _⟩ := hr.cell_ok hc'
        exact ⟨_, _, h, .v hr', run_loadVar_cell (agg_false hT hz ha (hO t)) (hc j v hv)⟩
      · cases hc'
theorem pureV_spec : ∀ {cs : List AVal} {ds : List CV}, pureV cs = some ds → cs = ds.map .v
  | [], ds, h => by cases h; rfl
  | .v c :: l, ds, h => by
    unfold pureV at h
    split at h
    · next cs e => cases h; rw [List.map_cons, pureV_spec e]
    · cases h
  | .sl .. :: _, _, h => by cases h
  | .nil0 _ :: _, _, h => by cases h
  | .osl .. :: _, _, h => by cases h
  | .ptr .. :: _, _, h => by cases h
  | .bptr .. :: _, _, h => by cases h
  | .agg _ :: _, _, h => by cases h
  | .tup _ :: _, _, h => by cases h
  | .fn .. :: _, _, h => by cases h
  | .undef :: _, _, h => by cases h
theorem VRel.mkAgg {cs : List AVal} {vs : List Value} (h : VRel w φ F B (.agg cs) (.agg vs.toArray)) : VRel w φ F B (mkAgg cs) (.agg vs.toArray) := by
  unfold Go.Proofs.YtlaojkheenobaaaDoorS.mkAgg
  split
  · next ds e =>
    have e := pureV_spec e
    subst e
    generalize hA : Value.agg vs.toArray = A at h
    cases h with
    | @agg _ vs' hl ho hr =>
      refine .v (.agg (by simpa using hl) (fun c hc => ho _ (List.mem_map.2 ⟨c, hc, rfl⟩)) (fun j c v hc hv => ?_))
      have := hr j (.v c) v (by rw [List.getElem?_map, hc]; rfl) hv
      cases this with | v h => exact h
  · exact h
theorem VRel.sub {cs : List AVal} {vs : List Value} (h : VRel w φ F B (.agg cs) (.agg vs.toArray)) (j n : Nat) : VRel w φ F B (.agg ((cs.drop j).take n)) (.agg ((vs.drop j).take n).toArray) := by
  generalize hA : Value.agg vs.toArray = A at h
  cases h with
  | @agg _ vs' hl ho hr =>
    injection hA with hA
    injection hA with hA
    subst hA
    refine .agg (by simp [hl]) (fun c hc => ho c (List.mem_of_mem_drop (List.mem_of_mem_take hc))) (fun i c v hc hv => ?_)
    rw [List.getElem?_take] at hc hv
    split at hc
    · next hlt =>
      rw [if_pos hlt] at hv
      rw [List.getElem?_drop] at hc hv
      exact hr _ _ _ hc hv
    · cases hc
theorem CV.isI_eq {k : IntKind} {c : CV} (h : c.isI k = true) : c = .int k c.toI := by
  cases c <;> simp_all [CV.isI, CV.toI]
theorem CV.isB_eq {c : CV} (h : c.isB = true) : c = .bool c.toB := by
  cases c <;> simp_all [CV.isB, CV.toB]
theorem CV.isS_eq {c : CV} (h : c.isS = true) : c = .str c.toS := by
  cases c <;> simp_all [CV.isS, CV.toS]
theorem CV.isL_eq {sh : Option Nat} {c : CV} (h : c.isL sh = true) : c = .slc sh c.toL := by
  cases c with
  | slc sh' xs => rw [shEq_iff h]; rfl
  | _ => cases h
theorem CV.isA_eq {n : Nat} {c : CV} (h : c.isA n = true) : ∃ cs, c = .agg cs ∧ cs.length = n := by
  cases c with
  | agg cs => exact ⟨cs, rfl, Nat.eq_of_beq_eq_true h⟩
  | _ => cases h
theorem leafZ_sound {z : AVal} {c : CV} {v : Value} {K : AVal → Option X} (h : leafZ z c K = some out) (hc : CRel w F c v) : ∃ x, K x = some out ∧ VRel w φ F B x v ∧ (c.isAgg = false → x.cellOk) := by
  unfold leafZ at h
  split at h
  · obtain ⟨h1, h⟩ := grd_some h
    have e := CV.isI_eq h1
    exact ⟨_, h, by rw [← e]; exact .v hc, fun _ => rfl⟩
  · obtain ⟨h1, h⟩ := grd_some h
    have e := CV.isB_eq h1
    exact ⟨_, h, by rw [← e]; exact .v hc, fun _ => rfl⟩
  · obtain ⟨h1, h⟩ := grd_some h
    have e := CV.isS_eq h1
    exact ⟨_, h, by rw [← e]; exact .v hc, fun _ => rfl⟩
  · obtain ⟨h1, h⟩ := grd_some h
    have e := CV.isL_eq h1
    refine ⟨_, h, ?_, fun _ => trivial⟩
    rw [e] at hc
    exact .sl (hc.row.mono (fun _ h => h) (fun _ h => .inl h) (fun _ _ => rfl) (fun _ _ => rfl))
  · exact ⟨_, h, .v hc, fun h => h⟩
theorem leavesZ_sound {c : CV} {vs : List Value} : ∀ (zs : List AVal) (j : Nat) (us : List AVal) {K : List AVal → Option X}, leavesZ zs j c us K = some out → (∀ i v, i < zs.length → vs[j + i]? = some v → CRel w F (c.cellD (j + i)) v ∧ (c.cellD (j + i)).isAgg = false) → j + zs.length ≤ vs.length →
    ∃ xs : List AVal, K (us.reverse ++ xs) = some out ∧ xs.length = zs.length ∧ ∀ i x v, xs[i]? = some x → vs[j + i]? = some v → VRel w φ F B x v ∧ x.cellOk
  | [], j, us, K, h, _, _ => ⟨[], by rw [List.append_nil]; exact h, rfl, fun i x v hx => by simp at hx⟩
  | z :: zs, j, us, K, h, hc, hl => by
    unfold leavesZ at h
    have hj : j < vs.length := by simp at hl; omega
    have hv : vs[j]? = some vs[j] := List.getElem?_eq_getElem hj
    obtain ⟨g1, g2⟩ := hc 0 vs[j] (by simp) (by rw [Nat.add_zero]; exact hv)
    obtain ⟨x, h, k1, k2⟩ := leafZ_sound (φ := φ) (B := B) h g1
    obtain ⟨xs, h, k3, k4⟩ := leavesZ_sound zs (j + 1) (x :: us) h (fun i v hi hv => by
      have := hc (i + 1) v (by simpa using hi) (by rw [← hv]; congr 1; omega)
      rw [show j + 1 + i = j + (i + 1) by omega]; exact this) (by simp at hl; omega)
    refine ⟨x :: xs, by simpa using h, by simp [k3], fun i y v hy hv' => ?_⟩
    cases i with
    | zero =>
      simp at hy hv'
      subst hy
      rw [hv] at hv'
      cases hv'
      exact ⟨k1, k2 g2⟩
    | succ i => exact k4 i y v (by simpa using hy) (by rw [← hv']; congr 1; omega)
theorem typed_sound {t : Nat} {x : AVal} {v : Value} {K : AVal → Option X} (h : typed T t x K = some out) (hx : VRel w φ F B x v) : ∃ z, K z = some out ∧ VRel w φ F B z v := by
  unfold typed at h
  split at h
  · cases hx with
    | v hc =>
      obtain ⟨z, h1, h2, _⟩ := leafZ_sound (φ := φ) (B := B) h hc
      exact ⟨z, h1, h2⟩
  · cases e : isLeafT T t with
    | true => rw [e] at h; cases h
    | false => rw [e] at h; exact ⟨_, h, hx⟩
theorem expand_agg {c : CV} {zs : List AVal} {v : Value} {K : AVal → Option X} (h : grd (c.isA zs.length) (leavesZ zs 0 c [] fun us => K (.agg us)) = some out) (hc : CRel w F c v) : ∃ z, K z = some out ∧ VRel w φ F B z v := by
  obtain ⟨h1, h⟩ := grd_some h
  obtain ⟨cs, rfl, hl⟩ := CV.isA_eq h1
  cases hc with
  | @agg _ vs hlv ha hr =>
    obtain ⟨xs, h, k1, k2⟩ := leavesZ_sound (φ := φ) (B := B) (vs := vs) zs 0 [] h (fun i v hi hv => by
      have hi' : i < cs.length := by omega
      have hci : (CV.agg cs).cellD (0 + i) = cs[i] := by
        simp only [CV.cellD, Nat.zero_add, List.getD_eq_getElem?_getD, List.getElem?_eq_getElem hi', Option.getD_some]
      rw [hci]
      exact ⟨hr i _ v (List.getElem?_eq_getElem hi') (by rw [Nat.zero_add] at hv; exact hv), ha _ (List.getElem_mem hi')⟩) (by omega)
    have h : K (.agg xs) = some out := h
    refine ⟨_, h, .agg (by simpa [k1, hl] using hlv) (fun y hy => ?_) (fun j y v hy hv => (k2 j y v hy (by rw [Nat.zero_add]; exact hv)).1)⟩
    obtain ⟨j, hj, rfl⟩ := List.mem_iff_getElem.1 hy
    have hj' : j < vs.length := by simp [k1] at hj; omega
    exact (k2 j _ vs[j] (List.getElem?_eq_getElem hj) (by rw [Nat.zero_add]; exact List.getElem?_eq_getElem hj')).2
theorem expand_sound {t : Nat} {x : AVal} {v : Value} {K : AVal → Option X} (h : expand T t x K = some out) (hx : VRel w φ F B x v) : ∃ z, K z = some out ∧ VRel w φ F B z v := by
  unfold expand at h
  split at h
  · next c =>
    cases ha : isAggT T t with
    | false => rw [ha] at h; exact ⟨_, h, hx⟩
    | true =>
      rw [ha] at h
      simp only [cond_true] at h
      cases hx with
      | v hc =>
        split at h
        · next zs _ => exact expand_agg (zs := zs.map .v) (by simpa using h) hc
        · exact expand_agg h hc
        · exact ⟨_, h, .v hc⟩
  · exact ⟨_, h, hx⟩
/-- Cells of a row, as one value. -/
theorem flat_agg {xs : List CV} {b : Nat} (he : ∀ (i : Nat) x, xs[i]? = some x → ElAt w F none x b i) (k n : Nat) (hk : k + n ≤ xs.length) :
    ∃ us : List Value, us.length = n ∧ (∀ (j : Nat) u, us[j]? = some u → w.cell? ⟨b, k + j, none⟩ = some u) ∧ CRel w F (.agg ((xs.drop k).take n)) (.agg us.toArray) := by
  have hget : ∀ j, j < n → ∀ v, ((List.range n).map fun j => (w.cell? ⟨b, k + j, none⟩).getD undef)[j]? = some v → w.cell? ⟨b, k + j, none⟩ = some v := fun j hj v hv => by
    rw [List.getElem?_map, List.getElem?_range hj] at hv
    obtain ⟨u, hu, _⟩ := he (k + j) _ (List.getElem?_eq_getElem (by omega))
    rw [Option.map_some, Option.some.injEq, hu] at hv
    rw [hu, ← hv]; rfl
  refine ⟨(List.range n).map fun j => (w.cell? ⟨b, k + j, none⟩).getD undef, by simp, fun j v hv => ?_, .agg (by simp; omega) (fun c hc => ?_) (fun j c v hc hv => ?_)⟩
  · have hj : j < n := by have := (List.getElem?_eq_some_iff.1 hv).1; simpa using this
    exact hget j hj v hv
  · obtain ⟨j, hj⟩ := List.mem_iff_getElem?.1 hc
    obtain ⟨hj', _⟩ := slice_get xs k n j c hj
    obtain ⟨_, _, _, ha⟩ := he _ _ hj'
    exact ha
  · obtain ⟨hj', hjn⟩ := slice_get xs k n j c hc
    have := hget j hjn v hv
    obtain ⟨u, hu, hr, _⟩ := he _ _ hj'
    rw [this] at hu
    cases hu
    exact hr
theorem evLoad0_sound (hT : TabOk T P) (hO : NoOther T) (hI : Inv fr φ F s a w) {t : Nat} {x : AVal} {vx : Value} {K : AVal → Option X} (h : evLoad0 T s.nodes t x K = some out) (hx : VRel w φ F fr.B x vx) :
    ∃ z v, K z = some out ∧ VRel w φ F fr.B z v ∧ (Instr.loadAt t vx).run P w = .ok v w := by
  unfold evLoad0 at h
  split at h
  · next nm sz i j =>
    split at h
    · next cs hf =>
      replace h := grd_some h
      obtain ⟨h1, h⟩ := h
      rw [Bool.and_eq_true] at h1
      have e0 := Nat.eq_of_beq_eq_true h1.1
      obtain ⟨b, hb, hw, hl, ho, hc⟩ := hI.nd nm _ (find_mem hf)
      have hsz := (size_spec hT h1.2).1
      cases hx with
      | ptrD hd => rw [hb] at hd; cases hd
      | ptr hp =>
        rw [hb] at hp
        cases hp
        simp only [e0, Nat.mul_zero, Nat.zero_add]
        cases ha : isAggT T t with
        | true =>
          rw [ha] at h
          replace h := grd_some h
          obtain ⟨hle, h⟩ := h
          have hle := Nat.le_of_ble_eq_true hle
          have hA := isAggT_spec hT ha
          have key : ∃ vs : List Value, vs.length = cs.length ∧ (∀ (j : Nat) v, vs[j]? = some v → w.cell? ⟨b, j, none⟩ = some v) ∧ ∀ (j : Nat) c v, cs[j]? = some c → vs[j]? = some v → VRel w φ F fr.B c v := by
            refine ⟨(List.range cs.length).map fun j => (w.cell? ⟨b, j, none⟩).getD undef, by simp, fun j v hv => ?_, fun j c v hcj hv => ?_⟩
            · rw [List.getElem?_map, Option.map_eq_some_iff] at hv
              obtain ⟨k, hk, rfl⟩ := hv
              have hj : j < cs.length := by have := (List.getElem?_eq_some_iff.1 hk).1; simpa using this
              rw [List.getElem?_range hj] at hk
              cases hk
              obtain ⟨v, hv, _⟩ := hc j _ (List.getElem?_eq_getElem hj)
              rw [hv]; rfl
            · have hj := (List.getElem?_eq_some_iff.1 hcj).1
              rw [List.getElem?_map, List.getElem?_range hj] at hv
              obtain ⟨v', hv', hr⟩ := hc j c hcj
              rw [Option.map_some, Option.some.injEq, hv'] at hv
              rw [← hv]; exact hr
          obtain ⟨vs, hvl, hvc, hvr⟩ := key
          refine ⟨_, _, h, (VRel.sub (.agg hvl.symm ho hvr) j (sizeT T t)).mkAgg, ?_⟩
          show (do loadVar t (← Instr.sureAddr _) : Sem Value).run P w = _
          simp only [Instr.sureAddr, Sem.run_bind, Sem.run_pure, Result.andThen_ok]
          refine run_loadVar_cells hA (fun w => by rw [hsz, List.length_take, List.length_drop, hvl]; congr 1; omega) (fun q u hu => ?_)
          rw [List.getElem?_take] at hu
          split at hu
          · rw [List.getElem?_drop] at hu
            exact hvc _ _ hu
          · cases hu
        | false =>
          rw [ha] at h
          simp only [cond_false] at h
          replace h := bind_some h
          obtain ⟨c, hcj, h⟩ := h
          obtain ⟨v, hv, hr⟩ := hc j c hcj
          refine ⟨_, _, h, hr, ?_⟩
          show (do loadVar t (← Instr.sureAddr _) : Sem Value).run P w = _
          simp only [Instr.sureAddr, Sem.run_bind, Sem.run_pure, Result.andThen_ok]
          exact run_loadVar_cell (agg_false hT h1.2 ha (hO t)) hv
    · next fz sh xs hf =>
      replace h := grd_some h
      obtain ⟨h1, h⟩ := h
      rw [Bool.and_eq_true] at h1
      have e0 := Nat.eq_of_beq_eq_true h1.1
      obtain ⟨h0, blk, hb, hn, hc⟩ := hI.nd nm _ (find_mem hf)
      cases hx with
      | ptrD hd => rw [hb] at hd; cases hd
      | ptr hp =>
        rw [hb] at hp
        cases hp
        obtain ⟨_, _, _, he⟩ := hc _ rfl
        split at h
        · rw [e0, szOf, Nat.mul_one]
          have he' : ∀ (i : Nat) x, xs[i]? = some x → ElAt w F none x _ i := fun i x hx => by have := he i x hx; rwa [szOf, Nat.mul_one] at this
          have hsz := (size_spec hT h1.2).1
          unfold flatLoad at h
          cases ha : isAggT T t with
          | true =>
            rw [ha] at h
            replace h := grd_some h
            obtain ⟨hle, h⟩ := h
            have hle := of_decide_eq_true hle
            obtain ⟨us, hul, huc, hr⟩ := flat_agg he' (i + j) (sizeT T t) hle
            refine ⟨_, _, h, .v hr, ?_⟩
            show (do loadVar t (← Instr.sureAddr _) : Sem Value).run P w = _
            simp only [Instr.sureAddr, Sem.run_bind, Sem.run_pure, Result.andThen_ok]
            exact run_loadVar_cells (isAggT_spec hT ha) (fun w => by rw [hsz, hul]) huc
          | false =>
            rw [ha] at h
            simp only [cond_false] at h
            replace h := bind_some h
            obtain ⟨c, hcj, h⟩ := h
            obtain ⟨v, hv, hr, _⟩ := he' _ _ hcj
            refine ⟨_, _, h, .v hr, ?_⟩
            show (do loadVar t (← Instr.sureAddr _) : Sem Value).run P w = _
            simp only [Instr.sureAddr, Sem.run_bind, Sem.run_pure, Result.andThen_ok]
            exact run_loadVar_cell (agg_false hT h1.2 ha (hO t)) hv
        · replace h := bind_some h
          obtain ⟨e, hxe, h⟩ := h
          obtain ⟨z, v, hz, hr, hrun⟩ := elemLoad_sound (φ := φ) (B := fr.B) hT hO h1.2 h (he i e hxe)
          rw [← e0] at hrun
          exact ⟨z, v, hz, hr, by show (do loadVar t (← Instr.sureAddr _) : Sem Value).run P w = _; simpa only [Instr.sureAddr, Sem.run_bind, Sem.run_pure, Result.andThen_ok] using hrun⟩
    · cases h
  · next sh x j =>
    replace h := grd_some h
    obtain ⟨h1, h⟩ := h
    cases hx with
    | bptr hb he =>
      obtain ⟨z, v, hz, hr, hrun⟩ := elemLoad_sound (φ := φ) (B := fr.B) hT hO h1 h he
      exact ⟨z, v, hz, hr, by show (do loadVar t (← Instr.sureAddr _) : Sem Value).run P w = _; simpa only [Instr.sureAddr, Sem.run_bind, Sem.run_pure, Result.andThen_ok] using hrun⟩
  · cases h
theorem evLoad_sound (hT : TabOk T P) (hO : NoOther T) (hI : Inv fr φ F s a w) {t : Nat} {x : AVal} {vx : Value} {K : AVal → Option X} (h : evLoad T s.nodes t x K = some out) (hx : VRel w φ F fr.B x vx) :
    ∃ z v, K z = some out ∧ VRel w φ F fr.B z v ∧ (Instr.loadAt t vx).run P w = .ok v w := by
  obtain ⟨z, v, h1, h2, h3⟩ := evLoad0_sound hT hO hI h hx
  obtain ⟨y, h4, h5⟩ := typed_sound h1 h2
  exact ⟨y, v, h4, h5, h3⟩
end
end Go.Proofs.YtlaojkheenobaaaDoorS
