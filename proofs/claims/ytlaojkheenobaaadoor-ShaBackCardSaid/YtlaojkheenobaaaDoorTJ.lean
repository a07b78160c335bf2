/- Regions that are drawn: every order that may be, comes to the state of the given one. -/
import Derived.Test.YtlaojkheenobaaaDoorTY
namespace Go.Proofs.YtlaojkheenobaaaDoorS
open Go Go.RowKit
set_option linter.unusedVariables false
set_option linter.unusedSimpArgs false
section
variable {X Y : Type} {T : Tab} {out : X} {s s1 s2 : St} {cx : Cx} {ops : Array Oper}
theorem evOpR_congr {ρ ρ' : Operand → AVal} {o : Oper} {K : St → Option X} (h : ∀ x ∈ o.op.operands, ρ x = ρ' x) : evOpR cx ρ s o K = evOpR cx ρ' s o K ∧ footR cx ρ o = footR cx ρ' o := by
  obtain ⟨dst, op, type, pos, after, guard⟩ := o
  have pairs : ∀ ps : Array (Nat × Operand), (∀ x ∈ ps.map (·.2), ρ x = ρ' x) →
      (ps.toList.map fun (p : Nat × Operand) => (p.1, ρ p.2)) = (ps.toList.map fun p => (p.1, ρ' p.2)) := fun ps hp =>
    List.map_congr_left fun p hm => by
      obtain ⟨i, x⟩ := p
      simp only [hp x (Array.mem_map.2 ⟨(i, x), Array.mem_toList_iff.1 hm, rfl⟩)]
  have pairs2 : ∀ ps : Array (Nat × Operand), (∀ x ∈ ps.map (·.2), ρ x = ρ' x) →
      (ps.toList.flatMap fun (p : Nat × Operand) => (ρ p.2).names) = (ps.toList.flatMap fun p => (ρ' p.2).names) := fun ps hp => by
    have := congrArg (List.flatMap fun p : Nat × AVal => p.2.names) (pairs ps hp)
    simpa [List.flatMap_map] using this
  have many : ∀ xs : Array Operand, (∀ x ∈ xs, ρ x = ρ' x) → xs.toList.map ρ = xs.toList.map ρ' := fun xs hp =>
    List.map_congr_left fun x hm => hp x (Array.mem_toList_iff.1 hm)
  have many2 : ∀ xs : Array Operand, (∀ x ∈ xs, ρ x = ρ' x) → (xs.toList.flatMap fun x => (ρ x).names) = (xs.toList.flatMap fun x => (ρ' x).names) := fun xs hp => by
    have := congrArg (List.flatMap fun p : AVal => p.names) (many xs hp)
    simpa [List.flatMap_map] using this
  cases op <;> simp only [Op.operands] at h <;> simp only [evOpR, footR]
  case build t ps => exact ⟨by rw [pairs ps fun x hx => h x (by simpa using hx)], trivial⟩
  case buildSlice t n ps => exact ⟨by rw [pairs ps fun x hx => h x (by simpa using hx)], by
    have e3 : (ps.toList.map fun p => ρ p.2) = ps.toList.map fun p => ρ' p.2 := by
      have := congrArg (List.map fun p : Nat × AVal => p.2) (pairs ps fun x hx => h x (by simpa using hx))
      simpa [List.map_map] using this
    rw [pairs2 ps fun x hx => h x (by simpa using hx), e3]⟩
  case makeFunc fn first captured =>
    cases fn with
    | func g => simp only [many captured fun x hx => h x (by simp [hx])]; exact ⟨trivial, trivial⟩
    | _ => exact ⟨rfl, trivial⟩
  case call c =>
    obtain ⟨callee, args, atys⟩ := c
    have ha := many args fun x hx => h x (by simp [Call.operands, hx])
    have ha2 := many2 args fun x hx => h x (by simp [Call.operands, hx])
    cases callee with
    | value f => have hf : ρ f = ρ' f := h f (by simp [Call.operands]); simp only [hf, ha]; exact ⟨trivial, trivial⟩
    | invoke r m => exact ⟨rfl, rfl⟩
    | builtin b => simp only [ha, ha2]; exact ⟨trivial, trivial⟩
  case slice t x lo hi mx => cases lo <;> cases hi <;> cases mx <;> simp_all
  all_goals first | exact ⟨rfl, rfl⟩ | (simp_all; done)
/-- Two states have the same in the temporaries that an operation looks at. -/
def Agree (ops : Array Oper) (o : Oper) (s s' : St) : Prop := ∀ t ∈ o.looksAt ops, nth s'.tmps t = nth s.tmps t
theorem Agree.op {o : Oper} {s' : St} (h : Agree ops o s s') (q : St) (K : St → Option X) : evOpR cx s'.eval q o K = evOpR cx s.eval q o K ∧ footR cx s'.eval o = footR cx s.eval o := by
  refine evOpR_congr fun x hx => ?_
  cases x with
  | tmp t => exact h t (List.mem_append_left _ (List.mem_filterMap.2 ⟨.tmp t, by simpa using hx, rfl⟩))
  | _ => rfl
theorem Agree.guard {o : Oper} {s' : St} (h : Agree ops o s s') {j : Nat} {want : Bool} (hg : o.guard = some (j, want)) {t : Nat} (ht : (ops[j]?).bind (·.dst) = some t) : nth s'.tmps t = nth s.tmps t :=
  h t (List.mem_append_right _ (by simp [hg, ht]))
theorem Agree.foot {o : Oper} {s' : St} (h : Agree ops o s s') : footG cx ops s' o = footG cx ops s o := by
  have e := (h.op (X := Unit) (cx := cx) s (fun _ => none)).2
  unfold footG footOf
  cases hg : o.guard with
  | none => exact e
  | some p =>
    obtain ⟨j, want⟩ := p
    simp only
    cases ht : (ops[j]?).bind (·.dst) with
    | none => rfl
    | some t => simp only [h.guard hg ht, e]
theorem Agree.ev {o : Oper} {s' : St} (h : Agree ops o s s') (ns : Nodes) (hs : s'.nodes = ns) (K : St → Option X) : evG cx ops s' o K = (match o.guard with
  | none => evOpR cx s.eval s' o K
  | some (j, want) => match (ops[j]?).bind (·.dst) with
    | some t => match nth s.tmps t with
      | .v (.bool b) => bif (b == want) then evOpR cx s.eval s' o K else K (s'.put o.dst (.tup []))
      | .tup [] => K (s'.put o.dst (.tup []))
      | _ => none
    | none => none) := by
  have e := (h.op (cx := cx) s' K).1
  unfold evG evOp
  cases hg : o.guard with
  | none => exact e
  | some p =>
    obtain ⟨j, want⟩ := p
    simp only
    cases ht : (ops[j]?).bind (·.dst) with
    | none => rfl
    | some t => simp only [h.guard hg ht, e]; rfl
theorem Agree.refl (o : Oper) : Agree ops o s s := fun _ _ => rfl
theorem evG_fr {o : Oper} (hg : (footG cx ops s o).glob = false) (h : evG cx ops s o some = some s1) :
    ((footG cx ops s o).ch = false ∧ ∃ z, s1 = s.put o.dst z ∧ ∀ s', Agree ops o s s' → Same (footG cx ops s o).rdE s.nodes s'.nodes → evG cx ops s' o some = some (s'.put o.dst z)) ∨
    ((footG cx ops s o).ch = true ∧ ∃ z ns, s1 = (⟨s.tmps, ns⟩ : St).put o.dst z ∧ (∀ ts, Agree ops o s ⟨ts, s.nodes⟩ → evG cx ops ⟨ts, s.nodes⟩ o some = some ((⟨ts, ns⟩ : St).put o.dst z)) ∧
      ∀ nm, (∀ m ∈ (footG cx ops s o).wr, kin m nm = false) → find nm ns = find nm s.nodes) := by
  have run : footG cx ops s o = footOf cx s o → evOpR cx s.eval s o some = some s1 → (∀ s', Agree ops o s s' → evG cx ops s' o some = evOpR cx s.eval s' o some) →
    ((footG cx ops s o).ch = false ∧ ∃ z, s1 = s.put o.dst z ∧ ∀ s', Agree ops o s s' → Same (footG cx ops s o).rdE s.nodes s'.nodes → evG cx ops s' o some = some (s'.put o.dst z)) ∨
    ((footG cx ops s o).ch = true ∧ ∃ z ns, s1 = (⟨s.tmps, ns⟩ : St).put o.dst z ∧ (∀ ts, Agree ops o s ⟨ts, s.nodes⟩ → evG cx ops ⟨ts, s.nodes⟩ o some = some ((⟨ts, ns⟩ : St).put o.dst z)) ∧
      ∀ nm, (∀ m ∈ (footG cx ops s o).wr, kin m nm = false) → find nm ns = find nm s.nodes) := fun hf he hr => by
    rw [hf] at hg ⊢
    rcases evOp_fr (Y := St) hg he with ⟨h1, z, h2, k⟩ | ⟨h1, z, ns, h2, k, k3⟩
    · refine .inl ⟨h1, z, ?_, fun s' ha hs => (hr s' ha).trans (k s' hs some)⟩
      cases h2; rfl
    · refine .inr ⟨h1, z, ns, ?_, fun ts ha => (hr _ ha).trans (k ts some), k3⟩
      cases h2; rfl
  cases hgd : o.guard with
  | none =>
    refine run (by unfold footG; rw [hgd]) ?_ (fun s' ha => ?_)
    · unfold evG evOp at h; rw [hgd] at h; exact h
    · rw [ha.ev _ rfl, hgd]
  | some p =>
    obtain ⟨j, want⟩ := p
    cases ht : (ops[j]?).bind (·.dst) with
    | none => unfold evG at h; rw [hgd] at h; simp only [ht] at h; cases h
    | some t =>
      have hev : ∀ s', Agree ops o s s' → evG cx ops s' o some = (match nth s.tmps t with
        | .v (.bool b) => bif (b == want) then evOpR cx s.eval s' o some else some (s'.put o.dst (.tup []))
        | .tup [] => some (s'.put o.dst (.tup []))
        | _ => none) := fun s' ha => by rw [ha.ev _ rfl, hgd]; simp only [ht]
      have hft : footG cx ops s o = (match nth s.tmps t with
        | .v (.bool b) => bif (b == want) then footOf cx s o else noFt
        | _ => noFt) := by unfold footG; rw [hgd]; simp only [ht]; rfl
      have h0 := (hev s (Agree.refl o)).symm.trans h
      have skip : footG cx ops s o = noFt → (∀ s', Agree ops o s s' → evG cx ops s' o some = some (s'.put o.dst (.tup []))) → 
        ((footG cx ops s o).ch = false ∧ ∃ z, s1 = s.put o.dst z ∧ ∀ s', Agree ops o s s' → Same (footG cx ops s o).rdE s.nodes s'.nodes → evG cx ops s' o some = some (s'.put o.dst z)) := fun e1 e2 => by
        refine ⟨by rw [e1]; rfl, .tup [], ?_, fun s' ha _ => e2 s' ha⟩
        have := (e2 s (Agree.refl o)).symm.trans h
        cases this; rfl
      split at h0
      · next b hb =>
        rw [hb] at hft
        simp only at hft
        cases e : (b == want) with
        | true =>
          rw [e] at h0 hft
          refine run hft h0 (fun s' ha => ?_)
          rw [hev s' ha, hb]; simp only [e, cond_true]
        | false =>
          rw [e] at h0 hft
          refine .inl (skip hft (fun s' ha => ?_))
          rw [hev s' ha, hb]; simp only [e, cond_false]
      · next hb =>
        rw [hb] at hft
        exact .inl (skip hft (fun s' ha => by rw [hev s' ha, hb]))
      · cases h0
theorem evG_kd {o : Oper} (hk : (footG cx ops s o).kd ≠ 0) (h : evG cx ops s o some = some s1) :
    footG cx ops s o = footOf cx s o ∧ evOpR cx s.eval s o some = some s1 ∧ ∀ s' (K : St → Option X), Agree ops o s s' → evG cx ops s' o K = evOpR cx s.eval s' o K := by
  cases hgd : o.guard with
  | none =>
    refine ⟨by unfold footG; rw [hgd], ?_, fun s' K ha => ?_⟩
    · unfold evG evOp at h; rw [hgd] at h; exact h
    · rw [ha.ev _ rfl, hgd]
  | some p =>
    obtain ⟨j, want⟩ := p
    cases ht : (ops[j]?).bind (·.dst) with
    | none => unfold evG at h; rw [hgd] at h; simp only [ht] at h; cases h
    | some t =>
      have hft : footG cx ops s o = (match nth s.tmps t with
        | .v (.bool b) => bif (b == want) then footOf cx s o else noFt
        | _ => noFt) := by unfold footG; rw [hgd]; simp only [ht]; rfl
      have hev : ∀ {Z : Type} s' (K : St → Option Z), Agree ops o s s' → evG cx ops s' o K = (match nth s.tmps t with
        | .v (.bool b) => bif (b == want) then evOpR cx s.eval s' o K else K (s'.put o.dst (.tup []))
        | .tup [] => K (s'.put o.dst (.tup []))
        | _ => none) := fun s' K ha => by rw [ha.ev _ rfl, hgd]; simp only [ht]
      rw [hft] at hk
      split at hk
      · next b hb =>
        cases e : (b == want) with
        | true =>
          rw [hb] at hft
          simp only [e, cond_true] at hft
          refine ⟨hft, ?_, fun s' K ha => by rw [hev s' K ha, hb]; simp only [e, cond_true]⟩
          have := (hev s some (Agree.refl o)).symm.trans h
          rw [hb] at this
          simpa only [e, cond_true] using this
        | false => rw [e] at hk; exact absurd rfl hk
      · exact absurd rfl hk
theorem kin_symm (a b : Nm) : kin a b = kin b a := by unfold kin; rw [Bool.or_comm]
theorem put_nodes (d : Option Tmp) (z : AVal) : (s.put d z).nodes = s.nodes := by cases d <;> rfl
theorem put_tmps (ns : Nodes) (d : Option Tmp) (z : AVal) : ((⟨s.tmps, ns⟩ : St).put d z) = ⟨(s.put d z).tmps, ns⟩ := by cases d <;> rfl
theorem Agree.put {o : Oper} (d : Option Tmp) (z : AVal) (ns : Nodes) (h : ∀ t, d = some t → t ∉ o.looksAt ops) : Agree ops o s ((⟨s.tmps, ns⟩ : St).put d z) := fun t ht => by
  cases d with
  | none => rfl
  | some d =>
    show nth (setn s.tmps d z) t = _
    rw [nth_setn, if_neg]
    rintro ⟨rfl, _⟩
    exact h _ rfl ht
theorem Agree.symm {o : Oper} {s' : St} (h : Agree ops o s s') : Agree ops o s' s := fun t ht => (h t ht).symm
theorem setn_comm : ∀ (l : List AVal) (t u : Nat) (x y : AVal), t ≠ u → setn (setn l t x) u y = setn (setn l u y) t x
  | [], _, _, _, _, _ => rfl
  | a :: l, 0, 0, x, y, h => absurd rfl h
  | a :: l, 0, u + 1, x, y, _ => rfl
  | a :: l, t + 1, 0, x, y, _ => rfl
  | a :: l, t + 1, u + 1, x, y, h => by simp only [setn]; rw [setn_comm l t u x y (by omega)]
theorem put_comm (d e : Option Tmp) (x y : AVal) (h : ∀ t, d = some t → e ≠ some t) : (s.put d x).put e y = (s.put e y).put d x := by
  cases d with
  | none => rfl
  | some t =>
    cases e with
    | none => rfl
    | some u =>
      have : t ≠ u := fun he => h t rfl (by rw [he])
      show (⟨setn (setn s.tmps t x) u y, s.nodes⟩ : St) = ⟨setn (setn s.tmps u y) t x, s.nodes⟩
      rw [setn_comm _ _ _ _ _ this]
theorem meets_false {l m : List Nm} (h : meets l m = false) {a b : Nm} (ha : a ∈ l) (hb : b ∈ m) : kin a b = false := by
  unfold meets at h
  rw [List.any_eq_false] at h
  have := h a ha
  simp only [List.any_eq_true, not_exists, not_and] at this
  have := this b hb
  simpa using this
theorem swap_box {x y : Oper} (hy1 : (footG cx ops s y).kd = 1) (hx2 : (footG cx ops s1 x).kd = 2) (g1 : (footG cx ops s y).glob = false) (hw : meets (footG cx ops s y).wr (footG cx ops s1 x).wr = false) (hr : meets (footG cx ops s y).wr (footG cx ops s1 x).rd = false) (hap : Oper.apart ops y x = true) (hy : evG cx ops s y some = some s1) (hx : evG cx ops s1 x some = some s2) :
    ∃ s1', evG cx ops s x some = some s1' ∧ footG cx ops s x = footG cx ops s1 x ∧ evG cx ops s1' y some = some s2 ∧ footG cx ops s1' y = footG cx ops s y := by
  obtain ⟨a1, a2, a3⟩ := Oper.apart_spec hap
  obtain ⟨fy, oy, ky⟩ := evG_kd (X := St) (by rw [hy1]; simp) hy
  obtain ⟨fx, ox, kx⟩ := evG_kd (X := St) (by rw [hx2]; simp) hx
  rw [fy] at hy1 g1 hw hr
  rw [fx] at hx2 hw hr
  obtain ⟨wy, d0, A, z, hd0, hA, hns, h1, h2⟩ := evOp_soft (Y := St) g1 hy1 oy
  obtain ⟨g, args, wx, rx, hc⟩ := evOp_call (Y := St) hx2
  have hwy : (footOf cx s y).wr = [[d0]] := by rw [show (footOf cx s y).wr = dstN y.dst from wy, hd0]; rfl
  rw [hwy] at hw hr
  have hd : ∀ m ∈ dstN x.dst ++ ftArgs (cx.md g) 0 args, kin [d0] m = false := fun m hm => meets_false hw List.mem_cons_self (by rw [show (footOf cx s1 x).wr = _ from wx]; exact hm)
  have hn : ∀ m ∈ args.flatMap AVal.names, kin [d0] m = false := fun m hm => meets_false hr List.mem_cons_self (by rw [show (footOf cx s1 x).rd = _ from rx]; exact hm)
  have e1 : s1 = (⟨s.tmps, insA A s.nodes⟩ : St).put y.dst z := by cases h1; rfl
  have hax : Agree ops x s s1 := e1 ▸ Agree.put (s := s) y.dst z (insA A s.nodes) a1
  have hfx := hax.foot (cx := cx)
  rw [hc, e1, put_tmps (s := s), evCall_app hA hd hn] at ox
  have hno : ([] : Nm) ∉ ftArgs (cx.md g) 0 args := fun hm => by
    have := hd [] (List.mem_append_right _ hm)
    rw [kin_nil'] at this; cases this
  obtain ⟨n1, rv, h3, h4, _, h6⟩ := callF_fr (Y := St) hno ox
  have h4 : ((A ++ n1).map (·.1)).Nodup := ((insA_perm A n1).map _).nodup_iff.1 h4
  have h5 := h6 s.tmps [] some (by rw [List.map_append, List.nodup_append] at h4; exact h4.2.1)
  have hev : evG cx ops s x some = some ((⟨s.tmps, n1⟩ : St).put x.dst rv) := by
    rw [kx s some hax.symm, hc]
    exact h5
  have hay : Agree ops y s ((⟨s.tmps, n1⟩ : St).put x.dst rv) := Agree.put (s := s) x.dst rv n1 a3
  refine ⟨_, hev, hfx.symm, ?_, hay.foot⟩
  rw [ky _ some hay]
  refine (h2 _ (fun p hp => ?_) some).trans ?_
  · rw [put_nodes]
    cases e : find p.1 n1 with
    | none => rfl
    | some n =>
      rw [List.map_append, List.nodup_append] at h4
      exact absurd rfl (h4.2.2 p.1 (List.mem_map.2 ⟨p, hp, rfl⟩) p.1 (List.mem_map.2 ⟨_, find_mem e, rfl⟩))
  · rw [← h3, put_nodes]
    have q1 : (⟨((⟨s.tmps, n1⟩ : St).put x.dst rv).tmps, insA A n1⟩ : St) = (⟨s.tmps, insA A n1⟩ : St).put x.dst rv := by cases x.dst <;> rfl
    have q2 : (⟨(s.put y.dst z).tmps, insA A n1⟩ : St) = (⟨s.tmps, insA A n1⟩ : St).put y.dst z := by cases y.dst <;> rfl
    rw [q1, q2, put_comm _ _ _ _ (fun t ht => a2 t ht)]
theorem swap_call {x y : Oper} (hy2 : (footG cx ops s y).kd = 2) (hx1 : (footG cx ops s1 x).kd = 1) (g1 : (footG cx ops s1 x).glob = false) (hw : meets (footG cx ops s y).wr (footG cx ops s1 x).wr = false) (hr : meets (footG cx ops s1 x).wr (footG cx ops s y).rd = false) (hap : Oper.apart ops y x = true) (hy : evG cx ops s y some = some s1) (hx : evG cx ops s1 x some = some s2) :
    ∃ s1', evG cx ops s x some = some s1' ∧ footG cx ops s x = footG cx ops s1 x ∧ evG cx ops s1' y some = some s2 ∧ footG cx ops s1' y = footG cx ops s y := by
  obtain ⟨a1, a2, a3⟩ := Oper.apart_spec hap
  obtain ⟨fy, oy, ky⟩ := evG_kd (X := St) (by rw [hy2]; simp) hy
  obtain ⟨fx, ox, kx⟩ := evG_kd (X := St) (by rw [hx1]; simp) hx
  rw [fx] at hx1 g1 hw hr
  rw [fy] at hy2 hw hr
  obtain ⟨wx, d0, A, z, hd0, hA, hns, h1, h2⟩ := evOp_soft (Y := St) g1 hx1 ox
  obtain ⟨g, args, wy, ry, hc⟩ := evOp_call (Y := St) hy2
  have hwx : (footOf cx s1 x).wr = [[d0]] := by rw [show (footOf cx s1 x).wr = dstN x.dst from wx, hd0]; rfl
  rw [hwx] at hw hr
  have hd : ∀ m ∈ dstN y.dst ++ ftArgs (cx.md g) 0 args, kin [d0] m = false := fun m hm => by
    rw [kin_symm]
    exact meets_false hw (by rw [show (footOf cx s y).wr = _ from wy]; exact hm) List.mem_cons_self
  have hn : ∀ m ∈ args.flatMap AVal.names, kin [d0] m = false := fun m hm => meets_false hr List.mem_cons_self (by rw [show (footOf cx s y).rd = _ from ry]; exact hm)
  rw [hc] at oy
  have oy' : callF cx s.tmps [] s.nodes y.dst g args some = some s1 := oy
  have hno : ([] : Nm) ∉ ftArgs (cx.md g) 0 args := fun hm => by
    have := hd [] (List.mem_append_right _ hm)
    rw [kin_nil'] at this; cases this
  obtain ⟨n1, rv, h3, h4, h5, h6⟩ := callF_fr (Y := St) hno oy'
  have e1 : s1 = (⟨s.tmps, n1⟩ : St).put y.dst rv := by
    have h3' : some ((⟨s.tmps, n1⟩ : St).put y.dst rv) = some s1 := h3
    cases h3'; rfl
  have hax : Agree ops x s s1 := e1 ▸ Agree.put (s := s) y.dst rv n1 a1
  have hfx := hax.foot (cx := cx)
  have hn1 : ∀ p ∈ A, find p.1 n1 = none := fun p hp => by
    have := hns p hp
    rwa [e1, put_nodes] at this
  have hev : evG cx ops s x some = some ((⟨s.tmps, insA A s.nodes⟩ : St).put x.dst z) := by
    rw [kx s some hax.symm]
    exact h2 s (fun p hp => h5 _ (hn1 p hp)) some
  have hay : Agree ops y s ((⟨s.tmps, insA A s.nodes⟩ : St).put x.dst z) := Agree.put (s := s) x.dst z (insA A s.nodes) a3
  refine ⟨_, hev, hfx.symm, ?_, hay.foot⟩
  rw [ky _ some hay, hc, put_tmps (s := s), evCall_app hA hd hn]
  refine (h6 _ A some ?_).trans ?_
  · refine ((insA_perm A n1).map _).nodup_iff.2 ?_
    rw [List.map_append, List.nodup_append]
    refine ⟨hA.nd, h4, fun a ha b hb e => ?_⟩
    subst e
    obtain ⟨p, hp, rfl⟩ := List.mem_map.1 ha
    obtain ⟨q, hq, e⟩ := List.mem_map.1 hb
    obtain ⟨m, n⟩ := q
    cases e
    exact find_none (hn1 p hp) n hq
  · rw [← h1, e1, put_nodes]
    have q1 : (⟨((⟨s.tmps, n1⟩ : St).put y.dst rv).tmps, insA A n1⟩ : St) = (⟨s.tmps, insA A n1⟩ : St).put y.dst rv := by cases y.dst <;> rfl
    have q2 : (⟨(s.put x.dst z).tmps, insA A n1⟩ : St) = (⟨s.tmps, insA A n1⟩ : St).put x.dst z := by cases x.dst <;> rfl
    rw [q1, q2, put_comm _ _ _ _ (fun t ht => a2 t ht)]
/-- A call, and a literal behind it that holds rows. -/
theorem swap_hard {x y : Oper} (hy2 : (footG cx ops s y).kd = 2) (hx1 : (footG cx ops s1 x).kd = 10) (hw : meets (footG cx ops s y).wr (footG cx ops s1 x).wr = false) (hr : meets (footG cx ops s1 x).wr (footG cx ops s y).rd = false) (hap : Oper.apart ops y x = true) (hy : evG cx ops s y some = some s1) (hx : evG cx ops s1 x some = some s2) :
    ∃ s1', evG cx ops s x some = some s1' ∧ footG cx ops s x = footG cx ops s1 x ∧ evG cx ops s1' y some = some s2 ∧ footG cx ops s1' y = footG cx ops s y := by
  obtain ⟨a1, a2, a3⟩ := Oper.apart_spec hap
  obtain ⟨fy, oy, ky⟩ := evG_kd (X := St) (by rw [hy2]; simp) hy
  obtain ⟨fx, ox, kx⟩ := evG_kd (X := St) (by rw [hx1]; simp) hx
  rw [fx] at hx1 hw hr
  rw [fy] at hy2 hw hr
  obtain ⟨d0, l, N, z, hd0, hdl, hdw, hlw, hns, h1, h2⟩ := evOp_hard (Y := St) hx1 ox
  obtain ⟨g, args, wy, ry, hc⟩ := evOp_call (Y := St) hy2
  have hfar : ∀ m ∈ (footOf cx s1 x).wr, ∀ q ∈ dstN y.dst ++ ftArgs (cx.md g) 0 args, kin q m = false := fun m hm q hq => meets_false hw (by rw [show (footOf cx s y).wr = _ from wy]; exact hq) hm
  have hrd : ∀ m ∈ (footOf cx s1 x).wr, ∀ q ∈ args.flatMap AVal.names, kin m q = false := fun m hm q hq => meets_false hr hm (by rw [show (footOf cx s y).rd = _ from ry]; exact hq)
  have hno : ([] : Nm) ∉ ftArgs (cx.md g) 0 args := fun hm => by
    have := hfar _ hdw [] (List.mem_append_right _ hm)
    rw [kin_nil] at this; cases this
  rw [hc] at oy
  obtain ⟨rv', ns', g1, _, g3⟩ := evCall_fr (Y := St) oy
  have oy' : callF cx s.tmps [] s.nodes y.dst g args some = some s1 := oy
  obtain ⟨n1, rv, h3, h4, h5, h6⟩ := callF_fr (Y := St) hno oy'
  have e1 : s1 = (⟨s.tmps, n1⟩ : St).put y.dst rv := by
    have h3' : some ((⟨s.tmps, n1⟩ : St).put y.dst rv) = some s1 := h3
    cases h3'; rfl
  have en : ns' = n1 := by
    have g1' : some ((⟨s.tmps, ns'⟩ : St).put y.dst rv') = some s1 := g1
    have := congrArg St.nodes ((Option.some.inj g1').trans e1)
    rwa [put_nodes, put_nodes] at this
  subst en
  have hsame : ∀ m ∈ (footOf cx s1 x).wr, find m ns' = find m s.nodes := fun m hm => g3 m fun q hq => hfar m hm q hq
  have hax : Agree ops x s s1 := e1 ▸ Agree.put (s := s) y.dst rv ns' a1
  have hfx := hax.foot (cx := cx)
  have en1 : s1.nodes = ns' := by rw [e1, put_nodes]
  have hev : evG cx ops s x some = some ((⟨s.tmps, insN ([d0], N) (frzN l s.nodes)⟩ : St).put x.dst z) := by
    rw [kx s some hax.symm]
    exact h2 s some (fun m hm => by rw [en1]; exact (hsame m hm).symm)
  have hay : Agree ops y s ((⟨s.tmps, insN ([d0], N) (frzN l s.nodes)⟩ : St).put x.dst z) := Agree.put (s := s) x.dst z _ a3
  refine ⟨_, hev, hfx.symm, ?_, hay.foot⟩
  have hA : Own d0 [([d0], N)] := one_own
  have hd : ∀ m ∈ dstN y.dst ++ ftArgs (cx.md g) 0 args, kin [d0] m = false := fun m hm => by
    rw [kin_symm]; exact hfar _ hdw m hm
  have hn : ∀ m ∈ args.flatMap AVal.names, kin [d0] m = false := fun m hm => hrd _ hdw m hm
  have hnl : ∀ m ∈ args.flatMap AVal.names, m ∉ l := fun m hm hml => by
    have := hrd m (hlw m hml) m hm
    rw [kin_refl] at this; cases this
  have hlA : ∀ m ∈ l, ∀ p ∈ [([d0], N)], p.1 ≠ m := fun m hm p hp e => by
    rw [List.mem_singleton] at hp
    subst hp
    subst e
    exact hdl hm
  rw [ky _ some hay, hc, put_tmps (s := s)]
  rw [show insN ([d0], N) (frzN l s.nodes) = insA [([d0], N)] (frzN l s.nodes) from rfl, evCall_app hA hd hn]
  rw [callF_frz hlA (fun m hm q hq => hfar m (hlw m hm) q hq) hnl hno]
  have hnn : find [d0] ns' = none := (hsame _ hdw).trans (by rw [en1] at hns; exact (hsame _ hdw).symm.trans hns)
  refine (h6 _ [([d0], N)] _ ?_).trans ?_
  · refine ((insA_perm [([d0], N)] ns').map _).nodup_iff.2 ?_
    rw [List.map_append, List.nodup_append]
    refine ⟨by simp, h4, fun a ha b hb e => ?_⟩
    subst e
    simp only [List.map_cons, List.map_nil, List.mem_singleton] at ha
    subst ha
    obtain ⟨q, hq, e⟩ := List.mem_map.1 hb
    obtain ⟨m, n⟩ := q
    cases e
    exact find_none hnn n hq
  · rw [← h1, e1]
    simp only [put_nodes]
    rw [frzN_app l ns' hlA]
    have q1 : (⟨((⟨((s.put x.dst z)).tmps, insA [([d0], N)] ns'⟩ : St).put y.dst rv).tmps, insA [([d0], N)] (frzN l ns')⟩ : St) = (⟨(s.put x.dst z).tmps, insA [([d0], N)] (frzN l ns')⟩ : St).put y.dst rv := by cases y.dst <;> rfl
    have q2 : (⟨(s.put x.dst z).tmps, insA [([d0], N)] (frzN l ns')⟩ : St) = (⟨s.tmps, insA [([d0], N)] (frzN l ns')⟩ : St).put x.dst z := by cases x.dst <;> rfl
    have q3 : (⟨((⟨s.tmps, ns'⟩ : St).put y.dst rv).tmps, insN ([d0], N) (frzN l ns')⟩ : St) = (⟨s.tmps, insA [([d0], N)] (frzN l ns')⟩ : St).put y.dst rv := by cases y.dst <;> rfl
    rw [q1, q2, q3, put_comm _ _ _ _ (fun t ht => a2 t ht)]
/-- Two that lay blocks of their own. -/
theorem swap_new {x y : Oper} (hy1 : (footG cx ops s y).kd = 1) (hx1 : (footG cx ops s1 x).kd = 1) (gy : (footG cx ops s y).glob = false) (gx : (footG cx ops s1 x).glob = false) (hw : meets (footG cx ops s y).wr (footG cx ops s1 x).wr = false) (hap : Oper.apart ops y x = true) (hy : evG cx ops s y some = some s1) (hx : evG cx ops s1 x some = some s2) :
    ∃ s1', evG cx ops s x some = some s1' ∧ footG cx ops s x = footG cx ops s1 x ∧ evG cx ops s1' y some = some s2 ∧ footG cx ops s1' y = footG cx ops s y := by
  obtain ⟨a1, a2, a3⟩ := Oper.apart_spec hap
  obtain ⟨fy, oy, ky⟩ := evG_kd (X := St) (by rw [hy1]; simp) hy
  obtain ⟨fx, ox, kx⟩ := evG_kd (X := St) (by rw [hx1]; simp) hx
  rw [fx] at hx1 gx hw
  rw [fy] at hy1 gy hw
  obtain ⟨wy, d0, A, z, hd0, hA, hns, h1, h2⟩ := evOp_soft (Y := St) gy hy1 oy
  obtain ⟨wx, d1, B, u, hd1, hB, hms, h3, h4⟩ := evOp_soft (Y := St) gx hx1 ox
  have hwy : (footOf cx s y).wr = [[d0]] := by rw [show (footOf cx s y).wr = dstN y.dst from wy, hd0]; rfl
  have hwx : (footOf cx s1 x).wr = [[d1]] := by rw [show (footOf cx s1 x).wr = dstN x.dst from wx, hd1]; rfl
  rw [hwy, hwx] at hw
  have hk : kin [d0] [d1] = false := meets_false hw List.mem_cons_self List.mem_cons_self
  have hne : ∀ p ∈ A, ∀ q ∈ B, p.1 ≠ q.1 := fun p hp q hq e => by
    obtain ⟨p', e1⟩ := hA.suf p hp
    obtain ⟨q', e2⟩ := hB.suf q hq
    exact suffix_kin hk q' p' (e2.symm.trans (e.symm.trans e1))
  have e1 : s1 = (⟨s.tmps, insA A s.nodes⟩ : St).put y.dst z := by cases h1; rfl
  have hax : Agree ops x s s1 := e1 ▸ Agree.put (s := s) y.dst z (insA A s.nodes) a1
  have hfx := hax.foot (cx := cx)
  have hms' : ∀ p ∈ B, find p.1 s.nodes = none := fun p hp => by
    have := hms p hp
    rw [e1, put_nodes] at this
    exact find_insA_none this
  have hev : evG cx ops s x some = some ((⟨s.tmps, insA B s.nodes⟩ : St).put x.dst u) := by
    rw [kx s some hax.symm]
    exact h4 s hms' some
  have hay : Agree ops y s ((⟨s.tmps, insA B s.nodes⟩ : St).put x.dst u) := Agree.put (s := s) x.dst u (insA B s.nodes) a3
  refine ⟨_, hev, hfx.symm, ?_, hay.foot⟩
  rw [ky _ some hay]
  refine (h2 _ (fun p hp => ?_) some).trans ?_
  · rw [put_nodes]
    exact (find_insA _ _ fun q hq e => hne p hp q hq e.symm).trans (hns p hp)
  · rw [← h3, e1, put_nodes, put_nodes]
    rw [insA_comm hne]
    have q1 : (⟨((⟨s.tmps, insA B s.nodes⟩ : St).put x.dst u).tmps, insA B (insA A s.nodes)⟩ : St) = (⟨s.tmps, insA B (insA A s.nodes)⟩ : St).put x.dst u := by cases x.dst <;> rfl
    have q2 : (⟨((⟨s.tmps, insA A s.nodes⟩ : St).put y.dst z).tmps, insA B (insA A s.nodes)⟩ : St) = (⟨s.tmps, insA B (insA A s.nodes)⟩ : St).put y.dst z := by cases y.dst <;> rfl
    rw [q1, q2, put_comm _ _ _ _ (fun t ht => a2 t ht)]
theorem swap_store {x y : Oper} (hy3 : (footG cx ops s y).kd = 3) (hx4 : (footG cx ops s1 x).kd = 4) (hap : Oper.apart ops y x = true) (hy : evG cx ops s y some = some s1) (hx : evG cx ops s1 x some = some s2) :
    ∃ s1', evG cx ops s x some = some s1' ∧ footG cx ops s x = footG cx ops s1 x ∧ evG cx ops s1' y some = some s2 ∧ footG cx ops s1' y = footG cx ops s y := by
  obtain ⟨a1, a2, a3⟩ := Oper.apart_spec hap
  obtain ⟨fy, oy, ky⟩ := evG_kd (X := St) (by rw [hy3]; simp) hy
  obtain ⟨fx, ox, kx⟩ := evG_kd (X := St) (by rw [hx4]; simp) hx
  rw [fy] at hy3
  rw [fx] at hx4
  obtain ⟨ns, rfl, k1, k2⟩ := evOp_store hy3 oy
  obtain ⟨u, rfl, k3⟩ := evOp_addr hx4 ox
  have hax : Agree ops x s ((⟨s.tmps, ns⟩ : St).put y.dst (.tup [])) := Agree.put (s := s) y.dst _ ns a1
  have hay : Agree ops y s (s.put x.dst u) := Agree.put (s := s) x.dst u s.nodes a3
  refine ⟨s.put x.dst u, ?_, (hax.foot (cx := cx)).symm, ?_, hay.foot⟩
  · rw [kx s some hax.symm]
    exact k3 s some (fun m => by rw [put_nodes]; exact (k2 m).symm)
  · rw [ky _ some hay]
    have e : s.put x.dst u = ⟨(s.put x.dst u).tmps, s.nodes⟩ := put_tmps (s := s) s.nodes x.dst u
    have := k1 (s.put x.dst u).tmps some
    rw [← e] at this
    rw [this]
    have e2 : (⟨(s.put x.dst u).tmps, ns⟩ : St) = (⟨s.tmps, ns⟩ : St).put x.dst u := (put_tmps ns x.dst u).symm
    rw [e2, put_comm _ _ _ _ (fun t ht => a2 t ht)]
theorem swap_addr {x y : Oper} (hy4 : (footG cx ops s y).kd = 4) (hx3 : (footG cx ops s1 x).kd = 3) (hap : Oper.apart ops y x = true) (hy : evG cx ops s y some = some s1) (hx : evG cx ops s1 x some = some s2) :
    ∃ s1', evG cx ops s x some = some s1' ∧ footG cx ops s x = footG cx ops s1 x ∧ evG cx ops s1' y some = some s2 ∧ footG cx ops s1' y = footG cx ops s y := by
  obtain ⟨a1, a2, a3⟩ := Oper.apart_spec hap
  obtain ⟨fy, oy, ky⟩ := evG_kd (X := St) (by rw [hy4]; simp) hy
  obtain ⟨fx, ox, kx⟩ := evG_kd (X := St) (by rw [hx3]; simp) hx
  rw [fy] at hy4
  rw [fx] at hx3
  obtain ⟨u, rfl, k3⟩ := evOp_addr hy4 oy
  obtain ⟨ns, rfl, k1, k2⟩ := evOp_store hx3 ox
  have hax : Agree ops x s (s.put y.dst u) := Agree.put (s := s) y.dst u s.nodes a1
  have hay : Agree ops y s ((⟨s.tmps, ns⟩ : St).put x.dst (.tup [])) := Agree.put (s := s) x.dst _ ns a3
  refine ⟨(⟨s.tmps, ns⟩ : St).put x.dst (.tup []), ?_, (hax.foot (cx := cx)).symm, ?_, hay.foot⟩
  · rw [kx s some hax.symm]
    have := k1 s.tmps some
    rw [put_nodes] at this
    exact this
  · rw [ky _ some hay]
    rw [k3 _ some (fun m => by rw [put_nodes]; show aliveN ns m = _; rw [k2, put_nodes])]
    have e2 : (⟨(s.put y.dst u).tmps, ns⟩ : St) = (⟨s.tmps, ns⟩ : St).put y.dst u := (put_tmps ns y.dst u).symm
    rw [e2, put_comm _ _ _ _ (fun t ht => a2 t ht)]
theorem setn_map (g : AVal → AVal) : ∀ (l : List AVal) (t : Nat) (x : AVal), (setn l t x).map g = setn (l.map g) t (g x)
  | [], _, _ => rfl
  | a :: l, 0, x => rfl
  | a :: l, t + 1, x => by simp [setn, setn_map g l t x]
theorem evG_at {y : Oper} {s' : St} (hk : (footG cx ops s y).kd ≠ 0) (h : evG cx ops s y some = some s1) (hg : ∀ j want t b, y.guard = some (j, want) → (ops[j]?).bind (·.dst) = some t → nth s.tmps t = .v (.bool b) → nth s'.tmps t = .v (.bool b)) :
    footG cx ops s y = footOf cx s y ∧ footG cx ops s' y = footOf cx s' y ∧ evOpR cx s.eval s y some = some s1 ∧ ∀ K : St → Option St, evG cx ops s' y K = evOpR cx s'.eval s' y K := by
  cases hgd : y.guard with
  | none =>
    refine ⟨by unfold footG; rw [hgd], by unfold footG; rw [hgd], ?_, fun K => by unfold evG evOp; rw [hgd]⟩
    unfold evG evOp at h; rw [hgd] at h; exact h
  | some p =>
    obtain ⟨j, want⟩ := p
    cases ht : (ops[j]?).bind (·.dst) with
    | none => unfold evG at h; rw [hgd] at h; simp only [ht] at h; cases h
    | some t =>
      have hft : footG cx ops s y = (match nth s.tmps t with
        | .v (.bool b) => bif (b == want) then footOf cx s y else noFt
        | _ => noFt) := by unfold footG; rw [hgd]; simp only [ht]; rfl
      rw [hft] at hk
      split at hk
      · next b hb =>
        have hb' := hg j want t b hgd ht hb
        cases e : (b == want) with
        | true =>
          rw [hb] at hft
          simp only [e, cond_true] at hft
          refine ⟨hft, ?_, ?_, fun K => ?_⟩
          · unfold footG; rw [hgd]; simp only [ht, hb', e, cond_true]
          · unfold evG evOp at h; rw [hgd] at h; simp only [ht, hb, e, cond_true] at h; exact h
          · unfold evG evOp; rw [hgd]; simp only [ht, hb', e, cond_true]
        | false => rw [e] at hk; exact absurd rfl hk
      · exact absurd rfl hk
theorem swap_light {x y : Oper} (hy6 : 6 ≤ (footG cx ops s y).kd) (hy8 : (footG cx ops s y).kd ≤ 8) (hx5 : (footG cx ops s1 x).kd = 5) (hm : meets (footG cx ops s1 x).wr (footG cx ops s y).rd = false) (hap : Oper.apart ops y x = true) (hy : evG cx ops s y some = some s1) (hx : evG cx ops s1 x some = some s2) :
    ∃ s1', evG cx ops s x some = some s1' ∧ footG cx ops s x = footG cx ops s1 x ∧ evG cx ops s1' y some = some s2 ∧ footG cx ops s1' y = footG cx ops s y := by
  obtain ⟨a1, a2, a3⟩ := Oper.apart_spec hap
  obtain ⟨fx, ox, kx⟩ := evG_kd (X := St) (by rw [hx5]; simp) hx
  obtain ⟨fy0, _, oy, _⟩ := evG_at (s' := s) (fun e => by rw [e] at hy6; exact absurd hy6 (by decide)) hy (fun _ _ _ _ _ _ h => h)
  rw [fx] at hx5 hm
  have hy6' := hy6
  have hy8' := hy8
  rw [fy0] at hy6' hy8' hm
  obtain ⟨z, rfl, kl⟩ := evOp_light hy6' hy8' oy
  obtain ⟨g, ns, zx, hg, hkp, rfl, ks⟩ := evOp_obj hx5 ox
  rw [put_nodes] at hkp
  have hax : Agree ops x s (s.put y.dst z) := Agree.put (s := s) y.dst z s.nodes a1
  have hs1 : evG cx ops s x some = some ((⟨s.tmps.map g, ns⟩ : St).put x.dst zx) := by
    rw [kx s some hax.symm]
    have := ks s.tmps some
    rw [put_nodes] at this
    exact this
  have hturn : ∀ t, t ∈ y.looksAt ops → nth ((⟨s.tmps.map g, ns⟩ : St).put x.dst zx).tmps t = g (nth s.tmps t) := fun t ht => by
    have hne : ∀ d, x.dst = some d → d ≠ t := fun d hd e => a3 d hd (e ▸ ht)
    have : nth ((⟨s.tmps.map g, ns⟩ : St).put x.dst zx).tmps t = nth (s.tmps.map g) t := by
      cases hd : x.dst with
      | none => rfl
      | some d =>
        show nth (setn _ d _) t = _
        rw [nth_setn, if_neg]
        rintro ⟨e, _⟩
        exact hne d hd e
    rw [this, nth_map g hg.un]
  obtain ⟨_, fy1, _, ky⟩ := evG_at (s' := (⟨s.tmps.map g, ns⟩ : St).put x.dst zx) (fun e => by rw [e] at hy6; exact absurd hy6 (by decide)) hy (fun j want t b hgd ht hb => by
    rw [hturn t (List.mem_append_right _ (by simp [hgd, ht])), hb]; exact hg.v _)
  obtain ⟨hz, hf, hev⟩ := kl _ g ((⟨s.tmps.map g, ns⟩ : St).put x.dst zx) hg (by rw [put_nodes]; exact hkp) (fun m hmm w hw => meets_false hm hw hmm) (fun t ht => hturn t (List.mem_append_left _ (List.mem_filterMap.2 ⟨.tmp t, by simpa using ht, rfl⟩)))
  refine ⟨_, hs1, (hax.foot (cx := cx)).symm, ?_, ?_⟩
  · rw [ky some, hev]
    have e1 : ((s.put y.dst z).tmps).map g = ((⟨s.tmps.map g, ns⟩ : St).put y.dst z).tmps := by
      cases y.dst with
      | none => rfl
      | some d =>
        show (setn s.tmps d z).map g = setn (s.tmps.map g) d z
        rw [setn_map, hz]
    have e2 : (⟨((s.put y.dst z).tmps).map g, ns⟩ : St) = (⟨s.tmps.map g, ns⟩ : St).put y.dst z := by
      rw [e1]; cases y.dst <;> rfl
    rw [e2, put_comm _ _ _ _ (fun t ht => a2 t ht)]
  · rw [fy1, fy0]; exact hf
theorem sameP_eq {a b : AVal} (h : sameP a b = true) (ha : (∃ nm sz i j, a = .ptr nm sz i j) ∨ a = .v .nilp) : b = a := by
  rcases ha with ⟨nm, sz, i, j, rfl⟩ | rfl
  · cases b with
    | ptr nm' sz' i' j' =>
      have h : (nmEq nm nm' && Nat.beq sz sz' && Nat.beq i i' && Nat.beq j j') = true := h
      simp only [Bool.and_eq_true] at h
      rw [nmEq_iff.1 h.1.1.1, Nat.eq_of_beq_eq_true h.1.1.2, Nat.eq_of_beq_eq_true h.1.2, Nat.eq_of_beq_eq_true h.2]
    | _ => cases h
  · cases b with
    | v c => cases c <;> first | rfl | cases h
    | _ => cases h
theorem keptC_get : ∀ {cs ds : List AVal} {j : Nat} {c : AVal}, keptC cs ds = true → cs[j]? = some c → ((∃ nm sz i j, c = .ptr nm sz i j) ∨ c = .v .nilp) → ds[j]? = some c
  | a :: l, b :: m, 0, c, h, hc, hp => by
    unfold keptC at h
    rw [Bool.and_eq_true] at h
    simp at hc
    subst hc
    rw [sameP_eq h.1 hp]; rfl
  | a :: l, b :: m, j + 1, c, h, hc, hp => by
    unfold keptC at h
    rw [Bool.and_eq_true] at h
    have := keptC_get h.2 (by simpa using hc) hp
    simpa using this
  | a :: l, [], _, _, h, _, _ => by cases h
  | [], _, _, _, _, hc, _ => by simp at hc
theorem keptN_obj {new : Nodes} : ∀ {old : Nodes} {m : Nm} {cs : List AVal}, keptN new old = true → find m old = some (.obj cs) → ∃ ds, find m new = some (.obj ds) ∧ keptC cs ds = true
  | [], m, cs, h, hf => by cases hf
  | (q, n) :: l, m, cs, h, hf => by
    unfold keptN at h
    rw [Bool.and_eq_true] at h
    unfold find at hf
    cases e : nmEq q m with
    | true =>
      rw [e] at hf
      cases hf
      have e' := nmEq_iff.1 e
      subst e'
      have h1 := h.1
      dsimp only at h1
      split at h1
      · next ds hd => exact ⟨ds, hd, h1⟩
      · cases h1
    | false => rw [e] at hf; exact keptN_obj h.2 hf
theorem keptN_row {new : Nodes} : ∀ {old : Nodes} {m : Nm} {fz : Bool} {xs : List CV}, keptN new old = true → find m old = some (.row fz (some 0) xs) → False
  | [], m, _, _, h, hf => by cases hf
  | (q, n) :: l, m, fz, xs, h, hf => by
    unfold keptN at h
    rw [Bool.and_eq_true] at h
    unfold find at hf
    cases e : nmEq q m with
    | true => rw [e] at hf; cases hf; cases h.1
    | false => rw [e] at hf; exact keptN_row h.2 hf
theorem ptrV_ptr {T : Tab} {t : Nat} {z : AVal} (ht : isPtrT T t = true) (h : ptrV T t z = true) : (∃ nm sz i j, z = .ptr nm sz i j) ∨ z = .v .nilp := by
  unfold ptrV at h
  cases z with
  | v c => rw [ht] at h; cases c <;> first | exact .inr rfl | cases h
  | ptr nm sz i j => exact .inl ⟨_, _, _, _, rfl⟩
  | _ => rw [ht] at h; cases h
theorem typed_ptr {T : Tab} {t : Nat} {c : AVal} {K : AVal → Option X} (h : typed T t c K = some out) : ∃ z, K z = some out ∧ (∀ K' : AVal → Option Y, typed T t c K' = K' z) ∧ (((∃ nm sz i j, z = .ptr nm sz i j) ∨ z = .v .nilp) → c = z) := by
  unfold typed at h ⊢
  split at h
  · next c0 =>
    unfold leafZ at h ⊢
    split at h
    · obtain ⟨h1, h⟩ := grd_some h
      exact ⟨_, h, fun K' => by simp only [h1, grd, cond_true], fun hp => by rcases hp with ⟨_, _, _, _, hp⟩ | hp <;> cases hp⟩
    · obtain ⟨h1, h⟩ := grd_some h
      exact ⟨_, h, fun K' => by simp only [h1, grd, cond_true], fun hp => by rcases hp with ⟨_, _, _, _, hp⟩ | hp <;> cases hp⟩
    · obtain ⟨h1, h⟩ := grd_some h
      exact ⟨_, h, fun K' => by simp only [h1, grd, cond_true], fun hp => by rcases hp with ⟨_, _, _, _, hp⟩ | hp <;> cases hp⟩
    · obtain ⟨h1, h⟩ := grd_some h
      exact ⟨_, h, fun K' => by simp only [h1, grd, cond_true], fun hp => by rcases hp with ⟨_, _, _, _, hp⟩ | hp <;> cases hp⟩
    · exact ⟨_, h, fun K' => rfl, fun _ => rfl⟩
  · cases e : isLeafT T t with
    | true => rw [e] at h; cases h
    | false => rw [e] at h; exact ⟨_, h, fun K' => rfl, fun _ => rfl⟩
/-- Of an operation that takes a pointer out of a cell. -/
theorem evOp_pload {ρ : Operand → AVal} {o : Oper} {s1 : St} (hk : (footR cx ρ o).kd = 9) (h : evOpR cx ρ s o some = some s1) :
    ∃ z, s1 = s.put o.dst z ∧ ∀ (s' : St), keptN s'.nodes s.nodes = true → evOpR cx ρ s' o some = some (s'.put o.dst z) := by
  obtain ⟨dst, op, ty, pos, aft, gd⟩ := o
  cases op with
  | load t x =>
    have hk' : ldK cx.T t (ρ x) = 9 := hk
    have h' : evLoad cx.T s.nodes t (ρ x) (fun v => grd (ptrV cx.T t v) (some (s.put dst v))) = some s1 := h
    unfold ldK at hk'
    cases e : (isLeafT cx.T t && !isAggT cx.T t) with
    | true => rw [e] at hk'; cases hk'
    | false =>
      rw [e] at hk'
      generalize he : ρ x = a at hk' h'
      cases a with
      | ptr nm sz i j =>
        cases sz with
        | succ sz => cases hk'
        | zero =>
        have hk1 : (bif isPtrT cx.T t && !isAggT cx.T t then 9 else 0) = 9 := hk'
        cases e2 : (isPtrT cx.T t && !isAggT cx.T t) with
        | false => rw [e2] at hk1; cases hk1
        | true =>
        rw [Bool.and_eq_true, Bool.not_eq_true'] at e2
        obtain ⟨z0, h0, _⟩ := evLoad_fr (Y := St) h'
        obtain ⟨_, h0⟩ := grd_some h0
        have h2 : evLoad0 cx.T s.nodes t (.ptr nm 0 i j) (fun v => typed cx.T t v fun v => grd (ptrV cx.T t v) (some (s.put dst v))) = some s1 := h'
        unfold evLoad0 at h2
        dsimp only at h2
        split at h2
        · next cs hf =>
          obtain ⟨g1, h2⟩ := grd_some h2
          rw [e2.2, cond_false] at h2
          obtain ⟨c, hc, h2⟩ := Option.bind_eq_some_iff.1 h2
          obtain ⟨z, h3, kt, hzc⟩ := typed_ptr (Y := St) h2
          obtain ⟨hp, h3⟩ := grd_some h3
          have hz := ptrV_ptr e2.1 hp
          have hzc := hzc hz
          subst hzc
          refine ⟨c, (Option.some.inj h3).symm, fun s' hkn => ?_⟩
          obtain ⟨ds, hd, hkc⟩ := keptN_obj hkn hf
          have hdz := keptC_get hkc hc hz
          show evLoad cx.T s'.nodes t (ρ x) (fun v => grd (ptrV cx.T t v) (some (s'.put dst v))) = _
          rw [he]
          unfold evLoad evLoad0
          dsimp only
          rw [hd]
          dsimp only
          rw [g1, e2.2]
          simp only [grd, cond_true, cond_false]
          rw [hdz]
          refine (kt _).trans ?_
          rw [hp]; rfl
        · next fz sh xs hf =>
          refine ⟨z0, (Option.some.inj h0).symm, fun s' hkn => ?_⟩
          obtain ⟨g1, _⟩ := grd_some h2
          rw [Bool.and_eq_true] at g1
          have hs := Nat.eq_of_beq_eq_true g1.1
          have : sh = some 0 := by
            cases sh with
            | none => cases hs
            | some n => exact congrArg some hs.symm
          subst this
          exact (keptN_row hkn hf).elim
        · cases h2
      | _ => cases hk'
  | call c =>
    obtain ⟨callee, args, atys⟩ := c
    cases callee with
    | value f =>
      have hk' : (match ρ f with
        | .fn g caps => (⟨(resA cx.T atys.toList (args.toList.map ρ) ++ caps).flatMap AVal.names, dstN dst ++ ftArgs (cx.md g) 0 (resA cx.T atys.toList (args.toList.map ρ) ++ caps), false, true, 2⟩ : Ft)
        | _ => ⟨[], [], true, true, 0⟩).kd = 9 := hk
      split at hk' <;> cases hk'
    | builtin b => cases b <;> cases hk
    | invoke r m => cases hk
  | store t x y =>
    have hk' : (match ρ x with
      | .ptr nm (_ + 1) _ _ => (⟨[], nm :: (ρ y).names, false, true, 3⟩ : Ft)
      | .ptr nm 0 _ _ => ⟨[], nm :: (ρ y).names, true, true, 5⟩
      | _ => ⟨[], [], true, true, 0⟩).kd = 9 := hk
    split at hk' <;> cases hk'
  | move x =>
    have hk' : (mvF (ρ x)).kd = 9 := hk
    rcases mvF_kd (ρ x) with e | e | e <;> rw [e] at hk' <;> cases hk'
  | nilCheck x =>
    have hk' : (mvF (ρ x)).kd = 9 := hk
    rcases mvF_kd (ρ x) with e | e | e <;> rw [e] at hk' <;> cases hk'
  | assign x =>
    have hk' : (asgF dst (ρ x)).kd = 9 := hk
    rcases asgF_kd dst (ρ x) with e | e <;> rw [e] at hk' <;> cases hk'
  | indexAddr t x i =>
    have hk' : ixK (ρ x) = 9 := hk
    rcases ixK_cases (ρ x) with e | e <;> rw [e] at hk' <;> cases hk'
  | extract x i =>
    have hk' : extK (ρ x) i = 9 := hk
    unfold extK at hk'
    split at hk'
    · split at hk' <;> cases hk'
    · cases hk'
  | makeSlice t l c => exact (bit1 (b := softP cx.T t []) hk (by decide) (by decide)).elim
  | buildSlice t n ps => exact (bitK (T := cx.T) (t := t) (xs := ps.toList.map fun p : Nat × Operand => ρ p.2) hk (by decide) (by decide) (by decide)).elim
  | convert q1 q2 x => exact absurd ((cvF_kd cx.T q1 q2 (ρ x)).symm.trans hk) (by decide)
  | _ => cases hk
theorem swap_ptr {x y : Oper} (hy9 : (footG cx ops s y).kd = 9) (hx2 : (footG cx ops s1 x).kd = 2) (hm : ([] : Nm) ∈ (footG cx ops s1 x).wr) (hm2 : ([] : Nm) ∉ (footG cx ops s1 x).rd) (hap : Oper.apart ops y x = true) (hy : evG cx ops s y some = some s1) (hx : evG cx ops s1 x some = some s2) :
    ∃ s1', evG cx ops s x some = some s1' ∧ footG cx ops s x = footG cx ops s1 x ∧ evG cx ops s1' y some = some s2 ∧ footG cx ops s1' y = footG cx ops s y := by
  obtain ⟨a1, a2, a3⟩ := Oper.apart_spec hap
  obtain ⟨fy, oy, ky⟩ := evG_kd (X := St) (by rw [hy9]; simp) hy
  obtain ⟨fx, ox, kx⟩ := evG_kd (X := St) (by rw [hx2]; simp) hx
  rw [fy] at hy9
  rw [fx] at hx2 hm hm2
  obtain ⟨z, rfl, kl⟩ := evOp_pload hy9 oy
  obtain ⟨g, args, wx, rx, hc⟩ := evOp_call (Y := St) hx2
  rw [hc] at ox
  have hq : thr (cx.md g) args = true := by
    have hm' : ([] : Nm) ∈ dstN x.dst ++ ftArgs (cx.md g) 0 args := by rw [← wx]; exact hm
    have hm3 : ([] : Nm) ∉ args.flatMap AVal.names := by rw [← rx]; exact hm2
    rcases List.mem_append.1 hm' with h | h
    · cases hd : x.dst with
      | none => rw [hd] at h; cases h
      | some d => rw [hd] at h; simp [dstN] at h
    · unfold thr
      rw [thr_yes args 0 h fun a ha hn => hm3 (List.mem_flatMap.2 ⟨a, ha, hn⟩)]
      rfl
  obtain ⟨rv, ns, h1, hkn, k⟩ := evCall_kept hq ox
  have hax : Agree ops x s (s.put y.dst z) := Agree.put (s := s) y.dst z s.nodes a1
  rw [put_nodes] at hkn k
  have hev : evG cx ops s x some = some ((⟨s.tmps, ns⟩ : St).put x.dst rv) := by
    rw [kx s some hax.symm, hc]
    exact k s.tmps some
  have hay : Agree ops y s ((⟨s.tmps, ns⟩ : St).put x.dst rv) := Agree.put (s := s) x.dst rv ns a3
  refine ⟨_, hev, (hax.foot (cx := cx)).symm, ?_, hay.foot⟩
  rw [ky _ some hay, kl _ (by rw [put_nodes]; exact hkn), ← h1]
  have e2 : (⟨(s.put y.dst z).tmps, ns⟩ : St) = (⟨s.tmps, ns⟩ : St).put y.dst z := (put_tmps ns y.dst z).symm
  rw [e2, put_comm _ _ _ _ (fun t ht => a2 t ht)]
theorem swap {x y : Oper} (hc : clash (footG cx ops s y) (footG cx ops s1 x) = false) (hap : Oper.apart ops y x = true) (hy : evG cx ops s y some = some s1) (hx : evG cx ops s1 x some = some s2) :
    ∃ s1', evG cx ops s x some = some s1' ∧ footG cx ops s x = footG cx ops s1 x ∧ evG cx ops s1' y some = some s2 ∧ footG cx ops s1' y = footG cx ops s y := by
  obtain ⟨a1, a2, a3⟩ := Oper.apart_spec hap
  unfold clash at hc
  cases hs3 : (soft3 (footG cx ops s y) (footG cx ops s1 x) || soft3 (footG cx ops s1 x) (footG cx ops s y)) with
  | true =>
    rw [Bool.or_eq_true] at hs3
    unfold soft3 at hs3
    rcases hs3 with hs3 | hs3 <;> rw [Bool.and_eq_true] at hs3
    · exact swap_store (Nat.eq_of_beq_eq_true hs3.1) (Nat.eq_of_beq_eq_true hs3.2) hap hy hx
    · exact swap_addr (Nat.eq_of_beq_eq_true hs3.2) (Nat.eq_of_beq_eq_true hs3.1) hap hy hx
  | false =>
  cases hs5 : soft5 (footG cx ops s y) (footG cx ops s1 x) with
  | true =>
    unfold soft5 at hs5
    rw [Bool.and_eq_true, Bool.and_eq_true, Bool.and_eq_true, Bool.not_eq_true'] at hs5
    exact swap_light (Nat.le_of_ble_eq_true hs5.1.1.1) (Nat.le_of_ble_eq_true hs5.1.1.2) (Nat.eq_of_beq_eq_true hs5.1.2) hs5.2 hap hy hx
  | false =>
  cases hs9 : soft9 (footG cx ops s y) (footG cx ops s1 x) with
  | true =>
    unfold soft9 at hs9
    rw [Bool.and_eq_true, Bool.and_eq_true, Bool.and_eq_true, List.any_eq_true, Bool.not_eq_true', List.any_eq_false] at hs9
    obtain ⟨m, hm, he⟩ := hs9.1.2
    rw [List.isEmpty_iff] at he
    subst he
    exact swap_ptr (Nat.eq_of_beq_eq_true hs9.1.1.1) (Nat.eq_of_beq_eq_true hs9.1.1.2) hm (fun h => hs9.2 [] h rfl) hap hy hx
  | false =>
  rw [hs3, hs5, hs9] at hc
  simp only [Bool.or_self, cond_false] at hc
  simp only [Bool.or_eq_false_iff] at hc
  obtain ⟨⟨⟨⟨g1, g2⟩, g3⟩, g4⟩, g5⟩ := hc
  cases hcm : comm (footG cx ops s y) (footG cx ops s1 x) with
  | true =>
    unfold comm at hcm
    simp only [Bool.and_eq_true, Bool.or_eq_true, Bool.not_eq_true'] at hcm
    obtain ⟨((hcm | hcm) | hcm) | hcm, hw⟩ := hcm
    · have hk2 := Nat.eq_of_beq_eq_true hcm.2
      exact swap_box (Nat.eq_of_beq_eq_true hcm.1) hk2 g1 hw (by unfold Ft.rdE at g4; rw [hk2] at g4; exact g4) hap hy hx
    · have hk2 := Nat.eq_of_beq_eq_true hcm.1
      exact swap_call hk2 (Nat.eq_of_beq_eq_true hcm.2) g2 hw (by unfold Ft.rdE at g5; rw [hk2] at g5; exact g5) hap hy hx
    · exact swap_new (Nat.eq_of_beq_eq_true hcm.1) (Nat.eq_of_beq_eq_true hcm.2) g1 g2 hw hap hy hx
    · have hk2 := Nat.eq_of_beq_eq_true hcm.1
      exact swap_hard hk2 (Nat.eq_of_beq_eq_true hcm.2) hw (by unfold Ft.rdE at g5; rw [hk2] at g5; exact g5) hap hy hx
  | false =>
  rw [hcm] at g3
  simp only [Bool.not_false, Bool.and_true] at g3
  rcases evG_fr g1 hy with ⟨c1, z, rfl, ky⟩ | ⟨c1, z, ns, rfl, ky, ky3⟩
  · have hax : Agree ops x s (s.put y.dst z) := Agree.put (s := s) y.dst z s.nodes a1
    have hfx := hax.foot (cx := cx)
    rcases evG_fr g2 hx with ⟨c2, u, rfl, kx⟩ | ⟨c2, u, ns, rfl, kx, kx3⟩
    · have hay : Agree ops y s (s.put x.dst u) := Agree.put (s := s) x.dst u s.nodes a3
      refine ⟨s.put x.dst u, ?_, hfx.symm, ?_, hay.foot⟩
      · exact kx s hax.symm (fun nm _ => by rw [put_nodes])
      · rw [ky _ hay (fun nm _ => by rw [put_nodes]), put_comm _ _ _ _ (fun t ht => a2 t ht)]
    · have hay : Agree ops y s ((⟨s.tmps, ns⟩ : St).put x.dst u) := Agree.put (s := s) x.dst u ns a3
      refine ⟨(⟨s.tmps, ns⟩ : St).put x.dst u, ?_, hfx.symm, ?_, hay.foot⟩
      · have := kx s.tmps (by rw [put_nodes]; exact hax.symm)
        rw [put_nodes] at this
        exact this
      · rw [ky _ hay (fun nm hnm => ?_)]
        · have e : (⟨(s.put y.dst z).tmps, ns⟩ : St) = (⟨s.tmps, ns⟩ : St).put y.dst z := (put_tmps ns y.dst z).symm
          rw [e, put_comm _ _ _ _ (fun t ht => a2 t ht)]
        · rw [put_nodes]
          rw [kx3 nm (fun m hm => meets_false g5 hm hnm), put_nodes]
  · have hax : Agree ops x s ((⟨s.tmps, ns⟩ : St).put y.dst z) := Agree.put (s := s) y.dst z ns a1
    have hfx := hax.foot (cx := cx)
    rw [c1] at g3
    simp only [Bool.true_and] at g3
    rcases evG_fr g2 hx with ⟨c2, u, rfl, kx⟩ | ⟨c2, _⟩
    · have hay : Agree ops y s (s.put x.dst u) := Agree.put (s := s) x.dst u s.nodes a3
      refine ⟨s.put x.dst u, ?_, hfx.symm, ?_, hay.foot⟩
      · refine kx s hax.symm (fun nm hnm => ?_)
        rw [put_nodes]
        exact (ky3 nm (fun m hm => meets_false g4 hm hnm)).symm
      · have e : s.put x.dst u = ⟨(s.put x.dst u).tmps, s.nodes⟩ := by
          have := put_tmps (s := s) s.nodes x.dst u
          exact this
        have := ky (s.put x.dst u).tmps (by rw [← e]; exact hay)
        rw [← e] at this
        rw [this]
        have e2 : (⟨(s.put x.dst u).tmps, ns⟩ : St) = (⟨s.tmps, ns⟩ : St).put x.dst u := (put_tmps ns x.dst u).symm
        rw [e2, put_comm _ _ _ _ (fun t ht => a2 t ht)]
    · rw [c2] at g3; cases g3
/-- A row of operations, from state to state. -/
def Run (cx : Cx) (ops : Array Oper) : St → List (Nat × Oper × Ft) → St → Prop
  | s, [], s' => s = s'
  | s, p :: l, s' => ops[p.1]? = some p.2.1 ∧ p.2.2 = footG cx ops s p.2.1 ∧ ∃ s1, evG cx ops s p.2.1 some = some s1 ∧ Run cx ops s1 l s'
theorem Run.front {x : Nat × Oper × Ft} {l2 : List (Nat × Oper × Ft)} : ∀ (l1 : List (Nat × Oper × Ft)) {s s' : St}, Run cx ops s (l1 ++ x :: l2) s' → (∀ y ∈ l1, clash y.2.2 x.2.2 = false ∧ Oper.apart ops y.2.1 x.2.1 = true) → Run cx ops s (x :: (l1 ++ l2)) s'
  | [], s, s', h, _ => h
  | y :: l1, s, s', h, hi => by
    obtain ⟨h1, h2, s1, h3, h4⟩ := h
    obtain ⟨k1, k2, s2, k3, k4⟩ := Run.front l1 h4 (fun y hy => hi y (List.mem_cons_of_mem _ hy))
    obtain ⟨c1, c2⟩ := hi y List.mem_cons_self
    rw [h2, k2] at c1
    obtain ⟨s1', g1, g2, g3, g4⟩ := swap c1 c2 h3 k3
    exact ⟨k1, k2.trans g2.symm, s1', g1, h1, h2.trans g4.symm, s2, g3, k4⟩
inductive Prec (ops : Array Oper) (j : Nat) : Nat → Prop
  | base {k : Nat} {o : Oper} {e : Edge} (ho : ops[k]? = some o) (he : e ∈ o.after) (hb : Region.binds .any e = true) (hj : e.on = j) : Prec ops j k
  | step {k : Nat} {o : Oper} {e : Edge} (ho : ops[k]? = some o) (he : e ∈ o.after) (hb : Region.binds .any e = true) (h : Prec ops j e.on) : Prec ops j k
theorem foldr_prec {acc : List Nat} {j : Nat} : ∀ (es : List Edge), Nat.testBit (es.foldr (fun e b => bif Region.binds .any e then (1 <<< e.on) ||| acc.getD e.on 0 ||| b else b) 0) j = true → ∃ e ∈ es, Region.binds .any e = true ∧ (e.on = j ∨ Nat.testBit (acc.getD e.on 0) j = true)
  | [], h => by simp at h
  | e :: es, h => by
    rw [List.foldr_cons] at h
    cases hb : Region.binds .any e with
    | false =>
      rw [hb] at h
      obtain ⟨e', h1, h2⟩ := foldr_prec es h
      exact ⟨e', List.mem_cons_of_mem _ h1, h2⟩
    | true =>
      rw [hb] at h
      simp only [cond_true, Nat.testBit_or, Bool.or_eq_true] at h
      rcases h with (h | h) | h
      · refine ⟨e, List.mem_cons_self, hb, .inl ?_⟩
        rw [Nat.one_shiftLeft, Nat.testBit_two_pow] at h
        simpa using h
      · exact ⟨e, List.mem_cons_self, hb, .inr h⟩
      · obtain ⟨e', h1, h2⟩ := foldr_prec es h
        exact ⟨e', List.mem_cons_of_mem _ h1, h2⟩
theorem precL_spec : ∀ (l pre : List Oper) (acc : List Nat), ops.toList = pre ++ l → acc.length = pre.length → (∀ k j, Nat.testBit (acc.getD k 0) j = true → Prec ops j k) → ∀ k j, Nat.testBit ((precL l acc).getD k 0) j = true → Prec ops j k
  | [], pre, acc, _, _, h => h
  | o :: l, pre, acc, hl, ha, h => by
    unfold precL
    refine precL_spec l (pre ++ [o]) _ (by simp [hl]) (by simp [ha]) (fun k j hj => ?_)
    rcases Nat.lt_trichotomy k acc.length with hk | hk | hk
    · rw [List.getD_eq_getElem?_getD, List.getElem?_append_left hk, ← List.getD_eq_getElem?_getD] at hj
      exact h k j hj
    · subst hk
      rw [List.getD_eq_getElem?_getD, List.getElem?_append_right (Nat.le_refl _)] at hj
      simp only [Nat.sub_self, List.getElem?_cons_zero, Option.getD_some] at hj
      obtain ⟨e, h1, h2, h3⟩ := foldr_prec _ hj
      have ho : ops[acc.length]? = some o := by
        rw [← Array.getElem?_toList, hl, ha]
        simp
      rcases h3 with h3 | h3
      · exact .base ho (Array.mem_toList_iff.1 h1) h2 h3
      · exact .step ho (Array.mem_toList_iff.1 h1) h2 (h _ _ h3)
    · rw [List.getD_eq_getElem?_getD, List.getElem?_eq_none (by simp; omega)] at hj
      simp at hj
theorem aftersOk_spec : ∀ (l : List Oper) (i : Nat), aftersOk i l = true → ∀ (k : Nat) o, l[k]? = some o → ∀ e ∈ o.after, Region.binds .any e = true → e.on < i + k
  | [], i, _, k, o, h => by simp at h
  | p :: l, i, h, k, o, ho => by
    have h' : ((p.after.toList.all fun e => !Region.binds .any e || Nat.blt e.on i) && aftersOk (i + 1) l) = true := h
    rw [Bool.and_eq_true, List.all_eq_true] at h'
    cases k with
    | zero =>
      simp at ho; subst ho
      intro e he hb
      have := h'.1 e (by simpa using he)
      rw [hb] at this
      simp only [Bool.not_true, Bool.false_or] at this
      exact Nat.le_of_ble_eq_true this
    | succ k =>
      intro e he hb
      have := aftersOk_spec l (i + 1) h'.2 k o (by simpa using ho) e he hb
      omega
theorem pairsOk_spec {bs : List Nat} : ∀ (l : List (Nat × Oper × Ft)), pairsOk ops bs l = true → l.Pairwise fun p q => Nat.testBit (bs.getD q.1 0) p.1 = true ∨ (clash p.2.2 q.2.2 = false ∧ Oper.apart ops p.2.1 q.2.1 = true)
  | [], _ => List.Pairwise.nil
  | p :: l, h => by
    have h' : ((l.all fun q => Nat.testBit (bs.getD q.1 0) p.1 || (!clash p.2.2 q.2.2 && Oper.apart ops p.2.1 q.2.1)) && pairsOk ops bs l) = true := h
    rw [Bool.and_eq_true, List.all_eq_true] at h'
    refine List.pairwise_cons.2 ⟨fun q hq => ?_, pairsOk_spec l h'.2⟩
    have := h'.1 q hq
    rw [Bool.or_eq_true, Bool.and_eq_true] at this
    rcases this with h | ⟨h1, h2⟩
    · exact .inl h
    · exact .inr ⟨by simpa using h1, h2⟩
/-- The given order, as a row. -/
theorem evOps_run {K : St → Option X} : ∀ (l : List Oper) (fs : List (Nat × Oper × Ft)) {s : St}, (∀ (k : Nat) o, l[k]? = some o → ops[fs.length + k]? = some o) → evOps cx ops true l fs s K = some out →
    ∃ l' s', Run cx ops s l' s' ∧ K s' = some out ∧ drawOk ops (fs.reverse ++ l') = true ∧ l'.map (·.1) = List.range' fs.length l.length
  | [], fs, s, _, h => by
    unfold evOps at h
    obtain ⟨h1, h⟩ := grd_some h
    exact ⟨[], s, rfl, h, by simpa using h1, rfl⟩
  | o :: l, fs, s, hl, h => by
    have h := evOps_cons h
    obtain ⟨s1, h, k⟩ := evG_dir (Y := St) h
    obtain ⟨l', s', h1, h2, h3, h4⟩ := evOps_run l _ (fun k o' ho => by
      have := hl (k + 1) o' (by simpa using ho)
      simpa [Nat.add_assoc, Nat.add_comm 1] using this) h
    refine ⟨(fs.length, o, footG cx ops s o) :: l', s', ⟨hl 0 o rfl, rfl, s1, k some, h1⟩, h2, by simpa using h3, ?_⟩
    rw [List.map_cons, h4, List.length_cons, List.length_cons, List.range'_succ]
end
section
variable {X : Type} {P : Program} {cx : Cx} {fr : Fr} {ops : Array Oper} {Q : Exit → Act → World → Prop}
theorem any_sound (hT : TabOk cx.T P) (hO : NoOther cx.T) (hC : FnsOk P cx) (hFr : FrOk fr) {bs : List Nat} (hbs : ∀ k j, Nat.testBit (bs.getD k 0) j = true → Prec ops j k) (haf : ∀ (k : Nat) o, ops[k]? = some o → ∀ e ∈ o.after, Region.binds .any e = true → e.on < k)
    {s' : St} (hk : ∀ φ' F' a' w', Inv fr φ' F' s' a' w' → Q .normal a' w') :
    ∀ (fuel : Nat) (l : List (Nat × Oper × Ft)) (listed : Array Bool) (φ : Nm → Loc) (F : Nat → Prop) (s : St) (a : Act) (w : World), l.length ≤ fuel → listed.size = ops.size → (l.map (·.1)).Pairwise (· < ·) →
      (∀ i, i < ops.size → (listed.getD i true = false ↔ i ∈ l.map (·.1))) → (∀ (k : Nat) o, ops[k]? = some o → listed.getD k false = true → ∀ e ∈ o.after, Region.binds .any e = true → listed.getD e.on false = true) →
      (l.Pairwise fun p q => Nat.testBit (bs.getD q.1 0) p.1 = true ∨ (clash p.2.2 q.2.2 = false ∧ Oper.apart ops p.2.1 q.2.1 = true)) → Run cx ops s l s' → Inv fr φ F s a w → wpAny P .any ops Q fuel listed a w := by
  intro fuel
  induction fuel with
  | zero =>
    intro l listed φ F s a w hl hsz _ hidx _ _ hr hI
    have : l = [] := List.eq_nil_of_length_eq_zero (Nat.le_zero.1 hl)
    subst this
    refine ⟨List.filter_eq_nil_iff.2 fun i hi => ?_, ?_⟩
    · rw [List.mem_range] at hi
      have h1 : listed.getD i true = true := by
        cases e : listed.getD i true with
        | true => rfl
        | false => have := (hidx i hi).1 e; simp at this
      simp [h1]
    · have : s = s' := hr
      subst this
      exact hk _ _ _ _ hI
  | succ fuel ih =>
    intro l listed φ F s a w hl hsz hso hidx hcl hpw hr hI
    have dn : ∀ i, i < ops.size → i ∉ l.map (·.1) → listed.getD i false = true := fun i hi hn => by
      have h1 : listed.getD i true = true := by
        cases e : listed.getD i true with
        | true => rfl
        | false => exact absurd ((hidx i hi).1 e) hn
      have hlt : i < listed.size := by rw [hsz]; exact hi
      rw [Array.getD_eq_getD_getElem?, Array.getElem?_eq_getElem hlt] at h1 ⊢
      exact h1
    refine ⟨fun hnil => ?_, fun i hi => ?_⟩
    · cases l with
      | nil =>
        have : s = s' := hr
        subst this
        exact hk _ _ _ _ hI
      | cons p l =>
        exfalso
        obtain ⟨h1, h2, s1, h3, h4⟩ := hr
        have hlt : p.1 < ops.size := (Array.getElem?_eq_some_iff.1 h1).1
        have hmem : p.1 ∈ Region.ready .any ops listed := mem_ready.2 ⟨(hidx p.1 hlt).2 List.mem_cons_self, p.2.1, h1, fun e he hb => by
          have hon := haf _ _ h1 e he hb
          refine dn e.on (by omega) (fun hm => ?_)
          rw [List.map_cons] at hm hso
          rcases List.mem_cons.1 hm with hm | hm
          · omega
          · have := (List.pairwise_cons.1 hso).1 _ hm; omega⟩
        rw [hnil] at hmem
        simp at hmem
    · obtain ⟨hun, o, ho, hall⟩ := mem_ready.1 hi
      have hlt : i < ops.size := (Array.getElem?_eq_some_iff.1 ho).1
      obtain ⟨x, hx, rfl⟩ := List.mem_map.1 ((hidx i hlt).1 hun)
      obtain ⟨l1, l2, rfl⟩ := List.append_of_mem hx
      have hpl : ∀ k, (∃ o, ops[k]? = some o ∧ ∀ e ∈ o.after, Region.binds .any e = true → listed.getD e.on false = true) → ∀ j, Prec ops j k → listed.getD j false = true := fun k hk j hp => by
        induction hp with
        | base ho' he hb hj =>
          obtain ⟨o2, h1, h2⟩ := hk
          rw [ho'] at h1; cases h1
          rw [← hj]; exact h2 _ he hb
        | @step k o3 e ho' he hb h ih =>
          obtain ⟨o2, h1, h2⟩ := hk
          rw [ho'] at h1; cases h1
          have hon := h2 _ he hb
          have hlt2 : e.on < ops.size := by
            rw [← hsz]
            rcases Nat.lt_or_ge e.on listed.size with h | h
            · exact h
            · rw [Array.getD_eq_getD_getElem?, Array.getElem?_eq_none h] at hon; cases hon
          have ho4 := Array.getElem?_eq_getElem hlt2
          exact ih ⟨_, ho4, fun e' he' hb' => hcl _ _ ho4 hon e' he' hb'⟩
      have hfl : ∀ y ∈ l1, clash y.2.2 x.2.2 = false ∧ Oper.apart ops y.2.1 x.2.1 = true := fun y hy => by
        have := (List.pairwise_append.1 hpw).2.2 y hy x List.mem_cons_self
        rcases this with h | h
        · exfalso
          have h1 := hpl x.1 ⟨o, ho, hall⟩ y.1 (hbs _ _ h)
          have hyl : y.1 < ops.size := by
            rw [← hsz]
            rcases Nat.lt_or_ge y.1 listed.size with h | h
            · exact h
            · rw [Array.getD_eq_getD_getElem?, Array.getElem?_eq_none h] at h1; cases h1
          have h2 := (hidx y.1 hyl).2 (List.mem_map.2 ⟨y, List.mem_append_left _ hy, rfl⟩)
          have hlt2 : y.1 < listed.size := by rw [hsz]; exact hyl
          rw [Array.getD_eq_getD_getElem?, Array.getElem?_eq_getElem hlt2] at h1 h2
          simp only [Option.getD_some] at h1 h2
          rw [h1] at h2; cases h2
        · exact h
      obtain ⟨k1, k2, s1, k3, k4⟩ := Run.front l1 hr hfl
      refine evG_sound (X := St) (K := some) (out := s1) hT hO hC hFr hI k1 k3 (fun φ' F' s'' a' w' he hI' => ?_)
      cases he
      have hsub : List.Sublist (l1 ++ l2) (l1 ++ x :: l2) := List.Sublist.append_left (List.sublist_cons_self x l2) l1
      refine ih (l1 ++ l2) _ φ' F' _ a' w' ?_ (by simp [hsz]) (hso.sublist (hsub.map _)) (fun j hj => ?_) (fun k o' ho' hk' e he hb => ?_) (hpw.sublist hsub) k4 hI'
      · simp at hl ⊢; omega
      · have hso' : (l1.map (·.1) ++ x.1 :: l2.map (·.1)).Pairwise (· < ·) := by simpa using hso
        obtain ⟨_, p2, p3⟩ := List.pairwise_append.1 hso'
        by_cases hji : x.1 = j
        · subst hji
          have hlt2 : x.1 < listed.size := by rw [hsz]; exact hj
          constructor
          · intro h; simp [hlt2] at h
          · intro h
            exfalso
            rw [List.map_append, List.mem_append] at h
            rcases h with h | h
            · have := p3 _ h x.1 List.mem_cons_self; omega
            · have := (List.pairwise_cons.1 p2).1 _ h; omega
        · rw [getD_set_ne true hji, hidx j hj]
          simp only [List.map_append, List.map_cons, List.mem_append, List.mem_cons]
          constructor
          · rintro (h | h | h)
            · exact .inl h
            · exact absurd h.symm hji
            · exact .inr h
          · rintro (h | h)
            · exact .inl h
            · exact .inr (.inr h)
      · by_cases hki : x.1 = k
        · subst hki
          rw [ho] at ho'; cases ho'
          exact getD_set_true (hall e he hb)
        · rw [getD_set_ne false hki] at hk'
          exact getD_set_true (hcl k o' ho' hk' e he hb)
theorem drawsOk (hT : TabOk cx.T P) (hO : NoOther cx.T) (hC : FnsOk P cx) : DrawsOk P cx := by
  intro X out ops s K Q fr φ F a w hFr h hI hk
  obtain ⟨l', s', h1, h2, h3, h4⟩ := evOps_run ops.toList [] (fun k o ho => by simpa using ho) h
  simp only [List.reverse_nil, List.nil_append] at h3
  unfold drawOk at h3
  rw [Bool.and_eq_true] at h3
  simp only [List.length_nil, Array.length_toList] at h4
  refine any_sound hT hO hC hFr (bs := precL ops.toList []) (precL_spec (ops := ops) ops.toList [] [] rfl rfl (fun k j h => by simp at h)) (fun k o ho e he hb => ?_) (fun φ' F' a' w' hI' => hk φ' F' s' a' w' h2 hI') ops.size l' _ φ F s a w ?_ (by simp) ?_ (fun i hi => ?_) (fun k o ho hk' => ?_) (pairsOk_spec l' h3.2) h1 hI
  · have := aftersOk_spec ops.toList 0 h3.1 k o (by simpa using ho) e he hb
    omega
  · have := congrArg List.length h4
    simp at this; omega
  · rw [h4]; exact List.pairwise_lt_range'
  · rw [h4]
    have hi : i < ops.size := hi
    simp [hi, List.mem_range']
  · exfalso
    have hlt : k < ops.size := (Array.getElem?_eq_some_iff.1 ho).1
    simp [hlt] at hk'
end
end Go.Proofs.YtlaojkheenobaaaDoorS
