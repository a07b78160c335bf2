/- A function whose first question is whether a slice is nil. -/
import Derived.Test.YtlaojkheenobaaaDoorTM
namespace Go.Proofs.YtlaojkheenobaaaDoorS
open Go Go.RowKit
set_option linter.unusedVariables false
set_option linter.unusedSimpArgs false
section
variable {X : Type} {P : Program} {cx : Cx} {fr : Fr} {φ φ' : Nm → Loc} {F F' B : Nat → Prop} {s : St} {a : Act} {w w' : World}
theorem equal_slice_nil {t e : TypeId} (hu : P.underlying t = some (.slice e)) (A : Option Addr) (n c : Nat) (w : World) : (Op.equal t (.slice A n c) (.slice none 0 0)).run P w = .ok A.isNone w := by
  unfold Op.equal
  generalize hd : Op.maxDepth = d
  cases d with
  | zero => cases hd
  | succ d =>
    rw [Op.equalIn]
    simp only [Sem.run_bind, run_underlying hu, Result.andThen_ok, Sem.run_pure]
    cases A <;> rfl
theorem eqGuard_slice (op : BinOp) (t : TypeId) (x y : Operand) (A B : Option Addr) (n m c d : Nat) : (eqGuard op t x y (.slice A n c) (.slice B m d)).run P w = .ok () w := by
  unfold eqGuard
  split <;> simp
theorem CsOk.fns {cx : Cx} (h : CsOk P cx.C) (hc : ∀ t, cx.cmp t = true → CmpOk P t) : FnsOk P cx := ⟨fun X g xs ns K x hx => let ⟨_, o, h2, h3, _⟩ := h g X xs ns K x hx; ⟨o, h2, h3⟩, hc⟩
theorem nilsplit (hT : TabOk cx.T P) (hO : NoOther cx.T) (hC : FnsOk P cx) (hm : P.follows .mixedOrders = true) {g : FuncId} {fn : Func} {R C D : Code} {id : Nat} {o1 o2 : Oper} (hf : P.funcs[g]? = some fn) (hb : fn.body = some (.seq R (.seq (.seq (.region id #[o1, o2] false) C) D)))
    {t t' bt d u e : Nat} {pos : String} {aft : Array Edge} (ho2 : o2 = ⟨some d, .binOp .eql t (.tmp u) (.const (.slice none 0 0)) t', bt, pos, aft, none⟩) (ht : P.underlying t = some (.slice e))
    {ws : List Wk} {fuel : Nat} {args : List AVal} {ns : Nodes} {o : Out} {p : Bool} {sh : Option Nat} {xs : List CV} {s1 s2 s3 : St}
    (h0 : evCode cx fuel R ⟨padT fn.ntmps args, ns⟩ some (fun _ _ => none) (fun _ => none) = some s1)
    (h1 : s1.enter cx id [o1, o2] some = some s2) (h2 : evG cx #[o1, o2] s2 o1 some = some s3) (hu : nth s3.tmps u = .sl p sh xs)
    (hF : evCode cx fuel (.seq C D) (s3.put (some d) (.v (.bool false))) (evRet cx.T ws fn.results.toList) (fun _ _ => none) (evRet cx.T ws fn.results.toList) = some o)
    (hN : xs = [] → evCode cx fuel (.seq C D) (s3.put (some d) (.v (.bool true))) (evRet cx.T ws fn.results.toList) (fun _ _ => none) (evRet cx.T ws fn.results.toList) = some o) (hB : noB o.rv = true ∧ noBN o.nodes = true) : FnOk P g args ns o := by
  refine ⟨hB.1, hB.2, fun fr φ F w vs hw hFr hI => ?_⟩
  refine calls_of_wp hf hb ?_
  have hl : args.length = vs.length := by simpa using hI.len
  have hI' : Inv fr φ F ⟨padT fn.ntmps args, ns⟩ ⟨vs.toArray ++ Array.replicate (fn.ntmps - vs.toArray.size) undef, []⟩ w := by
    have : vs.toArray ++ Array.replicate (fn.ntmps - vs.toArray.size) undef = (vs ++ List.replicate (fn.ntmps - vs.length) undef).toArray := by simp
    rw [this, padT_eq]
    refine hI.tmps (VRelL.append ⟨hl, fun j c v hc hv => ?_⟩ ⟨by simp [hl], fun j c v hc hv => ?_⟩)
    · have := hI.tm j
      rw [Array.getD_eq_getD_getElem?] at this
      simp only [List.getElem?_toArray, hv, Option.getD_some] at this
      have hj := (List.getElem?_eq_some_iff.1 hc).1
      have e := nth_get hj
      rw [hc] at e
      cases e
      exact this
    · simp only [List.getElem?_replicate] at hc hv
      split at hc
      · cases hc
        split at hv
        · cases hv
          exact .tup rfl (fun j c v hc => by simp at hc)
        · cases hv
      · cases hc
  have hD := drawsOk hT hO hC
  have fin : ∀ φ' F' s' a' w', evRet cx.T ws fn.results.toList s' = some o → Inv fr φ' F' s' a' w' → bodyPost P fn (fun e w' => ∃ v, e = .returned v ∧ ∃ φ' F', Inv fr φ' F' ⟨[o.rv], o.nodes⟩ ⟨#[v], []⟩ w') .ret a' w' := fun φ' F' s' a' w' h' hI' => by
    obtain ⟨_, _, v, g1, φ2, F2, g2⟩ := evRet_sound hT hO hFr hI' h'
    exact ⟨hI'.defers, v, g1, v, rfl, φ2, F2, g2⟩
  refine wp_seq (evCode_sound hT hO hC hFr hD hm fuel R _ _ _ _ _ φ F _ w h0 hI' (fun φ' F' s' a' w' h' hI1 => ?_) (fun _ _ _ _ _ _ h' => by cases h') (fun _ _ _ _ _ h' => by cases h'))
  cases h'
  obtain ⟨φ2, F2, s2', h1', hI2⟩ := enter_sound hI1 h1
  cases h1'
  refine wp_seq (wp_seq (wp_region ?_))
  show wpOps P #[o1, o2] _ [0, 1] a' w'
  rw [wpOps_cons]
  refine evG_sound hT hO hC hFr hI2 rfl h2 (fun φ3 F3 s3' a3 w3 h3 hI3 => ?_)
  cases h3
  rw [wpOps_cons]
  have hx := hI3.tm u
  rw [hu] at hx
  obtain ⟨A, c, hA, hc, hr⟩ : ∃ A c, a3.tmps.getD u undef = .slice A xs.length c ∧ xs.length ≤ c ∧ (A = none → xs = []) := by
    generalize a3.tmps.getD u undef = vv at hx
    cases hx with
    | sl h =>
      obtain ⟨A, c, e, hc, h⟩ := h
      refine ⟨A, c, e, hc, fun hA => ?_⟩
      rcases Nat.eq_zero_or_pos xs.length with hz | hz
      · exact List.eq_nil_of_length_eq_zero hz
      · obtain ⟨b, o, e2, _⟩ := h hz
        rw [hA] at e2; cases e2
  have hrun : (execOp a3.eval o2).run P w3 = .ok (.value (.bool A.isNone)) w3 := by
    rw [ho2]
    have h1 : a3.eval (.tmp u) = .slice A xs.length c := by
      rw [← hA]; simp [Act.eval, undef]
    simp only [execOp, Act.eval, hA, Sem.run_bind, eqGuard_slice, Result.andThen_ok, binOp, equal_slice_nil ht, Sem.run_pure]
  have hrest : ∀ (bb : Bool), evCode cx fuel (.seq C D) (s3.put (some d) (.v (.bool bb))) (evRet cx.T ws fn.results.toList) (fun _ _ => none) (evRet cx.T ws fn.results.toList) = some o →
      C.wp P (Exit.then (fun a w => D.wp P (bodyPost P fn (fun e w' => ∃ v, e = .returned v ∧ ∃ φ' F', Inv fr φ' F' ⟨[o.rv], o.nodes⟩ ⟨#[v], []⟩ w')) a w) (bodyPost P fn (fun e w' => ∃ v, e = .returned v ∧ ∃ φ' F', Inv fr φ' F' ⟨[o.rv], o.nodes⟩ ⟨#[v], []⟩ w'))) (a3.put (some d) (.bool bb)) w3 := fun bb hev => by
    have hI4 : Inv fr φ3 F3 (s3.put (some d) (.v (.bool bb))) (a3.put (some d) (.bool bb)) w3 := hI3.put (.v (.bool bb)) (some d)
    refine evCode_sound hT hO hC hFr hD hm fuel C _ _ _ _ _ φ3 F3 _ w3 hev hI4 (fun φ' F' s' a' w' h' hI' => ?_) (fun id φ' F' s' a' w' h' hI' => by cases h') (fun φ' F' s' a' w' h' hI' => fin _ _ _ _ _ h' hI')
    exact evCode_sound hT hO hC hFr hD hm fuel D _ _ _ _ _ φ' F' _ w' h' hI' (fun φ' F' s' a' w' h' hI' => fin _ _ _ _ _ h' hI') (fun id φ' F' s' a' w' h' hI' => by cases h') (fun φ' F' s' a' w' h' hI' => fin _ _ _ _ _ h' hI')
  have hop : o2.dst = some d := by rw [ho2]
  have hgd : o2.guard = none := by rw [ho2]
  unfold wpOp
  show (if Region.wanted o2 _ then _ else _)
  rw [if_pos (by simp only [Region.wanted, hgd])]
  refine .inl (wp_value hrun ?_)
  have hp : (#[o1, o2] : Array Oper)[1].dst = some d := hop
  rw [hp]
  show Exit.then _ _ .normal (a3.put (some d) (.bool A.isNone)) w3
  cases A with
  | none => exact hrest true (hN (hr rfl))
  | some A => exact hrest false hF
end
end Go.Proofs.YtlaojkheenobaaaDoorS
