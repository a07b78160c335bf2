/- Answers of functions, gathered; loops over what varies. -/
import Derived.Test.YtlaojkheenobaaaDoorTL
import Derived.Shelf.Abstract
namespace Go.Proofs.YtlaojkheenobaaaDoorS
open Go Go.RowKit
set_option linter.unusedVariables false
set_option linter.unusedSimpArgs false
/-- What a function answers. -/
abbrev FnC := (X : Type) → List AVal → Nodes → (Out → Option X) → Option X
def Ent (P : Program) (g : FuncId) : Prop := ∀ args w, (callFunc g args).run P w = .ok (.enter g args) w
def AnsOk (P : Program) (g : FuncId) (f : FnC) : Prop := ∀ (X : Type) xs ns (K : Out → Option X) x, f X xs ns K = some x → True ∧ ∃ o, FnOkX P g xs ns o ∧ K o = some x ∧ ∀ (Y : Type) (K' : Out → Option Y), f Y xs ns K' = K' o
def CsOk (P : Program) (C : Fns) : Prop := ∀ g, AnsOk P g fun X xs ns K => C X g xs ns K
def noC : Fns := fun _ _ _ _ _ => none
/-- One function's answers, and others'. -/
def orC (g : FuncId) (f : FnC) (C : Fns) : Fns := fun X h xs ns K => bif Nat.beq g h then f X xs ns K else C X h xs ns K
/-- Two families of a function's answers. -/
def orF (f f' : FnC) (t : List AVal → Nodes → Bool) : FnC := fun X xs ns K => bif t xs ns then f X xs ns K else f' X xs ns K
section
variable {P : Program}
theorem noC_ok : CsOk P noC := fun g X xs ns K x h => by cases h
theorem orC_ok {g : FuncId} {f : FnC} {C : Fns} (h : AnsOk P g f) (hC : CsOk P C) : CsOk P (orC g f C) := fun g' X xs ns K x hx => by
  cases e : Nat.beq g g' with
  | true =>
    have e' := Nat.eq_of_beq_eq_true e
    subst e'
    have hk : ∀ (Y : Type) (K' : Out → Option Y), orC g f C Y g xs ns K' = f Y xs ns K' := fun Y K' => by unfold orC; rw [e]; rfl
    obtain ⟨h1, o, h2, h3, h4⟩ := h X xs ns K x ((hk X K).symm.trans hx)
    exact ⟨h1, o, h2, h3, fun Y K' => (hk Y K').trans (h4 Y K')⟩
  | false =>
    have hk : ∀ (Y : Type) (K' : Out → Option Y), orC g f C Y g' xs ns K' = C Y g' xs ns K' := fun Y K' => by unfold orC; rw [e]; rfl
    obtain ⟨h1, o, h2, h3, h4⟩ := hC g' X xs ns K x ((hk X K).symm.trans hx)
    exact ⟨h1, o, h2, h3, fun Y K' => (hk Y K').trans (h4 Y K')⟩
theorem orF_ok {g : FuncId} {f f' : FnC} {t : List AVal → Nodes → Bool} (h : AnsOk P g f) (h' : AnsOk P g f') : AnsOk P g (orF f f' t) := fun X xs ns K x hx => by
  cases e : t xs ns with
  | true =>
    have hk : ∀ (Y : Type) (K' : Out → Option Y), orF f f' t Y xs ns K' = f Y xs ns K' := fun Y K' => by unfold orF; rw [e]; rfl
    obtain ⟨h1, o, h2, h3, h4⟩ := h X xs ns K x ((hk X K).symm.trans hx)
    exact ⟨h1, o, h2, h3, fun Y K' => (hk Y K').trans (h4 Y K')⟩
  | false =>
    have hk : ∀ (Y : Type) (K' : Out → Option Y), orF f f' t Y xs ns K' = f' Y xs ns K' := fun Y K' => by unfold orF; rw [e]; rfl
    obtain ⟨h1, o, h2, h3, h4⟩ := h' X xs ns K x ((hk X K).symm.trans hx)
    exact ⟨h1, o, h2, h3, fun Y K' => (hk Y K').trans (h4 Y K')⟩
def cmpsAre (P : Program) : List Nat → Bool
  | [] => true
  | t :: l => cmpIs P t && cmpsAre P l
def cmpIn : List Nat → Nat → Bool
  | [], _ => false
  | t :: l, u => bif Nat.beq t u then true else cmpIn l u
theorem cmpsAre_ok {P : Program} : ∀ {l : List Nat}, cmpsAre P l = true → ∀ t, cmpIn l t = true → CmpOk P t
  | [], _, t, h => by cases h
  | u :: l, hl, t, h => by
    have hl' : (cmpIs P u && cmpsAre P l) = true := hl
    rw [Bool.and_eq_true] at hl'
    unfold cmpIn at h
    cases e : Nat.beq u t with
    | true =>
      have := Nat.eq_of_beq_eq_true e
      subst this
      exact cmpIs_ok hl'.1
    | false => rw [e] at h; exact cmpsAre_ok hl'.2 t h
/-- The table of a seat, and that mixed orders are followed. -/
structure Seat (P : Program) where
  rows : List (Nat × TI)
  hr : rowsAre P rows = true
  hm : P.follows .mixedOrders = true
  cmps : List Nat
  hc : cmpsAre P cmps = true
def mkCx (T : Tab) (C : Fns) (md : FuncId → Nat → Nat) (cmp : Nat → Bool) (plan : Nat → Option (List Nat × List Wk)) (h : CsOk P C) : Cx :=
  ⟨T, C, md, cmp, plan, fun X g xs ns K x hx => let ⟨_, o, _, h3, h4⟩ := h g X xs ns K x hx; ⟨o, h3, h4⟩⟩
theorem ans_main (S : Seat P) {C : Fns} (hC : CsOk P C) {md : FuncId → Nat → Nat} {plan : Nat → Option (List Nat × List Wk)} {g : FuncId} {fn : Func} {c : Code} (hf : P.funcs[g]? = some fn) (hent : Ent P g) (hb : fn.body = some c)
    {ws : List Wk} {fuel : Nat} {args : List AVal} {ns : Nodes} {f : (X : Type) → (Out → Option X) → Option X} (hev : ∀ (X : Type) (K : Out → Option X), evFnK (mkCx (tabOf S.rows) C md (cmpIn S.cmps) plan hC) ws fuel fn.ntmps fn.results.toList c args ns K = f X K)
    {X : Type} {K : Out → Option X} {x : X} (h : f X K = some x) : True ∧ ∃ o, FnOkX P g args ns o ∧ K o = some x ∧ ∀ (Y : Type) (K' : Out → Option Y), f Y K' = K' o := by
  obtain ⟨o, h1, h2, h3⟩ := evFn_ok (cx := mkCx (tabOf S.rows) C md (cmpIn S.cmps) plan hC) (tabOf_tabOk S.hr) (tabOf_noOther S.hr) ⟨fun X g xs ns K x hx => let ⟨_, o, h2, h3, _⟩ := hC g X xs ns K x hx; ⟨o, h2, h3⟩, cmpsAre_ok S.hc⟩ S.hm hf hb (evFnK_eq.symm.trans ((hev X K).trans h))
  exact ⟨trivial, o, h1.toX hent, h2, fun Y K' => (hev Y K').symm.trans (evFnK_eq.trans (h3 Y K'))⟩
theorem ent_of {g : FuncId} {fn : Func} {c : Code} (hf : P.funcs[g]? = some fn) (hname : (fn.name == "runtime.NumGoroutine") = false) (hb : fn.body = some c) : Ent P g := fun args w => enters_of hf hname hb args w
end
/-- A way to a part of a code. -/
inductive Dn where
  | l | r | t | e | b | o
/-- What is done at a part of a code, and behind it; `rs`: what is done where the loops around it begin once more. -/
def walk {X : Type} (cx : Cx) (fuel : Nat) : List Dn → Code → (St → Option X) → (Nat → St → Option X) → (St → Option X) → List (St → Option X) → Option (Code × (St → Option X) × (Nat → St → Option X) × (St → Option X))
  | [], c, kn, kx, kr, _ => some (c, kn, kx, kr)
  | .l :: p, .seq a b, kn, kx, kr, rs => walk cx fuel p a (fun s => evCode cx fuel b s kn kx kr) kx kr rs
  | .r :: p, .seq a b, kn, kx, kr, rs => walk cx fuel p b kn kx kr rs
  | .t :: p, .cond c a b, kn, kx, kr, rs => walk cx fuel p a kn kx kr rs
  | .e :: p, .cond c a b, kn, kx, kr, rs => walk cx fuel p b kn kx kr rs
  | .b :: p, .block id a, kn, kx, kr, rs => walk cx fuel p a kn (fun i s => bif Nat.beq i id then kn s else kx i s) kr rs
  | .o :: p, .loop a, kn, kx, kr, r :: rs => walk cx fuel p a (fun s => s.enterL cx a r) kx kr rs
  | _, _, _, _, _, _ => none
/-- A round of the loop there. -/
def loopB {X : Type} (cx : Cx) (fuel : Nat) (p : List Dn) (c : Code) (kr : St → Option X) (rs : List (St → Option X)) : (St → Option X) → St → Option X :=
  match walk cx fuel p c kr (fun _ _ => none) kr rs with
  | some (.loop a, _, kx, kr) => fun rec s => evCode cx fuel a s (fun s => s.enterL cx a rec) kx kr
  | _ => fun _ _ => none
def iterV {V X : Type} (T : (V → Option X) → V → Option X) : Nat → V → Option X
  | 0, _ => none
  | n + 1, v => T (iterV T n) v
theorem iter_map {V X : Type} {B : (St → Option X) → St → Option X} {S : V → St} {T : (V → Option X) → V → Option X} (h : ∀ rec v, B rec (S v) = T (fun v => rec (S v)) v) : ∀ n, (fun v => iter B n (S v)) = iterV T n
  | 0 => rfl
  | n + 1 => funext fun v => by
    show B (iter B n) (S v) = T (iterV T n) v
    rw [h, iter_map h n]
def retK {X : Type} (cx : Cx) (ws : List Wk) (rs : List ResultVar) (K : Out → Option X) : St → Option X := fun s => evRetK cx.T ws rs s K
end Go.Proofs.YtlaojkheenobaaaDoorS
