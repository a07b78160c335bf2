/- The operations that only compute. -/
import Derived.Test.YtlaojkheenobaaaDoorSK
import Derived.Laws.Sem
import Derived.Laws.Entries
import Derived.Laws.Cells
import Derived.Laws.IdiomCopy
import Derived.ChangeKeysEq
namespace Go.Proofs.YtlaojkheenobaaaDoorS
open Go Go.RowKit
set_option linter.unusedVariables false
set_option linter.unusedSimpArgs false
/-- A type's entry is the program's. -/
def TDOk (td : TD) (u : Option TypeDesc) : Prop := match td with
  | .int k => u = some (.int k)
  | .bool => u = some .bool
  | .str => u = some .string
  | .ptr e => u = some (.pointer e)
  | .slice e => u = some (.slice e)
  | .arr n e => u = some (.array n e)
  | .struct fs => ∃ fields : Array Field, u = some (.struct fields) ∧ fs.length = fields.size ∧ ∀ (f : Nat) p, fs[f]? = some p → ∃ fd, fields[f]? = some fd ∧ fd.offset = p.1 ∧ fd.type = p.2
  | .func => ∃ p r v, u = some (.func p r v)
  | .other => True
structure TabOk (T : Tab) (P : Program) : Prop where
  places : ∀ t fs sz by_ z, T t = some ⟨.struct fs, sz, by_, z⟩ → ∃ (fields : Array Field) (places : List (Nat × Nat)), P.underlying t = some (.struct fields) ∧ fields.toList.mapM (fun f => (P.info? f.type).map fun i => (f.offset, i.size)) = some places
  td : ∀ t i, T t = some i → TDOk i.td (P.underlying t)
  info : ∀ t i, T t = some i → ∃ inf z, P.info? t = some inf ∧ inf.size = i.size ∧ inf.bytes = i.bytes ∧ inf.zero = some z ∧ (∀ w φ F B, VRel w φ F B i.zero z) ∧ z.cells.size = i.size ∧ i.zero.lv1 = []
section
variable {X : Type} {P : Program} {T : Tab} {fr : Fr} {φ φ' : Nm → Loc} {F F' B : Nat → Prop} {s : St} {a : Act} {w w' : World} {out : X}
theorem grd_some {b : Bool} {k : Option X} (h : grd b k = some out) : b = true ∧ k = some out := by
  cases b with
  | true => exact ⟨rfl, h⟩
  | false => cases h
theorem VRel.absV (v : Value) : VRel w φ F B (absV v) v := by
  cases v with
  | int k n => exact .v (.int k n)
  | bool b => exact .v (.bool b)
  | string s => exact .v (.str s)
  | pointer p => cases p with
    | none => exact .v .nilp
    | some p => exact .undef _
  | slice A n c =>
    cases A with
    | some A => exact .undef _
    | none => cases n with
      | succ n => exact .undef _
      | zero => cases c with
        | zero => exact .nil0 none
        | succ c => exact .undef _
  | _ => exact .undef _
/-- The package's tables, at any time in a call. -/
theorem Inv.glob (h : Inv fr φ F s a w) (hF : FrOk fr) {g n : Nat} {cs : List CV} (e : globs g = some (n, cs)) : (F g ∨ fr.B g) ∧ ElAt w (fun _ => False) (some n) (.agg cs) g 0 := by
  obtain ⟨h1, h2, h3, h4⟩ := hF.gl g n cs e
  have hb := h.step.block g h3 h2
  exact ⟨h1.elim .inr (fun h' => .inl (h.f0 g h')), h4.mono (fun _ hk => hk.elim) (fun _ hk => hk.elim) hb⟩
theorem Inv.eval (h : Inv fr φ F s a w) (hF : FrOk fr) (x : Operand) : VRel w φ F fr.B (s.eval x) (a.eval x) := by
  cases x with
  | tmp t => exact h.tm t
  | const v => exact .absV v
  | global g =>
    show VRel w φ F fr.B (match globs g with | some (n, cs) => .bptr (some n) (.agg cs) 0 | none => .undef) (.pointer (some ⟨g, 0, none⟩))
    cases e : globs g with
    | none => exact .undef _
    | some p =>
      obtain ⟨n, cs⟩ := p
      obtain ⟨h1, h2⟩ := h.glob hF e
      exact .bptr (o := 0) h1 (h2.mono (fun _ hk => hk.elim) (fun _ hk => hk.elim) rfl)
  | func f => exact .fn (vs := []) rfl (fun j c v hc => by simp at hc)
theorem VRel.resize {x : AVal} {v : Value} (h : VRel w φ F B x v) (t : Nat) : VRel w φ F B (resize T t x) v := by
  cases h with
  | nil0 A =>
    unfold Go.Proofs.YtlaojkheenobaaaDoorS.resize
    simp only
    split
    · exact .nil0 A
    · exact .nil0 A
  | v h => exact .v h
  | sl h => exact .sl h
  | oslD h A n c => exact .oslD h A n c
  | osl h h' => exact .osl h h'
  | ptrD h A => exact .ptrD h A
  | ptr h => exact .ptr h
  | bptr hb h => exact .bptr hb h
  | agg hl ho h => exact .agg hl ho h
  | tup hl h => exact .tup hl h
  | fn hl h => exact .fn hl h
  | undef v => exact .undef v
theorem VRel.int {k n} {v : Value} (h : VRel w φ F B (.v (.int k n)) v) : v = .int k n := by
  cases h with | v h => cases h; rfl
theorem VRel.bool {b} {v : Value} (h : VRel w φ F B (.v (.bool b)) v) : v = .bool b := by
  cases h with | v h => cases h; rfl
theorem VRel.str {b} {v : Value} (h : VRel w φ F B (.v (.str b)) v) : v = .string b := by
  cases h with | v h => cases h; rfl
theorem VRel.nilp {v : Value} (h : VRel w φ F B (.v .nilp) v) : v = .pointer none := by
  cases h with | v h => cases h; rfl
theorem asI_some {x : AVal} {v : Value} {K : Int → Option X} (h : asI x K = some out) (hx : VRel w φ F B x v) : ∃ k n, v = .int k n ∧ K n = some out := by
  unfold asI at h
  split at h
  · next k n => exact ⟨k, n, hx.int, h⟩
  · cases h
theorem asB_some {x : AVal} {v : Value} {K : Bool → Option X} (h : asB x K = some out) (hx : VRel w φ F B x v) : ∃ b, v = .bool b ∧ K b = some out := by
  unfold asB at h
  split at h
  · next b => exact ⟨b, hx.bool, h⟩
  · cases h
theorem isAggT_spec (hT : TabOk T P) {t : Nat} (h : isAggT T t = true) : ∀ w, (isAgg t).run P w = .ok true w := by
  intro w
  unfold isAggT at h
  split at h
  · next e =>
    obtain ⟨fields, hu, _⟩ := hT.td t _ e
    simp [isAgg, run_underlying hu]
  · next e =>
    have hu := hT.td t _ e
    simp [isAgg, run_underlying hu]
  · cases h
theorem tab_of_size {t : Nat} (h : sizeT T t ≠ 0) : ∃ i, T t = some i := by
  unfold sizeT at h
  split at h
  · next i e => exact ⟨i, e⟩
  · exact absurd rfl h
theorem run_size (hT : TabOk T P) {t : Nat} {i : TI} (h : T t = some i) (w : World) : (sizeOf t).run P w = .ok (sizeT T t) w := by
  obtain ⟨inf, z, h1, h2, _⟩ := hT.info t i h
  rw [run_sizeOf w h1]
  simp [Program.cellsOf, h1, h2, sizeT, h]
theorem isAggT_false (hT : TabOk T P) {t : Nat} {i : TI} (h : T t = some i) (ho : i.td ≠ .other) (hf : isAggT T t = false) : ∀ w, (isAgg t).run P w = .ok false w := by
  intro w
  have hu := hT.td t i h
  cases e : i.td with
  | struct fs =>
    rcases i with ⟨td, sz, by_, z⟩
    simp only at e
    subst e
    simp [isAggT, h] at hf
  | arr n e' =>
    rcases i with ⟨td, sz, by_, z⟩
    simp only at e
    subst e
    simp [isAggT, h] at hf
  | other => exact absurd e ho
  | func =>
    rw [e] at hu
    obtain ⟨p, r, v, hu⟩ := hu
    simp [isAgg, run_underlying hu]
  | _ =>
    rw [e] at hu
    simp only [TDOk] at hu
    simp [isAgg, run_underlying hu]
theorem eqGuard_int (op : BinOp) (t : TypeId) (x y : Operand) (k k' : IntKind) (n m : Int) : (eqGuard op t x y (.int k n) (.int k' m)).run P w = .ok () w := by
  unfold eqGuard
  split <;> simp
theorem equal_bool {t : TypeId} (hu : P.underlying t = some .bool) (a b : Bool) (w : World) : (Op.equal t (.bool a) (.bool b)).run P w = .ok (a == b) w := by
  unfold Op.equal
  generalize hd : Op.maxDepth = d
  cases d with
  | zero => cases hd
  | succ d =>
    rw [Op.equalIn]
    simp only [Sem.run_bind, run_underlying hu, Result.andThen_ok, Sem.run_pure]
theorem equal_ptr_nil {t e : TypeId} (hu : P.underlying t = some (.pointer e)) (p : Addr) (w : World) : (Op.equal t (.pointer (some p)) (.pointer none)).run P w = .ok false w := by
  unfold Op.equal
  generalize hd : Op.maxDepth = d
  cases d with
  | zero => cases hd
  | succ d =>
    rw [Op.equalIn]
    simp only [Sem.run_bind, run_underlying hu, Result.andThen_ok, Sem.run_pure]
theorem eqGuard_bool (op : BinOp) (t : TypeId) (x y : Operand) (a b : Bool) : (eqGuard op t x y (.bool a) (.bool b)).run P w = .ok () w := by
  unfold eqGuard
  split <;> simp
theorem eqGuard_ptr (op : BinOp) (t : TypeId) (x y : Operand) (a b : Option Addr) : (eqGuard op t x y (.pointer a) (.pointer b)).run P w = .ok () w := by
  unfold eqGuard
  split <;> simp
theorem eqGuard_str (op : BinOp) (t : TypeId) (x y : Operand) (a b : ByteArray) : (eqGuard op t x y (.string a) (.string b)).run P w = .ok () w := by
  unfold eqGuard
  split <;> simp
theorem evBin_sound (hT : TabOk T P) {op : BinOp} {t : Nat} {x y : AVal} {vx vy : Value} {K : AVal → Option X} (h : evBin T op t x y K = some out) (hx : VRel w φ F B x vx) (hy : VRel w φ F B y vy) (xo yo : Operand) :
    ∃ z v, K z = some out ∧ VRel w φ F B z v ∧ (do eqGuard op t xo yo vx vy; binOp op t vx vy : Sem Value).run P w = .ok v w := by
  unfold evBin at h
  split at h
  · next k a k' b =>
    obtain rfl := hx.int
    obtain rfl := hy.int
    cases hs : isShift op with
    | true =>
      rw [hs] at h
      cases op <;> simp only [isShift] at hs <;> first | (cases hs; done) | skip
      · obtain ⟨h1, h2⟩ := grd_some h
        have h1' : ¬ b < 0 := by have := of_decide_eq_true h1; omega
        exact ⟨_, _, h2, .v (.int _ _), by simp [Sem.run_bind, eqGuard_int, binOp, Op.shift, h1']⟩
      · obtain ⟨h1, h2⟩ := grd_some h
        have h1' : ¬ b < 0 := by have := of_decide_eq_true h1; omega
        exact ⟨_, _, h2, .v (.int _ _), by simp [Sem.run_bind, eqGuard_int, binOp, Op.shift, h1']⟩
    | false =>
      rw [hs] at h
      obtain ⟨h1, h⟩ := grd_some h
      have hk : k = k' := of_decide_eq_true h1
      subst hk
      cases op <;> simp only [evInt] at h <;> first
        | (cases h; done)
        | (simp [isShift] at hs; done)
        | exact ⟨_, _, h, .v (.int _ _), by simp [Sem.run_bind, eqGuard_int, binOp, Op.intArith, Op.intBits, Op.intCmp, bop]⟩
        | exact ⟨_, _, h, .v (.bool _), by simp [Sem.run_bind, eqGuard_int, binOp, Op.intArith, Op.intBits, Op.intCmp]⟩
        | skip
      all_goals
        obtain ⟨h1, h2⟩ := grd_some h
        have h1' : ¬ b = 0 := by simpa using h1
        exact ⟨_, _, h2, .v (.int _ _), by simp [Sem.run_bind, eqGuard_int, binOp, Op.intDiv, h1']⟩
  · next a b =>
    obtain rfl := hx.bool
    obtain rfl := hy.bool
    obtain ⟨h1, h⟩ := grd_some h
    have hu : P.underlying t = some .bool := by
      unfold isBoolT at h1
      split at h1
      · next e => exact hT.td t _ e
      · cases h1
    cases op <;> simp only at h <;> first
      | (cases h; done)
      | exact ⟨_, _, h, .v (.bool _), by simp only [Sem.run_bind, eqGuard_bool, Result.andThen_ok, binOp, equal_bool hu, Sem.run_pure]⟩
  · next a b =>
    obtain rfl := hx.str
    obtain rfl := hy.str
    unfold evStr at h
    cases op <;> simp only at h <;> first
      | (cases h; done)
      | exact ⟨_, _, h, .v (.bool _), by simp only [Sem.run_bind, eqGuard_str, Result.andThen_ok, binOp, Op.stringOp, Sem.run_pure]⟩
      | skip
    obtain ⟨h1, h2⟩ := grd_some h
    have h1' := of_decide_eq_true h1
    refine ⟨_, _, h2, .v (.str _), ?_⟩
    have : ¬ (((a.size + b.size : Nat) : Int) > IntKind.i64.max) := by
      have e : IntKind.i64.max = 9223372036854775807 := by decide
      rw [e]; omega
    simp only [Sem.run_bind, eqGuard_str, Result.andThen_ok, binOp, Op.stringOp]
    rw [if_neg this]
    rfl
  · next nm sz i j =>
    obtain rfl := hy.nilp
    obtain ⟨h1, h⟩ := grd_some h
    obtain ⟨e, hu⟩ : ∃ e, P.underlying t = some (.pointer e) := by
      unfold isPtrT at h1
      split at h1
      · next e => exact ⟨_, hT.td t _ e⟩
      · cases h1
    obtain ⟨p, rfl⟩ : ∃ p, vx = .pointer (some p) := by
      cases hx with
      | ptr hp => exact ⟨_, rfl⟩
      | ptrD hp A => exact ⟨_, rfl⟩
    cases op <;> simp only at h <;> first
      | (cases h; done)
      | exact ⟨_, _, h, .v (.bool _), by simp only [Sem.run_bind, eqGuard_ptr, Result.andThen_ok, binOp, equal_ptr_nil hu, Sem.run_pure, Bool.not_false]⟩
  · cases h
end
end Go.Proofs.YtlaojkheenobaaaDoorS
