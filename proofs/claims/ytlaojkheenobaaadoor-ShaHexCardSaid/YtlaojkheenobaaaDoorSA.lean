/- An evaluator over abstract values for the model's code: what it computes. (Its soundness lies in the texts behind it.) -/
import Derived.Test.YtlaojkheenobaaaDoorSG
namespace Go.Proofs.YtlaojkheenobaaaDoorS
open Go
set_option linter.unusedVariables false
/-- What a closed value holds, where its kind is known. -/
def CV.toI : CV → Int
  | .int _ n => n
  | _ => 0
def CV.toB : CV → Bool
  | .bool b => b
  | _ => false
def CV.toS : CV → ByteArray
  | .str s => s
  | _ => ⟨#[]⟩
def CV.toL : CV → List CV
  | .slc _ xs => xs
  | _ => []
def CV.isI (k : IntKind) : CV → Bool
  | .int k' _ => decide (k' = k)
  | _ => false
def CV.isB : CV → Bool
  | .bool _ => true
  | _ => false
def CV.isS : CV → Bool
  | .str _ => true
  | _ => false
/-- A value as the evaluator has it. -/
inductive AVal where
  | v (c : CV)
  | sl (p : Bool) (sh : Option Nat) (xs : List CV)
  | nil0 (sh : Option Nat)
  | osl (nm : Nm) (sh : Option Nat) (off len : Nat)
  | ptr (nm : Nm) (sz i j : Nat)
  | bptr (sh : Option Nat) (x : CV) (j : Nat)
  | agg (cs : List AVal)
  | tup (vs : List AVal)
  | fn (g : FuncId) (caps : List AVal)
  | undef
  deriving Inhabited
/-- What lies in such a block: a row of closed elements (`fz`: only read from here on); cells; a walk over a text, at a place; nothing that is known. -/
inductive Node where
  | row (fz : Bool) (sh : Option Nat) (xs : List CV)
  | obj (cs : List AVal)
  | iter (s : ByteArray) (pos : Nat)
  | dead
abbrev Nodes := List (Nm × Node)
structure St where
  tmps : List AVal
  nodes : Nodes
/-- What a call hands back: a value, and the blocks that it may write as they are behind it. -/
structure Out where
  rv : AVal
  nodes : Nodes
inductive TD where
  | int (k : IntKind) | bool | str | ptr (e : Nat) | slice (e : Nat) | arr (n e : Nat) | struct (fs : List (Nat × Nat)) | func | other
structure TI where
  td : TD
  size : Nat
  bytes : Nat
  zero : AVal
abbrev Tab := Nat → Option TI
abbrev Fns := (X : Type) → FuncId → List AVal → Nodes → (Out → Option X) → Option X
def nth : List AVal → Nat → AVal
  | [], _ => .undef
  | a :: _, 0 => a
  | _ :: l, n + 1 => nth l n
def setn : List AVal → Nat → AVal → List AVal
  | [], _, _ => []
  | _ :: l, 0, x => x :: l
  | a :: l, n + 1, x => a :: setn l n x
def nmEq : Nm → Nm → Bool
  | [], [] => true
  | a :: l, b :: m => Nat.beq a b && nmEq l m
  | _, _ => false
/-- Is a name none of those under which a row comes in? -/
def okNm : Nm → Bool
  | [r] => Nat.blt r 1000 || Nat.ble 2000 r
  | _ => true
def find (nm : Nm) : Nodes → Option Node
  | [] => none
  | (m, n) :: l => bif nmEq m nm then some n else find nm l
def drop (nm : Nm) : Nodes → Nodes
  | [] => []
  | (m, n) :: l => bif nmEq m nm then drop nm l else (m, n) :: drop nm l
def upd (nm : Nm) (x : Node) : Nodes → Nodes
  | [] => []
  | (m, n) :: l => bif nmEq m nm then (m, x) :: l else (m, n) :: upd nm x l
/-- What becomes of a name. -/
inductive Sb where
  | to (nm : Nm)
  | gone
def AVal.ren0 (σ : Nm → Sb) : AVal → AVal
  | .osl nm sh off len => match σ nm with
    | .to m => .osl m sh off len
    | .gone => .undef
  | .ptr nm sz i j => match σ nm with
    | .to m => .ptr m sz i j
    | .gone => .undef
  | .agg _ => .undef
  | .tup [] => .tup []
  | .tup _ => .undef
  | .fn _ _ => .undef
  | a => a
def AVal.ren1 (σ : Nm → Sb) : AVal → AVal
  | .agg cs => .agg (cs.map (·.ren0 σ))
  | .fn g cs => .fn g (cs.map (·.ren0 σ))
  | a => a.ren0 σ
def AVal.ren (σ : Nm → Sb) : AVal → AVal
  | .tup vs => .tup (vs.map (·.ren1 σ))
  | a => a.ren1 σ
def Node.ren (σ : Nm → Sb) : Node → Node
  | .row fz sh xs => .row fz sh xs
  | .obj cs => .obj (cs.map (·.ren1 σ))
  | .iter s p => .iter s p
  | .dead => .dead
/-- The nodes behind a turn of names: those that stay, under their new names. -/
def renN (σ : Nm → Sb) : Nodes → Nodes
  | [] => []
  | (m, n) :: l => match σ m with
    | .to m' => (m', n.ren σ) :: renN σ l
    | .gone => renN σ l
def St.ren (σ : Nm → Sb) (s : St) : St := ⟨s.tmps.map (·.ren σ), renN σ s.nodes⟩
def toS (nm nm' : Nm) : Nm → Sb := fun m => bif nmEq m nm then .to nm' else .to m
def killS (nm : Nm) : Nm → Sb := fun m => bif nmEq m nm then .gone else .to m
def St.put (s : St) (d : Option Tmp) (x : AVal) : St := match d with
  | none => s
  | some t => ⟨setn s.tmps t x, s.nodes⟩
/-- What lies under a name is told anew. -/
def St.setN (s : St) (nm : Nm) (n : Node) : St := ⟨s.tmps, upd nm n s.nodes⟩
section
variable {X : Type}
def grd (b : Bool) (k : Option X) : Option X := bif b then k else none
def nmLe : Nm → Nm → Bool
  | [], _ => true
  | _ :: _, [] => false
  | a :: l, b :: m => bif Nat.beq a b then nmLe l m else Nat.ble a b
def insN (p : Nm × Node) : Nodes → Nodes
  | [] => [p]
  | q :: l => bif nmLe p.1.reverse q.1.reverse then p :: q :: l else q :: insN p l
/-- Nodes are laid among others, each at its name's place. -/
def insA : Nodes → Nodes → Nodes
  | [], l => l
  | p :: A, l => insN p (insA A l)
/-- A block is laid under a name that nothing has. -/
def St.new (s : St) (nm : Nm) (n : Node) (K : St → Option X) : Option X := match find nm s.nodes with
  | none => K ⟨s.tmps, insN (nm, n) s.nodes⟩
  | some _ => none
def shEq : Option Nat → Option Nat → Bool
  | none, none => true
  | some a, some b => Nat.beq a b
  | _, _ => false
def CV.isL (sh : Option Nat) : CV → Bool
  | .slc sh' _ => shEq sh' sh
  | _ => false
def CV.isA (n : Nat) : CV → Bool
  | .agg cs => Nat.beq cs.length n
  | _ => false
def CV.cellD (j : Nat) : CV → CV
  | .agg cs => cs.getD j .nilp
  | _ => .nilp
/-- A leaf of a closed value, as its type has it: `z` is that type's zero. -/
def leafZ (z : AVal) (c : CV) (K : AVal → Option X) : Option X := match z with
  | .v (.int k _) => grd (c.isI k) (K (.v (.int k c.toI)))
  | .v (.bool _) => grd c.isB (K (.v (.bool c.toB)))
  | .v (.str _) => grd c.isS (K (.v (.str c.toS)))
  | .nil0 sh => grd (c.isL sh) (K (.sl true sh c.toL))
  | _ => K (.v c)
def leavesZ : List AVal → Nat → CV → List AVal → (List AVal → Option X) → Option X
  | [], _, _, us, K => K us.reverse
  | z :: zs, j, c, us, K => leafZ z (c.cellD j) fun u => leavesZ zs (j + 1) c (u :: us) K
/-- A slice of an array in an object bears the mark `some 0` (of what lies behind its end nothing is known). -/
def deSh : Option Nat → Option Nat
  | some 0 => none
  | sh => sh
/-- What a slice of a row that the call may write holds. -/
def osC (ns : Nodes) (nm : Nm) (sh : Option Nat) (off len : Nat) : Option (Bool × List CV) := match find nm ns with
  | some (.row fz sh' xs) => bif shEq (deSh sh) sh' then some (fz, (xs.drop off).take len) else none
  | _ => none
/-- A leaf as closed data. -/
def closed0 (ns : Nodes) : AVal → Option CV
  | .v c => some c
  | .sl true sh xs => some (.slc sh xs)
  | .nil0 sh => some (.slc sh [])
  | .osl nm sh off len => match osC ns nm sh off len with
    | some (_, ys) => some (.slc (deSh sh) ys)
    | none => none
  | _ => none
def closedL (ns : Nodes) : List AVal → Option (List CV)
  | [] => some []
  | a :: l => match closed0 ns a with
    | some c => match closedL ns l with
      | some cs => some (c :: cs)
      | none => none
    | none => none
def closed (ns : Nodes) : AVal → Option CV
  | .agg cs => match closedL ns cs with
    | some ds => some (.agg ds)
    | none => none
  | a => closed0 ns a
def CV.isAgg : CV → Bool
  | .agg _ => true
  | _ => false
def CV.ncells : CV → Nat
  | .agg cs => cs.length
  | _ => 1
/-- The cells of a value. -/
def CV.cells : CV → List CV
  | .agg cs => cs
  | c => [c]
def AVal.cells : AVal → List AVal
  | .agg cs => cs
  | .v (.agg cs) => cs.map .v
  | a => [a]
/-- An aggregate of closed parts is a closed one, unless it holds a row that may yet be appended to. -/
def pureV : List AVal → Option (List CV)
  | [] => some []
  | .v c :: l => match pureV l with
    | some cs => some (c :: cs)
    | none => none
  | _ :: _ => none
def mkAgg (cs : List AVal) : AVal := match pureV cs with
  | some ds => .v (.agg ds)
  | none => .agg cs
def absV : Value → AVal
  | .int k n => .v (.int k n)
  | .bool b => .v (.bool b)
  | .string s => .v (.str s)
  | .slice none 0 0 => .nil0 none
  | .pointer none => .v .nilp
  | _ => .undef
def St.eval (s : St) : Operand → AVal
  | .tmp t => nth s.tmps t
  | .const v => absV v
  | .global g => match globs g with
    | some (n, cs) => .bptr (some n) (.agg cs) 0
    | none => .undef
  | .func f => .fn f []
def isAggT (T : Tab) (t : Nat) : Bool := match T t with
  | some ⟨.struct _, _, _, _⟩ => true
  | some ⟨.arr _ _, _, _, _⟩ => true
  | _ => false
def sizeT (T : Tab) (t : Nat) : Nat := match T t with
  | some i => i.size
  | none => 0
def shOf (T : Tab) (e : Nat) : Option Nat := bif isAggT T e then some (sizeT T e) else none
def szOf : Option Nat → Nat
  | none => 1
  | some n => n
/-- nil, at the type where it is used. -/
def resize (T : Tab) (t : Nat) (a : AVal) : AVal := match a with
  | .nil0 _ => match T t with
    | some ⟨.slice e, _, _, _⟩ => .nil0 (shOf T e)
    | _ => a
  | a => a
end
end Go.Proofs.YtlaojkheenobaaaDoorS
