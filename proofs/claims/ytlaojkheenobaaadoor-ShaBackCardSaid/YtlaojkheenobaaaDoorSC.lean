/- An evaluator over abstract values for the model's code, third part: calls, regions, code, functions. -/
import Derived.Test.YtlaojkheenobaaaDoorSB
namespace Go.Proofs.YtlaojkheenobaaaDoorS
open Go
set_option linter.unusedVariables false
/-- What is told less sharply: of a temporary, by a way into its parts: nil as an empty row under a name, or as a row that is only read. -/
structure Wk where
  t : Nat
  path : List Nat
  to : Option Nm
/-- What an evaluation knows: the types, the functions' answers, how each argument is handed over (0: lent; 1: only read from here on; 2: given away), and which temporaries are read behind the entry of a region. -/
structure Cx where
  T : Tab
  C : Fns
  md : FuncId → Nat → Nat
  cmp : Nat → Bool
  plan : Nat → Option (List Nat × List Wk)
  nat : ∀ (X : Type) g as ns (K : Out → Option X) x, C X g as ns K = some x → ∃ o, K o = some x ∧ ∀ (Y : Type) (K' : Out → Option Y), C Y g as ns K' = K' o
section
variable {X : Type}
/-- Values brought to their form, ahead of what is done with them: the same, but that the kernel has less to do. -/
def fcNat (n : Nat) (K : Nat → Option X) : Option X := match n with
  | 0 => K 0
  | m + 1 => K (m + 1)
def fcNm : Nm → (Nm → Option X) → Option X
  | [], K => K []
  | a :: l, K => fcNat a fun a => fcNm l fun l => K (a :: l)
def fcSh (sh : Option Nat) (K : Option Nat → Option X) : Option X := match sh with
  | none => K none
  | some n => fcNat n fun n => K (some n)
def fcL (f : AVal → (AVal → Option X) → Option X) : List AVal → (List AVal → Option X) → Option X
  | [], K => K []
  | a :: l, K => f a fun a => fcL f l fun l => K (a :: l)
def fc0 (a : AVal) (K : AVal → Option X) : Option X := match a with
  | .v c => K (.v c)
  | .sl p sh xs => fcSh sh fun sh => K (.sl p sh xs)
  | .nil0 sh => fcSh sh fun sh => K (.nil0 sh)
  | .osl nm sh off len => fcNm nm fun nm => fcSh sh fun sh => K (.osl nm sh off len)
  | .ptr nm sz i j => fcNm nm fun nm => K (.ptr nm sz i j)
  | .bptr sh x j => fcSh sh fun sh => K (.bptr sh x j)
  | .agg cs => K (.agg cs)
  | .tup vs => K (.tup vs)
  | .fn g cs => K (.fn g cs)
  | .undef => K .undef
def fc1 (a : AVal) (K : AVal → Option X) : Option X := match a with
  | .agg cs => fcL fc0 cs fun cs => K (.agg cs)
  | .fn g cs => fcNat g fun g => fcL fc0 cs fun cs => K (.fn g cs)
  | a => fc0 a K
def fc2 (a : AVal) (K : AVal → Option X) : Option X := match a with
  | .tup vs => fcL fc1 vs fun vs => K (.tup vs)
  | a => fc1 a K
def fcB (b : Bool) (K : Bool → Option X) : Option X := match b with
  | true => K true
  | false => K false
def fcNode (n : Node) (K : Node → Option X) : Option X := match n with
  | .row fz sh xs => fcB fz fun fz => fcSh sh fun sh => K (.row fz sh xs)
  | .obj cs => fcL fc1 cs fun cs => K (.obj cs)
  | .iter s p => K (.iter s p)
  | .dead => K .dead
def fcNs : Nodes → (Nodes → Option X) → Option X
  | [], K => K []
  | (m, n) :: l, K => fcNm m fun m => fcNode n fun n => fcNs l fun l => K ((m, n) :: l)
def fcSt (s : St) (K : St → Option X) : Option X := fcL fc2 s.tmps fun ts => fcNs s.nodes fun ns => K ⟨ts, ns⟩
/-- A row of temporaries, each cell told. -/
def fcSp : List AVal → (List AVal → Option X) → Option X
  | [], K => K []
  | a :: l, K => fcSp l fun l => K (a :: l)
def fcS (s : St) (K : St → Option X) : Option X := fcSp s.tmps fun ts => K ⟨ts, s.nodes⟩
theorem fcSp_eq : ∀ (l : List AVal) (K : List AVal → Option X), fcSp l K = K l
  | [], K => rfl
  | a :: l, K => by unfold fcSp; rw [fcSp_eq l]
theorem fcS_eq (s : St) (K : St → Option X) : fcS s K = K s := by unfold fcS; rw [fcSp_eq]
theorem fcNat_eq (n : Nat) (K : Nat → Option X) : fcNat n K = K n := by cases n <;> rfl
theorem fcNm_eq : ∀ (l : Nm) (K : Nm → Option X), fcNm l K = K l
  | [], K => rfl
  | a :: l, K => by unfold fcNm; rw [fcNat_eq, fcNm_eq l]
theorem fcSh_eq (n : Option Nat) (K : Option Nat → Option X) : fcSh n K = K n := by
  cases n with
  | none => rfl
  | some n => unfold fcSh; simp only [fcNat_eq]
theorem fcL_eq {f : AVal → (AVal → Option X) → Option X} (hf : ∀ a K, f a K = K a) : ∀ (l : List AVal) (K : List AVal → Option X), fcL f l K = K l
  | [], K => rfl
  | a :: l, K => by unfold fcL; rw [hf, fcL_eq hf l]
theorem fc0_eq (a : AVal) (K : AVal → Option X) : fc0 a K = K a := by
  cases a <;> simp only [fc0, fcSh_eq, fcNm_eq]
theorem fc1_eq (a : AVal) (K : AVal → Option X) : fc1 a K = K a := by
  cases a <;> simp only [fc1, fc0_eq, fcL_eq fc0_eq, fcNat_eq]
theorem fc2_eq (a : AVal) (K : AVal → Option X) : fc2 a K = K a := by
  cases a <;> simp only [fc2, fc1_eq, fcL_eq fc1_eq]
theorem fcB_eq (b : Bool) (K : Bool → Option X) : fcB b K = K b := by cases b <;> rfl
theorem fcNode_eq (n : Node) (K : Node → Option X) : fcNode n K = K n := by
  cases n <;> simp only [fcNode, fcB_eq, fcSh_eq, fcL_eq fc1_eq]
theorem fcNs_eq : ∀ (l : Nodes) (K : Nodes → Option X), fcNs l K = K l
  | [], K => rfl
  | (m, n) :: l, K => by unfold fcNs; rw [fcNm_eq, fcNode_eq, fcNs_eq l]
theorem fcSt_eq (s : St) (K : St → Option X) : fcSt s K = K s := by
  unfold fcSt; rw [fcL_eq fc2_eq, fcNs_eq]
def strip (r : Nm) : Nm → Option Nm
  | [] => bif nmEq [] r then some [] else none
  | j :: l => bif nmEq (j :: l) r then some [] else match strip r l with
    | some p => some (j :: p)
    | none => none
def canon : Nm → Nm
  | [] => []
  | [r] => [r]
  | j :: l => (j % 1000) :: l
def canonP : Nm → Nm
  | [] => []
  | j :: l => (j % 1000) :: l
def bumpP (g : Nat) : Nm → Nm
  | [] => []
  | j :: l => (j + 1000 * g) :: l
def reroot : List (Nm × Nm) → Nm → Sb
  | [], _ => .gone
  | (r, r') :: l, m => match strip r m with
    | some p => .to (canonP p ++ r')
    | none => reroot l m
def passedN (rs : List (Nm × Nm)) (m : Nm) : Option Nm := match reroot rs m with
  | .to c => some c
  | .gone => none
/-- A leaf as it is lent; what is handed over is not lent beside that. -/
def lend0 (rs : List (Nm × Nm)) (ns : Nodes) : AVal → AVal
  | .osl nm sh off len => match passedN rs nm with
    | some _ => .undef
    | none => match osC ns nm sh off len with
      | some (fz, ys) => .sl fz (deSh sh) ys
      | none => .undef
  | .nil0 sh => .sl true sh []
  | .agg _ => .undef
  | .tup _ => .undef
  | .fn _ _ => .undef
  | a => a
def cap0 (rs : List (Nm × Nm)) (ns : Nodes) : AVal → AVal
  | .ptr nm sz i j => match passedN rs nm with
    | some _ => .undef
    | none => match find nm ns with
      | some (.obj cs) => bif Nat.beq sz 0 then (match nth cs j with
        | .v c => bif c.isAgg then .undef else .bptr none c 0
        | .sl true sh xs => .bptr none (.slc sh xs) 0
        | _ => .undef) else .undef
      | _ => .undef
  | .osl .. => .undef
  | .nil0 _ => .undef
  | .agg _ => .undef
  | .tup _ => .undef
  | .fn _ _ => .undef
  | a => a
def packAgg (cs : List AVal) : AVal := match closedL [] cs with
  | some ds => .v (.agg ds)
  | none => .agg cs
def lend1 (rs : List (Nm × Nm)) (ns : Nodes) : AVal → AVal
  | .agg cs => packAgg (cs.map (lend0 rs ns))
  | .fn g cs => .fn g (cs.map (cap0 rs ns))
  | a => lend0 rs ns a
def frzNames (md : Nat → Nat) : Nat → List AVal → List Nm
  | _, [] => []
  | i, a :: l => (bif Nat.beq (md i) 1 then a.lv1 else []) ++ frzNames md (i + 1) l
def unP (m : Nat) : AVal → AVal
  | .sl p sh xs => .sl (p && Nat.beq m 1) sh xs
  | a => a
def lendAll (md : Nat → Nat) (rs : List (Nm × Nm)) (ns : Nodes) : Nat → List AVal → List AVal
  | _, [] => []
  | i, a :: l => (bif Nat.beq (md i) 2 then a else unP (md i) (lend1 rs ns a)) :: lendAll md rs ns (i + 1) l
def rootsIn (md : Nat → Nat) : Nat → List AVal → List (Nm × Nm)
  | _, [] => []
  | i, .ptr nm _ _ _ :: l => (nm, [1000 + i]) :: rootsIn md (i + 1) l
  | i, .osl nm _ _ _ :: l => bif Nat.beq (md i) 2 then (nm, [1000 + i]) :: rootsIn md (i + 1) l else rootsIn md (i + 1) l
  | i, _ :: l => rootsIn md (i + 1) l
/-- Where the cells of an object point, under names of their own. -/
def kidC (i : Nat) : Nat → List AVal → List (Nm × Nm)
  | _, [] => []
  | j, .ptr nm _ _ _ :: l => (nm, [1100 + 50 * i + j]) :: kidC i (j + 1) l
  | j, _ :: l => kidC i (j + 1) l
def kidR (md : Nat → Nat) (ns : Nodes) : Nat → List AVal → List (Nm × Nm)
  | _, [] => []
  | i, .ptr nm _ _ _ :: l => (bif Nat.beq (md i) 3 then (match find nm ns with
    | some (.obj cs) => kidC i 0 cs
    | _ => []) else []) ++ kidR md ns (i + 1) l
  | i, _ :: l => kidR md ns (i + 1) l
/-- Is no argument handed over with what it points at? -/
def kidQ (md : Nat → Nat) : Nat → List AVal → Bool
  | _, [] => true
  | i, .ptr _ _ _ _ :: l => !(Nat.beq (md i) 3) && kidQ md (i + 1) l
  | i, _ :: l => kidQ md (i + 1) l
/-- What is handed over, and (mode 3) what it points at. -/
def rootsK (md : Nat → Nat) (ns : Nodes) (args : List AVal) : List (Nm × Nm) := rootsIn md 0 args ++ kidR md ns 0 args
/-- Do the cells that point somewhere point there still? -/
def sameP : AVal → AVal → Bool
  | .ptr nm sz i j, .ptr nm' sz' i' j' => nmEq nm nm' && Nat.beq sz sz' && Nat.beq i i' && Nat.beq j j'
  | .ptr .., _ => false
  | .v .nilp, .v .nilp => true
  | .v .nilp, _ => false
  | _, _ => true
def keptC : List AVal → List AVal → Bool
  | [], _ => true
  | a :: l, b :: m => sameP a b && keptC l m
  | _ :: _, [] => false
def keptN (ns : Nodes) : Nodes → Bool
  | [] => true
  | (m, n) :: l => (match n with
    | .obj cs => (match find m ns with
      | some (.obj ds) => keptC cs ds
      | _ => false)
    | .row _ (some 0) _ => false
    | _ => true) && keptN ns l
/-- Is one of the arguments handed over with what it points at? -/
def thr (md : Nat → Nat) (args : List AVal) : Bool := !(kidQ md 0 args)
def okNew (t : Bool) (old new nn : Nodes) : Bool := nn.all (fun p => okNm p.1) && (bif t then keptN new old else true)
/-- The names as the callee has them. -/
def inS (rs : List (Nm × Nm)) (ns : Nodes) (m : Nm) : Sb := match find m ns with
  | some .dead => .gone
  | _ => reroot rs m
def isDead : Node → Bool
  | .dead => true
  | _ => false
def live : Nodes → Nodes
  | [] => []
  | (m, n) :: l => bif isDead n then live l else (m, n) :: live l
def sortN : Nodes → Nodes
  | [] => []
  | p :: l => insN p (sortN l)
def backGo (g : Nat) (on : Nodes) (c : Nm) : List (Nm × Nm) → Sb
  | [] => .gone
  | (r, r') :: l => match strip r' c with
    | some p => bif isObjN (find c on) then .to (p ++ r) else (match p with
      | [] => .gone
      | j :: q => .to ((j + 1000 * g) :: q ++ r))
    | none => backGo g on c l
/-- The names that come back: of what was handed over, and of the result. -/
def backS (rs : List (Nm × Nm)) (d : Option Tmp) (g : Nat) (on : Nodes) (c : Nm) : Sb :=
  match strip [2000] c with
  | some p => match d with
    | some d => .to (p ++ [d])
    | none => .gone
  | none => backGo g on c rs
/-- Names that the caller did not have. -/
def newS (back : Nm → Sb) (ns : Nodes) (c : Nm) : Sb := match back c with
  | .to m => match find m ns with
    | none => .to m
    | some _ => .gone
  | .gone => .gone
/-- A name that comes back, in values: a new one, or an object's that was handed over. -/
def backV (σ back : Nm → Sb) (ns on : Nodes) (c : Nm) : Sb := match newS back ns c with
  | .to m => .to m
  | .gone => match back c with
    | .to m => (match σ m with
      | .to c' => bif nmEq c c' && isObjN (find m ns) && isObjN (find c on) then .to m else .gone
      | .gone => .gone)
    | .gone => .gone
/-- A row that came in under a name of its own, and was turned in place. -/
def rowBack (on : Nodes) (c : Nm) : Option Node := match c with
  | [r] => bif okNm [r] then none else match find [r] on with
    | some (.row fz sh xs) => some (.row fz sh xs)
    | _ => none
  | _ => none
/-- The same names, but for rows that were turned in place. -/
def backR (rs : List (Nm × Nm)) (d : Option Tmp) (g : Nat) (on : Nodes) (c : Nm) : Sb := match rowBack on c with
  | some _ => .gone
  | none => backS rs d g on c
def isRow : Node → Bool
  | .row _ _ _ => true
  | _ => false
def after1 (σ bv : Nm → Sb) (on : Nodes) (m : Nm) (n : Node) : Node := match σ m with
  | .gone => n
  | .to c => match (bif isRow n then rowBack on c else none) with
    | some n' => n'
    | none => match bv c with
      | .gone => .dead
      | .to m' => bif nmEq m m' then (match find c on with
        | some (.obj cs) => .obj (cs.map (·.ren1 bv))
        | _ => .dead) else .dead
/-- The caller's nodes behind a call. -/
def afterN (σ bv : Nm → Sb) (on : Nodes) : Nodes → Nodes
  | [] => []
  | (m, n) :: l => (m, after1 σ bv on m n) :: afterN σ bv on l
def newN (back bv : Nm → Sb) (ns : Nodes) : Nodes → Nodes
  | [] => []
  | (c, n) :: l => match newS back ns c with
    | .to m => (m, n.ren bv) :: newN back bv ns l
    | .gone => newN back bv ns l
def genOf : Nodes → Nat
  | [] => 0
  | (j :: _ :: _, _) :: l => max (j / 1000) (genOf l)
  | _ :: l => genOf l
/-- New objects go under names of the caller's own; objects come back where they were. -/
def smallObj : Nodes → Bool
  | [] => true
  | (m, .obj _) :: l => Nat.blt (m.getLastD 0) 1000 && smallObj l
  | _ :: l => smallObj l
def evCall (cx : Cx) (s : St) (d : Option Tmp) (g : FuncId) (args : List AVal) (K : St → Option X) : Option X :=
  let N0 := s.nodes
  let s : St := ⟨s.tmps, frzN (frzNames (cx.md g) 0 args) s.nodes⟩
  let rs := rootsK (cx.md g) s.nodes args
  let σ := inS rs s.nodes
  let as := (lendAll (cx.md g) rs s.nodes 0 args).map (·.ren σ)
  let ns := sortN (renN σ s.nodes)
  grd (nodupN (ns.map (·.1)) && ns.all (fun p => Nat.ble 1000 (p.1.getLastD 0) && Nat.blt (p.1.getLastD 0) 2000)) (cx.C X g as ns fun o =>
    let back := backR rs d (genOf s.nodes + 1) o.nodes
    let bv := backV σ back s.nodes o.nodes
    let nn := newN back bv s.nodes o.nodes
    let nodes := insA nn (afterN σ bv o.nodes s.nodes)
    grd (nodupN (nodes.map (·.1)) && smallObj nn && okNew (thr (cx.md g) args) N0 nodes nn) (fcNs nodes fun nodes => fc2 (o.rv.ren bv) fun rv => K ((⟨s.tmps, nodes⟩ : St).put d rv)))
/-- A variable is assigned: rows that have but a temporary's name go under its own. -/
def asgR (ns : Nodes) (tgt : Nm) : Nm → List (Nm × Nm)
  | [] => []
  | r :: p => bif Nat.ble 1000 ((r :: p).getLastD 0) || isObjN (find p ns) then [] else [(r :: p, tgt)]
def asgL (ns : Nodes) (d : Nat) : Nat → List AVal → List (Nm × Nm)
  | _, [] => []
  | j, .osl m _ _ _ :: l => asgR ns [j, d] m ++ asgL ns d (j + 1) l
  | j, _ :: l => asgL ns d (j + 1) l
def asgAll (ns : Nodes) (d : Nat) : AVal → List (Nm × Nm)
  | .osl m _ _ _ => asgR ns [d] m
  | .agg cs => asgL ns d 0 cs
  | _ => []
def evAssign (s : St) (d : Option Tmp) (x : AVal) (K : St → Option X) : Option X :=
  match d with
  | none => K s
  | some t => let rs := asgAll s.nodes t x; s.rebind rs fun s' => K (s'.put d (bif sameR rs then x else x.ren (Go.Proofs.YtlaojkheenobaaaDoorS.rebind rs)))
def bytesOf (xs : List CV) : ByteArray := ⟨(xs.map fun c => UInt8.ofNat c.toI.toNat).toArray⟩
def isU8T (T : Tab) (e : Nat) : Bool := match T e with
  | some ⟨.int .u8, _, _, _⟩ => true
  | _ => false
def evConv (T : Tab) (s : St) (d : Option Tmp) (src dst : Nat) (x : AVal) (K : St → Option X) : Option X :=
  match T src, T dst with
  | some ⟨.int _, _, _, _⟩, some ⟨.int k, _, _, _⟩ => asI x fun n => K (s.put d (.v (.int k (k.wrap n))))
  | some ⟨.str, _, _, _⟩, some ⟨.str, _, _, _⟩ => match x with
    | .v (.str b) => K (s.put d x)
    | _ => none
  | some ⟨.str, _, _, _⟩, some ⟨.slice e, _, _, _⟩ => match d, x with
    | some d, .v (.str b) => grd (isU8T T e && Nat.blt d 1000) (grd (decide (0 < b.size)) (s.new [d] (.row false none (strCV b)) fun s => K (s.put (some d) (.osl [d] none 0 b.size))))
    | _, _ => none
  | some ⟨.slice e, _, _, _⟩, some ⟨.str, _, _, _⟩ => grd (isU8T T e) (rowOf s.nodes x fun sh xs => grd (shEq sh none && xs.all (CV.isI .u8)) (K (s.put d (.v (.str (bytesOf xs))))))
  | some ⟨.slice _, _, _, _⟩, some ⟨.slice e, _, _, _⟩ => match x with
    | .osl nm sh _ len => match find nm s.nodes with
      | some (.row false none _) => grd (Nat.beq src dst && isU8T T e && Nat.blt 0 len && shEq sh none) (K (s.put d x))
      | _ => none
    | _ => none
  | _, _ => none
def evMinL (f : AVal → AVal → (AVal → Option X) → Option X) : AVal → List AVal → (AVal → Option X) → Option X
  | a, [], K => K a
  | a, b :: l, K => f a b fun c => evMinL f c l K
/-- Structs of plain fields, held against each other. -/
def eqLeaf (T : Tab) (t : Nat) (x y : AVal) (K : Bool → Option X) : Option X := match T t, x, y with
  | some ⟨.int _, _, _, _⟩, .v (.int k a), .v (.int k' b) => grd (decide (k = k')) (K (a == b))
  | some ⟨.bool, _, _, _⟩, .v (.bool a), .v (.bool b) => K (a == b)
  | some ⟨.str, _, _, _⟩, .v (.str a), .v (.str b) => K (a.toList == b.toList)
  | _, _, _ => none
def evEqL (T : Tab) (xs ys : List AVal) : List (Nat × Nat) → (Bool → Option X) → Option X
  | [], K => K true
  | (off, ft) :: fs, K => grd (Nat.blt 0 (sizeT T ft) && Nat.blt off xs.length && Nat.blt off ys.length) <| eqLeaf T ft (nth xs off) (nth ys off) fun b => evEqL T xs ys fs fun c => K (b && c)
def evEqS (T : Tab) (cmp : Nat → Bool) (op : BinOp) (t : Nat) (x y : AVal) (K : AVal → Option X) : Option X :=
  grd (cmp t) <| expand T t x fun x => expand T t y fun y => match T t with
    | some ⟨.struct fs, _, _, _⟩ => (match x with
      | .agg xs => (match y with
        | .agg ys => evEqL T xs ys fs fun b => (match op with
          | .eql => K (.v (.bool b))
          | .neq => K (.v (.bool (!b)))
          | _ => none)
        | _ => none)
      | _ => none)
    | _ => none
/-- Arrays of numbers, and structs with such, held against each other. -/
def numsAre (k : IntKind) (n : Nat) (xs : List CV) : Bool := Nat.beq xs.length n && xs.all (CV.isI k)
def intsOf (xs : List CV) : List Int := xs.map CV.toI
def arrK (T : Tab) (t : Nat) : Option (Nat × IntKind) := match T t with
  | some ⟨.arr n e, _, _, _⟩ => (match T e with
    | some ⟨.int k, sz, _, _⟩ => bif Nat.beq sz 1 then some (n, k) else none
    | _ => none)
  | _ => none
def eqArr (n : Nat) (k : IntKind) (c d : CV) (K : Bool → Option X) : Option X :=
  grd (c.isAgg && d.isAgg) (grd (numsAre k n c.cells && numsAre k n d.cells) (K (intsOf c.cells == intsOf d.cells)))
def evEqF (T : Tab) (c d : CV) : List (Nat × Nat) → (Bool → Option X) → Option X
  | [], K => K true
  | (off, ft) :: fs, K => match arrK T ft with
    | some (n, k) => grd (Nat.beq (sizeT T ft) n) <| Option.bind (c.part off n) fun c' => Option.bind (d.part off n) fun d' => eqArr n k c' d' fun b => evEqF T c d fs fun q => K (b && q)
    | none => grd (Nat.blt 0 (sizeT T ft)) <| Option.bind (c.cell off) fun x => Option.bind (d.cell off) fun y => typed T ft (.v x) fun x => typed T ft (.v y) fun y => eqLeaf T ft x y fun b => evEqF T c d fs fun q => K (b && q)
def finEq (op : BinOp) (K : AVal → Option X) (b : Bool) : Option X := match op with
  | .eql => K (.v (.bool b))
  | .neq => K (.v (.bool (!b)))
  | _ => none
def evEqA (T : Tab) (cmp : Nat → Bool) (op : BinOp) (t : Nat) (x y : AVal) (K : AVal → Option X) : Option X := match x, y with
  | .v c, .v d => grd (cmp t && c.isAgg && d.isAgg) (match T t with
    | some ⟨.struct fs, _, _, _⟩ => evEqF T c d fs (finEq op K)
    | _ => match arrK T t with
      | some (n, k) => eqArr n k c d (finEq op K)
      | none => none)
  | _, _ => none
def hasArr (T : Tab) (t : Nat) : Bool := match T t with
  | some ⟨.struct fs, _, _, _⟩ => fs.any fun p => (arrK T p.2).isSome
  | some ⟨.arr _ _, _, _, _⟩ => true
  | _ => false
def evBin2 (T : Tab) (cmp : Nat → Bool) (op : BinOp) (t : Nat) (x y : AVal) (K : AVal → Option X) : Option X :=
  bif isAggT T t then (bif hasArr T t then evEqA T cmp op t x y K else evEqS T cmp op t x y K) else evBin T op t x y K
/-- Arguments, nil at the type where it is handed over. -/
def resA (T : Tab) : List Nat → List AVal → List AVal
  | t :: ts, a :: l => resize T t a :: resA T ts l
  | _, l => l
/-- Two pointers that are one. -/
def samePtr : AVal → AVal → Bool
  | .ptr nm sz i j, .ptr nm' sz' i' j' => nmEq nm nm' && Nat.beq sz sz' && Nat.beq i i' && Nat.beq j j'
  | _, _ => false
def isPV : AVal → Bool
  | .ptr .. => true
  | _ => false
def aliveP (ns : Nodes) : AVal → Bool
  | .ptr nm _ _ _ => aliveN ns nm
  | _ => false
def ptrOkT (T : Tab) (t : Nat) : Bool := match T t with
  | some ⟨.ptr e, _, _, _⟩ => (match T e with
    | some _ => true
    | none => false)
  | _ => false
def evPP (T : Tab) (ns : Nodes) (op : BinOp) (t : Nat) (x y : AVal) (K : AVal → Option X) : Option X :=
  grd (ptrOkT T t && aliveP ns x && samePtr x y) (match op with
    | .eql => K (.v (.bool true))
    | .neq => K (.v (.bool false))
    | _ => none)
def evBinN (T : Tab) (cmp : Nat → Bool) (ns : Nodes) (op : BinOp) (t : Nat) (x y : AVal) (K : AVal → Option X) : Option X :=
  bif isPV x && isPV y then evPP T ns op t x y K else evBin2 T cmp op t x y K
/-- A walk over a text begins. -/
def evRange (T : Tab) (s : St) (d : Option Tmp) (t : Nat) (x : AVal) (K : St → Option X) : Option X := match d, x with
  | some d, .v (.str b) => grd (isStrT T t && Nat.blt d 1000) (s.new [d] (.iter b 0) fun s => K (s.put (some d) (.ptr [d] 0 0 0)))
  | _, _ => none
/-- The next sign of a text, if there is one. -/
def evNext (s : St) (d : Option Tmp) (isS : Bool) (x : AVal) (K : St → Option X) : Option X := match x with
  | .ptr nm sz i j => match find nm s.nodes with
    | some (.iter b p) => grd (isS && Nat.beq sz 0 && Nat.beq j 0) (bif decide (p < b.size) then K ((s.setN nm (.iter b (p + (Utf8.decode b p).2))).put d (.tup [.v (.bool true), .v (.int .i64 (p : Int)), .v (.int .i32 ((Utf8.decode b p).1 : Int))])) else K (s.put d (.tup [.v (.bool false)])))
    | _ => none
  | _ => none
def evOpR (cx : Cx) (ρ : Operand → AVal) (s : St) (o : Oper) (K : St → Option X) : Option X :=
  match o.op with
  | .move x => K (s.put o.dst (resize cx.T o.type (ρ x)))
  | .assign x => evAssign s o.dst (resize cx.T o.type (ρ x)) K
  | .pick c a b => asB (ρ c) fun c => match ρ a, ρ b with
    | .v (.bool x), .v (.bool y) => K (s.put o.dst (.v (.bool (bif c then x else y))))
    | x, y => bif c then K (s.put o.dst x) else K (s.put o.dst y)
  | .alloc t => evBox cx.T s o.dst t (zeroT cx.T t) K
  | .box t x => evBox cx.T s o.dst t (ρ x) K
  | .build t ps => evBuild cx.T t (ps.toList.map fun p => (p.1, ρ p.2)) fun a => K (s.put o.dst a)
  | .buildSlice t n ps => evBuildSlice cx.T s o.dst t n (ps.toList.map fun p => (p.1, ρ p.2)) K
  | .load t a => evLoad cx.T s.nodes t (ρ a) fun v => grd (ptrV cx.T t v) (K (s.put o.dst v))
  | .store t a x => evStore cx.T s t (ρ a) (ρ x) fun s => K (s.put o.dst (.tup []))
  | .nilCheck x => match ρ x with
    | .ptr nm sz i j => K (s.put o.dst (.ptr nm sz i j))
    | .bptr sh x j => K (s.put o.dst (.bptr sh x j))
    | .fn g cs => K (s.put o.dst (.fn g cs))
    | _ => none
  | .binOp op t x y _ => evBinN cx.T cx.cmp s.nodes op t (ρ x) (ρ y) fun v => K (s.put o.dst v)
  | .unOp op _ x => evUn op (ρ x) fun v => K (s.put o.dst v)
  | .convert src dst x => evConv cx.T s o.dst src dst (ρ x) K
  | .makeFunc (.func g) first caps => grd (first.toList.isEmpty) (K (s.put o.dst (.fn g (caps.toList.map ρ))))
  | .makeSlice t l c => evMakeSlice cx.T s o.dst t (ρ l) (ρ c) K
  | .slice t x lo hi mx => evSlice cx.T s.nodes t (ρ x) (lo.map ρ) (hi.map ρ) (mx.map ρ) fun v => K (s.put o.dst v)
  | .fieldAddr t x f => evFieldAddr cx.T t (ρ x) f fun v => K (s.put o.dst v)
  | .indexAddr t x i => evIndexAddr cx.T s.nodes t (ρ x) (ρ i) fun v => K (s.put o.dst v)
  | .field t x f => evField cx.T t (ρ x) f fun v => K (s.put o.dst v)
  | .range t x => evRange cx.T s o.dst t (ρ x) K
  | .next x b => evNext s o.dst b (ρ x) K
  | .index t x i => evIndex cx.T t (ρ x) (ρ i) fun v => K (s.put o.dst v)
  | .extract x i => match ρ x with
    | .tup vs => grd (Nat.blt i vs.length) (K (s.put o.dst (nth vs i)))
    | _ => none
  | .call c => match c.callee with
    | .value f => match ρ f with
      | .fn g caps => evCall cx s o.dst g (resA cx.T c.argTypes.toList (c.args.toList.map ρ) ++ caps) K
      | _ => none
    | .builtin b => match b, c.args.toList.map ρ, c.argTypes.toList with
      | .len, [x], [t] => evLen cx.T s.nodes t x fun v => K (s.put o.dst v)
      | .cap, [x], [t] => evCap cx.T t x fun v => K (s.put o.dst v)
      | .append, [x, y], [t, tx] => evAppendA cx.T s o.dst t tx x y K
      | .clear, [x], [t] => evClear cx.T s t x fun s => K (s.put o.dst (.tup []))
      | .copy, [x, y], [t, tx] => evCopy cx.T s t tx x y fun s v => K (s.put o.dst v)
      | .min, x :: l, _ => evMinL evMin x l fun v => K (s.put o.dst v)
      | .max, x :: l, _ => evMinL evMax x l fun v => K (s.put o.dst v)
      | _, _, _ => none
    | _ => none
  | _ => none
def evOp (cx : Cx) (s : St) (o : Oper) (K : St → Option X) : Option X := evOpR cx s.eval s o K
/-- Which names an operation looks at; which it turns, where it turns any (`ch`); `glob`: any, it may be; `kd`: 1: it lays a variable, 2: it calls, 3: it stores in a row, 4: it asks but whether a row is there, 5: it stores in an object, 6 to 8: it takes plain data. -/
structure Ft where
  rd : List Nm
  wr : List Nm
  glob : Bool
  ch : Bool
  kd : Nat
def AVal.names0 : AVal → List Nm
  | .osl nm _ _ _ => [nm]
  | .ptr nm _ _ _ => [nm]
  | _ => []
def AVal.names : AVal → List Nm
  | .agg cs => cs.flatMap AVal.names0
  | .fn _ cs => cs.flatMap AVal.names0
  | a => a.names0
def ftArgs (md : Nat → Nat) : Nat → List AVal → List Nm
  | _, [] => []
  | i, .ptr nm _ _ _ :: l => nm :: ((bif Nat.beq (md i) 3 then [[]] else []) ++ ftArgs md (i + 1) l)
  | i, a :: l => (bif Nat.beq (md i) 0 then [] else a.names) ++ ftArgs md (i + 1) l
def dstN : Option Tmp → List Nm
  | some d => [[d]]
  | none => []
/-- Is plain data taken out? -/
def extK (a : AVal) (i : Nat) : Nat := match a with
  | .tup vs => match nth vs i with
    | .v _ => 8
    | _ => 0
  | _ => 0
/-- Are a slice's parts, and what stands for a missing one, plain data? -/
def softP (T : Tab) (t : Nat) (xs : List AVal) : Bool := match T t with
  | some ⟨.slice e, _, _, _⟩ => (zeroT T e).names.isEmpty && xs.all fun x => x.names.isEmpty && (resize T e x).names.isEmpty
  | _ => false
/-- Does what stands for a missing part lead to no name? -/
def hardP (T : Tab) (t : Nat) : Bool := match T t with
  | some ⟨.slice e, _, _, _⟩ => (zeroT T e).names.isEmpty
  | _ => false
def bsK (T : Tab) (t : Nat) (xs : List AVal) : Nat := bif softP T t xs then 1 else bif hardP T t then 10 else 0
/-- Values that lead to no name. -/
def liteV : AVal → Bool
  | .v _ => true
  | .sl .. => true
  | .bptr .. => true
  | .nil0 _ => true
  | _ => false
def mvK (a : AVal) : Nat := bif liteV a then 8 else 0
/-- Of a value that is taken as it is. -/
def mvF (a : AVal) : Ft := match a with
  | .ptr nm _ _ _ => ⟨[nm], [], false, false, 7⟩
  | a => ⟨[], [], false, false, mvK a⟩
def ixK (a : AVal) : Nat := match a with
  | .sl .. => 8
  | .v _ => 8
  | _ => 4
def ldK (T : Tab) (t : Nat) (a : AVal) : Nat := bif isLeafT T t && !isAggT T t then 6 else match a with
  | .bptr .. => 6
  | .ptr _ 0 _ _ => bif isPtrT T t && !isAggT T t then 9 else 0
  | _ => 0
/-- Of an assignment: a row that goes under another name. -/
def asgF (d : Option Tmp) (x : AVal) : Ft := match x.names with
  | [] => ⟨[], [], false, false, 0⟩
  | m :: l => ⟨[], dstN d ++ m :: l, true, false, 5⟩
/-- Of a conversion: a text's bytes are a row of their own. -/
def cvF (T : Tab) (src dst : Nat) (x : AVal) : Ft := match T src, T dst with
  | some ⟨.str, _, _, _⟩, some ⟨.slice _, _, _, _⟩ => ⟨[], [], true, true, 0⟩
  | _, _ => ⟨x.names, [], false, false, 0⟩
def binN (x y : AVal) : List Nm := bif isPV x && isPV y then x.names ++ y.names else []
def footR (cx : Cx) (ρ : Operand → AVal) (o : Oper) : Ft :=
  match o.op with
  | .move x => mvF (ρ x)
  | .nilCheck x => mvF (ρ x)
  | .load t a => ⟨(ρ a).names, [], false, false, ldK cx.T t (ρ a)⟩
  | .fieldAddr _ x _ => ⟨(ρ x).names, [], false, false, 7⟩
  | .unOp _ _ x => ⟨(ρ x).names, [], false, false, 7⟩
  | .binOp _ _ x y _ => ⟨binN (ρ x) (ρ y), [], false, false, 0⟩
  | .extract x i => ⟨[], [], false, false, extK (ρ x) i⟩
  | .convert src dst x => cvF cx.T src dst (ρ x)
  | .slice _ x _ _ _ => ⟨(ρ x).names, [], false, false, 0⟩
  | .indexAddr _ x _ => ⟨(ρ x).names, [], false, false, ixK (ρ x)⟩
  | .store _ a x => match ρ a with
    | .ptr nm (_ + 1) _ _ => ⟨[], nm :: (ρ x).names, false, true, 3⟩
    | .ptr nm 0 _ _ => ⟨[], nm :: (ρ x).names, true, true, 5⟩
    | _ => ⟨[], [], true, true, 0⟩
  | .assign x => asgF o.dst (ρ x)
  | .range _ _ => ⟨[], [], true, true, 0⟩
  | .next _ _ => ⟨[], [], true, true, 0⟩
  | .alloc t => ⟨[], dstN o.dst, !(resize cx.T t (zeroT cx.T t)).cells.all soft0, true, 1⟩
  | .box t x => ⟨[], dstN o.dst, !(resize cx.T t (ρ x)).cells.all soft0, true, 1⟩
  | .buildSlice t _ ps => ⟨[], dstN o.dst ++ ps.toList.flatMap fun p => (ρ p.2).names, false, true, bsK cx.T t (ps.toList.map fun p => ρ p.2)⟩
  | .makeSlice t _ _ => ⟨[], dstN o.dst, false, true, bif softP cx.T t [] then 1 else 0⟩
  | .call c => match c.callee with
    | .builtin b => match b with
      | .append => ⟨[], dstN o.dst ++ c.args.toList.flatMap fun x => (ρ x).names, false, true, 0⟩
      | .clear => ⟨[], c.args.toList.flatMap fun x => (ρ x).names, false, true, 0⟩
      | .copy => ⟨[], c.args.toList.flatMap fun x => (ρ x).names, false, true, 0⟩
      | _ => ⟨c.args.toList.flatMap fun x => (ρ x).names, [], false, false, 0⟩
    | .value f => match ρ f with
      | .fn g caps => ⟨(resA cx.T c.argTypes.toList (c.args.toList.map ρ) ++ caps).flatMap AVal.names, dstN o.dst ++ ftArgs (cx.md g) 0 (resA cx.T c.argTypes.toList (c.args.toList.map ρ) ++ caps), false, true, 2⟩
      | _ => ⟨[], [], true, true, 0⟩
    | _ => ⟨[], [], true, true, 0⟩
  | _ => ⟨[], [], false, false, 0⟩
def footOf (cx : Cx) (s : St) (o : Oper) : Ft := footR cx s.eval o
def noFt : Ft := ⟨[], [], false, false, 0⟩
def kin (a b : Nm) : Bool := (strip a b).isSome || (strip b a).isSome
def meets (l m : List Nm) : Bool := l.any fun a => m.any fun b => kin a b
/-- A variable that is laid, and a call that does not know it. -/
def comm (f g : Ft) : Bool := (Nat.beq f.kd 1 && Nat.beq g.kd 2 || Nat.beq f.kd 2 && Nat.beq g.kd 1 || Nat.beq f.kd 1 && Nat.beq g.kd 1 || Nat.beq f.kd 2 && Nat.beq g.kd 10) && !meets f.wr g.wr
/-- A store in a row, and one who asks but whether it is there. -/
def soft3 (f g : Ft) : Bool := Nat.beq f.kd 3 && Nat.beq g.kd 4
/-- What is looked at in blocks. -/
def Ft.rdE (f : Ft) : List Nm := bif Nat.ble 7 f.kd && Nat.ble f.kd 8 then [] else f.rd
/-- Who takes but plain data, and a store in an object that comes behind. -/
def soft5 (f g : Ft) : Bool := (Nat.ble 6 f.kd && Nat.ble f.kd 8) && Nat.beq g.kd 5 && !meets g.wr f.rd
/-- Who takes a pointer, and a call behind it that leaves pointers as they are. -/
def soft9 (f g : Ft) : Bool := Nat.beq f.kd 9 && Nat.beq g.kd 2 && g.wr.any List.isEmpty && !g.rd.any List.isEmpty
def clash (f g : Ft) : Bool := bif soft3 f g || soft3 g f || soft5 f g || soft9 f g then false else f.glob || g.glob || (f.ch && g.ch && !comm f g) || meets f.wr g.rdE || meets g.wr f.rdE
/-- Which operations lie ahead of each one, as bits. -/
def precL : List Oper → List Nat → List Nat
  | [], acc => acc
  | o :: l, acc => precL l (acc ++ [o.after.toList.foldr (fun e b => bif Region.binds .any e then (1 <<< e.on) ||| acc.getD e.on 0 ||| b else b) 0])
def pairsOk (ops : Array Oper) (bs : List Nat) : List (Nat × Oper × Ft) → Bool
  | [] => true
  | p :: l => (l.all fun q => Nat.testBit (bs.getD q.1 0) p.1 || (!clash p.2.2 q.2.2 && Oper.apart ops p.2.1 q.2.1)) && pairsOk ops bs l
def aftersOk : Nat → List Oper → Bool
  | _, [] => true
  | i, o :: l => (o.after.toList.all fun e => !Region.binds .any e || Nat.blt e.on i) && aftersOk (i + 1) l
def drawOk (ops : Array Oper) (fs : List (Nat × Oper × Ft)) : Bool := aftersOk 0 ops.toList && pairsOk ops (precL ops.toList []) fs
/-- The operations of a region, in their order. -/
def evOps (cx : Cx) (ops : Array Oper) (draw : Bool) : List Oper → List (Nat × Oper × Ft) → St → (St → Option X) → Option X
  | [], fs, s, K => grd (!draw || drawOk ops fs.reverse) (K s)
  | o :: l, fs, s, K => match o.guard with
    | none => evOp cx s o fun s' => evOps cx ops draw l ((fs.length, o, footOf cx s o) :: fs) s' K
    | some (j, want) => match (ops[j]?).bind (·.dst) with
      | some t => match nth s.tmps t with
        | .v (.bool b) => bif (b == want) then evOp cx s o fun s' => evOps cx ops draw l ((fs.length, o, footOf cx s o) :: fs) s' K
          else evOps cx ops draw l ((fs.length, o, noFt) :: fs) (s.put o.dst (.tup [])) K
        | .tup [] => evOps cx ops draw l ((fs.length, o, noFt) :: fs) (s.put o.dst (.tup [])) K
        | _ => none
      | none => none
/-- The same, where the outcome of a guard is told to what follows. -/
def evOpsR (cx : Cx) (ops : Array Oper) (draw : Bool) : List Oper → List (Nat × Oper × Ft) → St → (St → Option X) → Option X
  | [], fs, s, K => grd (!draw || drawOk ops fs.reverse) (K s)
  | o :: l, fs, s, K => match o.guard with
    | none => evOp cx s o fun s' => fcS s' fun s' => evOpsR cx ops draw l ((fs.length, o, footOf cx s o) :: fs) s' K
    | some (j, want) => match (ops[j]?).bind (·.dst) with
      | some t => match nth s.tmps t with
        | .v (.bool b) => bif b then (fcS ⟨setn s.tmps t (.v (.bool true)), s.nodes⟩ fun s =>
            bif want then evOp cx s o fun s' => fcS s' fun s' => evOpsR cx ops draw l ((fs.length, o, footOf cx s o) :: fs) s' K
            else fcS (s.put o.dst (.tup [])) fun s' => evOpsR cx ops draw l ((fs.length, o, noFt) :: fs) s' K)
          else (fcS ⟨setn s.tmps t (.v (.bool false)), s.nodes⟩ fun s =>
            bif want then fcS (s.put o.dst (.tup [])) fun s' => evOpsR cx ops draw l ((fs.length, o, noFt) :: fs) s' K
            else evOp cx s o fun s' => fcS s' fun s' => evOpsR cx ops draw l ((fs.length, o, footOf cx s o) :: fs) s' K)
        | .tup [] => fcS (s.put o.dst (.tup [])) fun s' => evOpsR cx ops draw l ((fs.length, o, noFt) :: fs) s' K
        | _ => none
      | none => none
def keepT (live : List Nat) : Nat → List AVal → List AVal
  | _, [] => []
  | i, a :: l => (bif live.any (Nat.beq i) then a else .undef) :: keepT live (i + 1) l
def tmpNames : List AVal → List Nm
  | [] => []
  | a :: l => (match a with
    | .tup vs => vs.flatMap (·.names)
    | a => a.names) ++ tmpNames l
def reach1 (ns : Nodes) : List Nm → Nodes → List Nm
  | ks, [] => ks
  | ks, (m, n) :: l => bif ks.any (nmEq m) || Nat.ble 1000 (m.getLastD 0) then reach1 ns (match n with
      | .obj cs => m :: tmpNames cs ++ ks
      | _ => m :: ks) l else reach1 ns ks l
def reach : Nat → Nodes → List Nm → List Nm
  | 0, _, ks => ks
  | n + 1, ns, ks => reach n ns (reach1 ns ks ns)
def lays : Op → Bool
  | .alloc _ => true
  | .box _ _ => true
  | .buildSlice _ _ _ => true
  | .makeSlice _ _ _ => true
  | .convert _ _ _ => true
  | .call _ => true
  | _ => false
def laysOf : List Oper → List Nat
  | [] => []
  | o :: l => bif lays o.op then (match o.dst with
    | some d => d :: laysOf l
    | none => laysOf l) else laysOf l
/-- Objects' names are as they are. -/
def objFix : Nodes → Bool
  | [] => true
  | (m, .obj _) :: l => nmEq (canon m) m && objFix l
  | _ :: l => objFix l
/-- A leaf is told less sharply. -/
def wkLeaf (nm : Option Nm) (s : St) (x : AVal) (K : St → AVal → Option X) : Option X := match x, nm with
  | .nil0 sh, some nm => grd (Nat.blt 0 (szOf sh) && okNm nm) (s.new nm (.row false sh []) fun s => K s (.osl nm sh 0 0))
  | .nil0 sh, none => K s (.sl true sh [])
  | .osl nm sh off len, none => match osC s.nodes nm sh off len with
    | some (_, ys) => K ⟨s.tmps, frzN [nm] s.nodes⟩ (.sl true (deSh sh) ys)
    | none => none
  | x, _ => K s x
/-- A cell of an object, told less sharply. -/
def wkCell (nm : Nm) (i : Nat) (s : St) (K : St → Option X) : Option X := match find nm s.nodes with
  | some (.obj cs) => match cs[i]? with
    | some c => wkLeaf none s c fun s' y => match find nm s'.nodes with
      | some (.obj cs') => grd (canSt y) (K (s'.setN nm (.obj (cs'.set i y))))
      | _ => none
    | none => none
  | _ => none
def wkPath (nm : Option Nm) (s : St) : List Nat → AVal → (St → AVal → Option X) → Option X
  | [], x, K => wkLeaf nm s x K
  | i :: p, .tup vs, K => match vs[i]? with
    | some v => wkPath nm s p v fun s v => K s (.tup (vs.set i v))
    | none => none
  | i :: p, .agg vs, K => match vs[i]? with
    | some v => wkPath nm s p v fun s v => K s (.agg (vs.set i v))
    | none => none
  | i :: _, .ptr nm' sz a b, K => wkCell nm' i s fun s => K s (.ptr nm' sz a b)
  | _ :: _, x, K => K s x
/-- Blocks to which nothing leads any more. -/
def lostN (s : St) : List Nm := let ks := reach 3 s.nodes (tmpNames s.tmps); (s.nodes.map (·.1)).filter fun m => !ks.any (nmEq m)
def trimW (wk : List Wk) (s : St) : St := bif wk.isEmpty then s else s.ren (goneS (lostN s))
/-- A block to which no temporary leads is forgotten. -/
def wkGone (to : Option Nm) (s : St) : St := match to with
  | none => s
  | some nm => bif (tmpNames s.tmps).any (nmEq nm) then s else s.ren (goneS [nm])
def wkAll : List Wk → St → (St → Option X) → Option X
  | [], s, K => K s
  | p :: l, s, K => bif Nat.beq p.t 1000000 then wkAll l (wkGone p.to s) K else wkPath p.to s p.path (nth s.tmps p.t) fun s v => wkAll l ⟨setn s.tmps p.t v, s.nodes⟩ K
/-- Where a region begins: what is read no more is forgotten, names are as they were. -/
def St.enter (cx : Cx) (id : Nat) (ops : List Oper) (s : St) (K : St → Option X) : Option X :=
  match cx.plan id with
  | none => K s
  | some (lv, wk) =>
    let ts := keepT lv 0 s.tmps
    let ks := reach 3 s.nodes (tmpNames ts)
    let ds := laysOf ops
    let s' : St := (⟨ts, s.nodes⟩ : St).ren fun m => match find m s.nodes with
      | some .dead => .gone
      | _ => bif ds.any (Nat.beq (m.getLastD 0)) || !ks.any (nmEq m) then .gone else .to (canon m)
    grd (nodupN (s'.nodes.map (·.1)) && objFix s.nodes) (wkAll wk s' fun s => let s := trimW wk s; fcSt ⟨s.tmps, sortN s.nodes⟩ K)
def iter (f : (St → Option X) → St → Option X) : Nat → St → Option X
  | 0, _ => none
  | n + 1, s => f (iter f n) s
def firstReg : Code → Option (Nat × List Oper)
  | .region id ops _ => some (id, ops.toList)
  | .seq a _ => firstReg a
  | .block _ a => firstReg a
  | .loop a => firstReg a
  | _ => none
/-- At a loop's head what is read no more is forgotten, too. -/
def St.enterL (cx : Cx) (a : Code) (s : St) (K : St → Option X) : Option X := match firstReg a with
  | some (id, ops) => s.enter cx id ops K
  | none => K s
def evCode (cx : Cx) (fuel : Nat) : Code → St → (St → Option X) → (Nat → St → Option X) → (St → Option X) → Option X
  | .skip, s, kn, _, _ => kn s
  | .label _, s, kn, _, _ => kn s
  | .region id ops draw, s, kn, _, _ => s.enter cx id ops.toList fun s => evOpsR cx ops draw ops.toList [] s kn
  | .seq a b, s, kn, kx, kr => evCode cx fuel a s (fun s => evCode cx fuel b s kn kx kr) kx kr
  | .cond c a b, s, kn, kx, kr => asB (s.eval c) fun t => bif t then evCode cx fuel a s kn kx kr else evCode cx fuel b s kn kx kr
  | .block id a, s, kn, kx, kr => evCode cx fuel a s kn (fun i s => bif Nat.beq i id then kn s else kx i s) kr
  | .loop a, s, _, kx, kr => s.enterL cx a fun s => iter (fun rec s => evCode cx fuel a s (fun s => s.enterL cx a rec) kx kr) fuel s
  | .exit id, s, _, kx, _ => kx id s
  | .ret, s, _, _, kr => kr s
  | _, _, _, _, _ => none
/-- What a leaf of the result lies under, and under which name it is handed back. -/
def handed : Nm → Bool
  | [r] => Nat.ble 1000 r && Nat.blt r 2000
  | _ => false
def outR0 (tgt : Nm) : AVal → List (Nm × Nm)
  | .osl nm _ _ _ => [(nm, tgt)]
  | .ptr nm _ _ _ => bif handed nm then [] else [(nm, tgt)]
  | _ => []
def outRL (f : Nm → AVal → List (Nm × Nm)) (tgt : Nm) : Nat → List AVal → List (Nm × Nm)
  | _, [] => []
  | j, a :: l => f (j :: tgt) a ++ outRL f tgt (j + 1) l
def outR1 (tgt : Nm) : AVal → List (Nm × Nm)
  | .agg cs => outRL outR0 tgt 0 cs
  | a => outR0 tgt a
def outR (tgt : Nm) : AVal → List (Nm × Nm)
  | .tup vs => outRL outR1 tgt 0 vs
  | a => outR1 tgt a
def outS (ns : Nodes) (rs : List (Nm × Nm)) (m : Nm) : Sb := match find m ns with
  | some .dead => .gone
  | _ => match reroot rs m with
    | .to c => .to c
    | .gone => bif Nat.ble 1000 (m.getLastD 0) then .to (canon m) else .gone
/-- Objects stay, or go under a result's name. -/
def outFix (σ : Nm → Sb) : Nodes → Bool
  | [] => true
  | (m, .obj _) :: l => (match σ m with
    | .to c => nmEq c m || Nat.ble 2000 (c.getLastD 0)
    | .gone => true) && outFix σ l
  | _ :: l => outFix σ l
def noB0 : AVal → Bool
  | .sl p _ _ => p
  | .bptr .. => false
  | .agg _ => false
  | .tup _ => false
  | .fn _ _ => false
  | _ => true
def noB1 : AVal → Bool
  | .agg cs => cs.all noB0
  | a => noB0 a
def noB : AVal → Bool
  | .tup vs => vs.all noB1
  | a => noB1 a
def noBN : Nodes → Bool
  | [] => true
  | (_, .obj cs) :: l => cs.all noB0 && noBN l
  | _ :: l => noBN l
/-- How far a row is referred to. -/
def refs0 (nm : Nm) : AVal → List Nat
  | .osl m _ off len => bif nmEq m nm then [off + len] else []
  | _ => []
def refs1 (nm : Nm) : AVal → List Nat
  | .agg cs => cs.flatMap (refs0 nm)
  | a => refs0 nm a
def refs2 (nm : Nm) : AVal → List Nat
  | .tup vs => vs.flatMap (refs1 nm)
  | a => refs1 nm a
def refsN (nm : Nm) : Nodes → List Nat
  | [] => []
  | (_, .obj cs) :: l => cs.flatMap (refs0 nm) ++ refsN nm l
  | _ :: l => refsN nm l
def maxL : List Nat → Nat
  | [] => 0
  | [a] => a
  | a :: l => max a (maxL l)
def trim1 (l : List Nat) : Node → Node
  | .row fz sh xs => match l with
    | [] => .row fz sh xs
    | [a] => .row fz sh (xs.take a)
    | l => .row fz sh (xs.take (maxL l))
  | n => n
/-- Rows end where they are referred to. -/
def trimAll (f : Nm → List Nat) (ns : Nodes) : Nodes := ns.map fun p => (p.1, trim1 (f p.1) p.2)
def mkOut (s : St) (rv : AVal) : Option Out :=
  let σ := outS s.nodes (outR [2000] rv)
  let ns := sortN (renN σ s.nodes)
  let rv' := rv.ren σ
  grd (noB rv' && noBN ns && nodupN (ns.map (·.1)) && outFix σ s.nodes) (some ⟨rv', trimAll (fun nm => bif okNm nm then refs2 nm rv' ++ refsN nm ns else []) ns⟩)
def resL (T : Tab) (s : St) : List ResultVar → (List AVal → Option X) → Option X
  | [], K => K []
  | .tmp t :: l, K => resL T s l fun vs => K (nth s.tmps t :: vs)
  | .cell a t :: l, K => evLoad T s.nodes t (nth s.tmps a) fun v => resL T s l fun vs => K (v :: vs)
def mkOutW (ws : List Wk) (s : St) (rv : AVal) : Option Out := wkAll ws ⟨[rv], s.nodes⟩ fun s => mkOut s (nth s.tmps 0)
def evRet (T : Tab) (ws : List Wk) (rs : List ResultVar) (s : St) : Option Out :=
  resL T s rs fun vs => match vs with
    | [v] => mkOutW ws s v
    | vs => mkOutW ws s (.tup vs)
def padT (n : Nat) : List AVal → List AVal
  | [] => List.replicate n (.tup [])
  | a :: l => a :: padT (n - 1) l
/-- A function's answer. -/
def evFn (cx : Cx) (ws : List Wk) (fuel : Nat) (ntmps : Nat) (rs : List ResultVar) (body : Code) (args : List AVal) (ns : Nodes) (K : Out → Option X) : Option X :=
  evCode cx fuel body ⟨padT ntmps args, ns⟩ (fun s => Option.bind (evRet cx.T ws rs s) K) (fun _ _ => none) (fun s => Option.bind (evRet cx.T ws rs s) K)
end
end Go.Proofs.YtlaojkheenobaaaDoorS
