/- An evaluator over abstract values for the model's code, second part: operations, calls, code. -/
import Derived.Test.YtlaojkheenobaaaDoorSA
namespace Go.Proofs.YtlaojkheenobaaaDoorS
open Go
set_option linter.unusedVariables false
section
variable {X : Type}
def bop (op : BinOp) (k : IntKind) (a b : Int) : Int :=
  k.wrap (match op with
    | .and => (BitVec.ofInt k.bits a &&& BitVec.ofInt k.bits b).toNat
    | .or => (BitVec.ofInt k.bits a ||| BitVec.ofInt k.bits b).toNat
    | .xor => (BitVec.ofInt k.bits a ^^^ BitVec.ofInt k.bits b).toNat
    | .andNot => (BitVec.ofInt k.bits a &&& ~~~ BitVec.ofInt k.bits b).toNat
    | _ => 0)
def evInt (op : BinOp) (k : IntKind) (a b : Int) (K : AVal → Option X) : Option X :=
  match op with
  | .add => K (.v (.int k (k.wrap (a + b))))
  | .sub => K (.v (.int k (k.wrap (a - b))))
  | .mul => K (.v (.int k (k.wrap (a * b))))
  | .quo => grd (b != 0) (K (.v (.int k (k.wrap (a.tdiv b)))))
  | .rem => grd (b != 0) (K (.v (.int k (a.tmod b))))
  | .and => K (.v (.int k (bop .and k a b)))
  | .or => K (.v (.int k (bop .or k a b)))
  | .xor => K (.v (.int k (bop .xor k a b)))
  | .andNot => K (.v (.int k (bop .andNot k a b)))
  | .eql => K (.v (.bool (a == b)))
  | .neq => K (.v (.bool (a != b)))
  | .lss => K (.v (.bool (decide (a < b))))
  | .leq => K (.v (.bool (decide (a ≤ b))))
  | .gtr => K (.v (.bool (decide (a > b))))
  | .geq => K (.v (.bool (decide (a ≥ b))))
  | _ => none
def evShift (op : BinOp) (k : IntKind) (a b : Int) (K : AVal → Option X) : Option X :=
  match op with
  | .shl => grd (decide (0 ≤ b)) (K (.v (.int k (k.wrap (a * 2 ^ (min b.toNat k.bits))))))
  | .shr => grd (decide (0 ≤ b)) (K (.v (.int k (a.fdiv (2 ^ (min b.toNat k.bits))))))
  | _ => none
def isShift : BinOp → Bool
  | .shl => true
  | .shr => true
  | _ => false
def evStr (op : BinOp) (a b : ByteArray) (K : AVal → Option X) : Option X :=
  match op with
  | .add => grd (decide (a.size + b.size ≤ 9223372036854775807)) (K (.v (.str (a ++ b))))
  | .eql => K (.v (.bool (a.toList == b.toList)))
  | .neq => K (.v (.bool (!(a.toList == b.toList))))
  | .lss => K (.v (.bool (Op.bytesLess a.toList b.toList)))
  | _ => none
def isBoolT (T : Tab) (t : Nat) : Bool := match T t with
  | some ⟨.bool, _, _, _⟩ => true
  | _ => false
def isPtrT (T : Tab) (t : Nat) : Bool := match T t with
  | some ⟨.ptr _, _, _, _⟩ => true
  | _ => false
/-- Does a value fit a type that may be a pointer's? -/
def isNilC : CV → Bool
  | .nilp => true
  | _ => false
def ptrV (T : Tab) (t : Nat) : AVal → Bool
  | .v c => bif isPtrT T t then isNilC c else true
  | .ptr .. => true
  | _ => !isPtrT T t
def evBin (T : Tab) (op : BinOp) (t : Nat) (x y : AVal) (K : AVal → Option X) : Option X :=
  match x, y with
  | .v (.int k a), .v (.int k' b) => bif isShift op then evShift op k a b K else grd (decide (k = k')) (evInt op k a b K)
  | .v (.bool a), .v (.bool b) => grd (isBoolT T t) (match op with
    | .eql => K (.v (.bool (a == b)))
    | .neq => K (.v (.bool (!(a == b))))
    | _ => none)
  | .v (.str a), .v (.str b) => evStr op a b K
  | .ptr .., .v .nilp => grd (isPtrT T t) (match op with
    | .eql => K (.v (.bool false))
    | .neq => K (.v (.bool true))
    | _ => none)
  | _, _ => none
def evUn (op : UnOp) (x : AVal) (K : AVal → Option X) : Option X :=
  match op, x with
  | .neg, .v (.int k a) => K (.v (.int k (k.wrap (0 - a))))
  | .xor, .v (.int k a) => K (.v (.int k (bop .xor k (if k.signed then -1 else k.max) a)))
  | .not, .v (.bool b) => K (.v (.bool !b))
  | _, _ => none
/-- Of a row that is read: its elements. -/
def rowOf (ns : Nodes) (a : AVal) (K : Option Nat → List CV → Option X) : Option X :=
  match a with
  | .sl _ sh xs => K sh xs
  | .v (.slc sh xs) => K sh xs
  | .nil0 sh => K sh []
  | .osl nm sh off len => match osC ns nm sh off len with
    | some (_, ys) => K (deSh sh) ys
    | none => none
  | _ => none
def asI (a : AVal) (K : Int → Option X) : Option X := match a with
  | .v (.int _ n) => K n
  | _ => none
def asB (a : AVal) (K : Bool → Option X) : Option X := match a with
  | .v (.bool b) => K b
  | _ => none
def asIO (a : Option AVal) (d : Int) (K : Int → Option X) : Option X := match a with
  | some a => asI a K
  | none => K d
def bnd (l h n : Int) (k : Option X) : Option X := grd (decide (0 ≤ l)) (grd (decide (l ≤ h)) (grd (decide (h ≤ n)) k))
def isStrT (T : Tab) (t : Nat) : Bool := match T t with
  | some ⟨.str, _, _, _⟩ => true
  | _ => false
def isSliceOf (T : Tab) (t : Nat) (sh : Option Nat) : Bool := match T t with
  | some ⟨.slice e, _, _, _⟩ => shEq sh (shOf T e) && Nat.beq (sizeT T e) (szOf sh) && Nat.blt 0 (szOf sh)
  | _ => false
def isSliceT (T : Tab) (t : Nat) : Bool := match T t with
  | some ⟨.slice e, _, _, _⟩ => Nat.blt 0 (sizeT T e)
  | _ => false
/-- Does a name have a block? -/
def aliveN (ns : Nodes) (nm : Nm) : Bool := match find nm ns with
  | some (.row _ _ _) => true
  | some (.obj _) => true
  | _ => false
def evSlice (T : Tab) (ns : Nodes) (t : Nat) (x : AVal) (lo hi mx : Option AVal) (K : AVal → Option X) : Option X :=
  match x, mx with
  | .v (.str s), none => grd (isStrT T t) <| asIO lo 0 fun l => asIO hi (s.size : Int) fun h => bnd l h (s.size : Int) (K (.v (.str (s.extract l.toNat h.toNat))))
  | .sl p sh xs, none => grd (isSliceOf T t sh) <| asIO lo 0 fun l => asIO hi (xs.length : Int) fun h => bnd l h (xs.length : Int) (K (.sl p sh ((xs.drop l.toNat).take (h.toNat - l.toNat))))
  | .v (.slc sh xs), none => grd (isSliceOf T t sh) <| asIO lo 0 fun l => asIO hi (xs.length : Int) fun h => bnd l h (xs.length : Int) (K (.sl true sh ((xs.drop l.toNat).take (h.toNat - l.toNat))))
  | .nil0 sh, none => grd (isSliceT T t) <| asIO lo 0 fun l => asIO hi 0 fun h => bnd l h 0 (K (.nil0 sh))
  | .osl nm sh off len, none => match find nm ns with
    | some (.row _ sh' xs) => grd (isSliceOf T t sh) <| asIO lo 0 fun l => match hi with
      | none => bnd l (len : Int) (len : Int) (K (.osl nm sh (off + l.toNat) (len - l.toNat)))
      | some hi => asI hi fun h => bnd l h ((xs.length : Int) - (off : Int)) (K (.osl nm sh (off + l.toNat) (h.toNat - l.toNat)))
    | _ => none
  | .ptr nm sz q j, none => match T t, find nm ns with
    | some ⟨.arr n e, _, _, _⟩, some (.row _ none xs) => grd (Nat.beq sz 1 && Nat.beq (sizeT T e) 1 && !isAggT T e) <| asIO lo 0 fun l => asIO hi (n : Int) fun h => bnd l h (n : Int) (grd (decide (q + j + n ≤ xs.length)) (K (.osl nm (some 0) (q + j + l.toNat) (h.toNat - l.toNat))))
    | _, _ => none
  | .osl nm sh off _, some mx => match find nm ns, hi with
    | some (.row _ sh' xs), some hi => grd (isSliceOf T t sh) <| asIO lo 0 fun l => asI hi fun h => asI mx fun m => bnd l h m (grd (decide (m ≤ (xs.length : Int) - (off : Int))) (bif decide (m = (xs.length : Int) - (off : Int)) then K (.osl nm sh (off + l.toNat) (h.toNat - l.toNat)) else K .undef))
    | _, _ => none
  | .sl _ sh xs, some mx => match hi with
    | some hi => grd (isSliceOf T t sh) <| asIO lo 0 fun l => asI hi fun h => asI mx fun m => bnd l h m (grd (decide (m ≤ (xs.length : Int))) (K .undef))
    | none => none
  | _, _ => none
def evIndexAddr (T : Tab) (ns : Nodes) (t : Nat) (x i : AVal) (K : AVal → Option X) : Option X :=
  asI i fun i => match x with
  | .osl nm sh off len => grd (isSliceOf T t sh && aliveN ns nm) (grd (decide (0 ≤ i)) (grd (decide (i < (len : Int))) (K (.ptr nm (szOf sh) (off + i.toNat) 0))))
  | .sl _ sh xs => grd (isSliceOf T t sh) (grd (decide (0 ≤ i)) (Option.bind xs[i.toNat]? fun x => K (.bptr sh x 0)))
  | .v (.slc sh xs) => grd (isSliceOf T t sh) (grd (decide (0 ≤ i)) (Option.bind xs[i.toNat]? fun x => K (.bptr sh x 0)))
  | .ptr nm sz q j => match T t with
    | some ⟨.arr n e, _, _, _⟩ => grd (aliveN ns nm && Nat.blt 0 (sizeT T e)) (grd (decide (0 ≤ i)) (grd (decide (i < (n : Int))) (K (.ptr nm sz q (j + i.toNat * sizeT T e)))))
    | _ => none
  | .bptr sh x j => match T t with
    | some ⟨.arr n e, _, _, _⟩ => grd (Nat.blt 0 (sizeT T e)) (grd (decide (0 ≤ i)) (grd (decide (i < (n : Int))) (K (.bptr sh x (j + i.toNat * sizeT T e)))))
    | _ => none
  | _ => none
def CV.cell : CV → Nat → Option CV
  | .agg cs, j => cs[j]?
  | _, _ => none
def CV.part (c : CV) (j n : Nat) : Option CV := match c with
  | .agg cs => bif Nat.ble (j + n) cs.length then some (.agg ((cs.drop j).take n)) else none
  | _ => none
def zeroT (T : Tab) (t : Nat) : AVal := match T t with
  | some i => i.zero
  | none => .undef
/-- A number's, a truth value's, a text's type. -/
def isLeafT (T : Tab) (t : Nat) : Bool := match zeroT T t with
  | .v (.int _ _) => true
  | .v (.bool _) => true
  | .v (.str _) => true
  | _ => false
/-- A closed value in the form of its type. -/
def typed (T : Tab) (t : Nat) (a : AVal) (K : AVal → Option X) : Option X := match a with
  | .v c => leafZ (zeroT T t) c K
  | a => bif isLeafT T t then none else K a
/-- A closed aggregate, leaf by leaf. -/
def expand (T : Tab) (t : Nat) (a : AVal) (K : AVal → Option X) : Option X := match a with
  | .v c => bif isAggT T t then (match zeroT T t with
    | .v (.agg zs) => grd (c.isA zs.length) (leavesZ (zs.map .v) 0 c [] fun us => K (.agg us))
    | .agg zs => grd (c.isA zs.length) (leavesZ zs 0 c [] fun us => K (.agg us))
    | _ => K a) else K a
  | a => K a
/-- What lies in cells at j of an element. -/
def elemLoad (T : Tab) (t : Nat) (sh : Option Nat) (x : CV) (j : Nat) (K : AVal → Option X) : Option X :=
  match sh with
  | none => grd (!isAggT T t) (grd (Nat.beq j 0) (K (.v x)))
  | some n => bif isAggT T t then (bif Nat.beq j 0 && Nat.beq (sizeT T t) n then K (.v x) else Option.bind (x.part j (sizeT T t)) fun c => K (.v c))
    else Option.bind (x.cell j) fun c => K (.v c)
/-- What lies in a row of single cells, from a place on. -/
def flatLoad (T : Tab) (t : Nat) (xs : List CV) (i : Nat) (K : AVal → Option X) : Option X :=
  bif isAggT T t then grd (decide (i + sizeT T t ≤ xs.length)) (K (.v (.agg ((xs.drop i).take (sizeT T t))))) else Option.bind xs[i]? fun x => K (.v x)
def evLoad0 (T : Tab) (ns : Nodes) (t : Nat) (a : AVal) (K : AVal → Option X) : Option X :=
  match a with
  | .ptr nm sz i j => match find nm ns with
    | some (.obj cs) => grd (Nat.beq sz 0 && Nat.blt 0 (sizeT T t)) <| bif isAggT T t then grd (Nat.ble (j + sizeT T t) cs.length) (K (mkAgg ((cs.drop j).take (sizeT T t)))) else Option.bind cs[j]? fun c => K c
    | some (.row _ sh xs) => grd (Nat.beq sz (szOf sh) && Nat.blt 0 (sizeT T t)) <| (match sh with
      | none => flatLoad T t xs (i + j) K
      | some n => Option.bind xs[i]? fun x => elemLoad T t (some n) x j K)
    | _ => none
  | .bptr sh x j => grd (Nat.blt 0 (sizeT T t)) <| elemLoad T t sh x j K
  | _ => none
def evLoad (T : Tab) (ns : Nodes) (t : Nat) (a : AVal) (K : AVal → Option X) : Option X := evLoad0 T ns t a fun v => typed T t v K
/-- Which rows that the call may write does a value lead to? -/
def AVal.lv0 : AVal → List Nm
  | .osl nm _ _ _ => [nm]
  | _ => []
def AVal.lv1 : AVal → List Nm
  | .agg cs => cs.flatMap (·.lv0)
  | a => a.lv0
/-- These rows are only read from here on. -/
def frzN : List Nm → Nodes → Nodes
  | [], ns => ns
  | nm :: l, ns => match find nm ns with
    | some (.row false sh xs) => frzN l (upd nm (.row true sh xs) ns)
    | _ => frzN l ns
def isObjN : Option Node → Bool
  | some (.obj _) => true
  | _ => false
def nodupN : List Nm → Bool
  | [] => true
  | m :: l => !(l.any (nmEq m)) && nodupN l
/-- Leaves of a value that is laid in cells of an object, from the j-th on: the names that they go under. -/
def adoptR (nm : Nm) : Nat → List AVal → List (Nm × Nm)
  | _, [] => []
  | j, .osl m _ _ _ :: l => (m, j :: nm) :: adoptR nm (j + 1) l
  | j, _ :: l => adoptR nm (j + 1) l
def lookR : List (Nm × Nm) → Nm → Option Nm
  | [], _ => none
  | (m, m') :: l, x => bif nmEq m x then some m' else lookR l x
/-- Names go under other ones; what had these is forgotten. -/
def rebind (rs : List (Nm × Nm)) (x : Nm) : Sb := match lookR rs x with
  | some m => .to m
  | none => bif rs.any (fun p => nmEq p.2 x) then .gone else .to x
def sameR : List (Nm × Nm) → Bool
  | [] => true
  | (m, m') :: l => nmEq m m' && sameR l
def St.rebind (s : St) (rs : List (Nm × Nm)) (K : St → Option X) : Option X :=
  bif sameR rs then K s else
    let s' := s.ren (Go.Proofs.YtlaojkheenobaaaDoorS.rebind rs)
    grd (rs.all (fun p => !isObjN (find p.1 s.nodes) && okNm p.2) && nodupN (s'.nodes.map (·.1))) (K s')
/-- nil in cells of an object is an empty row there. -/
def nilCells (nm : Nm) : Nat → List AVal → List AVal
  | _, [] => []
  | j, .nil0 sh :: l => .osl (j :: nm) sh 0 0 :: nilCells nm (j + 1) l
  | j, a :: l => a :: nilCells nm (j + 1) l
def nilNodes (nm : Nm) : Nat → List AVal → Nodes
  | _, [] => []
  | j, .nil0 sh :: l => (j :: nm, .row false sh []) :: nilNodes nm (j + 1) l
  | j, _ :: l => nilNodes nm (j + 1) l
def splice : List AVal → Nat → List AVal → List AVal
  | cs, _, [] => cs
  | cs, j, x :: l => splice (setn cs j x) (j + 1) l
def canSt : AVal → Bool
  | .undef => false
  | .agg _ => false
  | .tup _ => false
  | _ => true
def noneN : Option Node → Bool
  | none => true
  | some _ => false
def rowSz : Node → Bool
  | .row _ sh _ => Nat.blt 0 (szOf sh)
  | _ => false
def St.lay2 (s : St) (nm : Nm) (j : Nat) (us : List AVal) (K : St → Option X) : Option X :=
  let nn := nilNodes nm j us
  match find nm s.nodes with
  | some (.obj cs) => grd (Nat.ble (j + us.length) cs.length && us.all canSt && nn.all (fun p => noneN (find p.1 s.nodes) && rowSz p.2 && okNm p.1) && nodupN (nn.map (·.1))) (K ⟨s.tmps, insA nn (upd nm (.obj (splice cs j (nilCells nm j us))) s.nodes)⟩)
  | _ => none
def goneS (ls : List Nm) (m : Nm) : Sb := bif ls.any (fun p => nmEq p m) then .gone else .to m
/-- Cells are laid in an object, from the j-th on. -/
def St.lay (s : St) (nm : Nm) (j : Nat) (us : List AVal) (K : St → Option X) : Option X :=
  s.rebind (adoptR nm j us) fun s =>
    let us := us.map (·.ren1 (Go.Proofs.YtlaojkheenobaaaDoorS.rebind (adoptR nm j us)))
    match nilNodes nm j us with
    | [] => s.lay2 nm j us K
    | nn => (s.ren (goneS (nn.map (·.1)))).lay2 nm j (us.map (·.ren1 (goneS (nn.map (·.1))))) K
/-- A run of cells within a row of cells. -/
def putRun {α : Type} (ds : List α) (j : Nat) (cs : List α) : List α := ds.take j ++ cs ++ ds.drop (j + cs.length)
/-- An element's cells, from the j-th on, are told anew. -/
def putEl (T : Tab) (t : Nat) (sh : Option Nat) (xs : List CV) (i j : Nat) (c : CV) (K : List CV → Option X) : Option X := match sh with
  | none => bif isAggT T t then grd (Nat.blt 0 (sizeT T t) && c.isA (sizeT T t)) (grd (decide (i + j + sizeT T t ≤ xs.length)) (K (xs.take (i + j) ++ c.cells ++ xs.drop (i + j + sizeT T t))))
    else grd (Nat.beq (sizeT T t) 1 && !c.isAgg) (grd (decide (i + j < xs.length)) (K (xs.set (i + j) c)))
  | some n => bif isAggT T t then
      bif Nat.beq (sizeT T t) n && Nat.beq j 0 then grd (Nat.beq c.ncells n && c.isAgg) (grd (decide (i < xs.length)) (K (xs.set i c)))
      else grd (Nat.blt 0 (sizeT T t) && c.isAgg && Nat.beq c.ncells (sizeT T t)) (Option.bind xs[i]? fun e => match e with
        | .agg ds => grd (Nat.ble (j + sizeT T t) ds.length) (K (xs.set i (.agg (putRun ds j c.cells))))
        | _ => none)
    else grd (Nat.beq (sizeT T t) 1 && !c.isAgg) (Option.bind xs[i]? fun e => match e with
      | .agg ds => grd (Nat.blt j ds.length) (K (xs.set i (.agg (ds.set j c))))
      | _ => none)
def evStore (T : Tab) (s : St) (t : Nat) (a x : AVal) (K : St → Option X) : Option X :=
  match a with
  | .ptr nm sz i j => match find nm s.nodes with
    | some (.obj cs) => expand T t x fun x => let us := (resize T t x).cells; grd (Nat.beq us.length (sizeT T t) && Nat.beq sz 0 && us.all canSt && Nat.ble (j + us.length) cs.length && Nat.blt 0 (sizeT T t)) (s.lay nm j us K)
    | some (.row false sh xs) => grd (Nat.beq sz (szOf sh) && !(x.lv1.any (nmEq nm))) <| Option.bind (closed s.nodes (resize T t x)) fun c =>
      let s : St := ⟨s.tmps, frzN x.lv1 s.nodes⟩
      putEl T t sh xs i j c fun ys => K (s.setN nm (.row false sh ys))
    | _ => none
  | _ => none
/-- A leaf that asks for no names of others in cells. -/
def soft0 : AVal → Bool
  | .v _ => true
  | .ptr .. => true
  | .bptr .. => true
  | .sl .. => true
  | .fn .. => true
  | .nil0 _ => true
  | _ => false
/-- A variable is laid. -/
def evBox0 (T : Tab) (s : St) (d : Option Tmp) (t : Nat) (x : AVal) (K : St → Option X) : Option X :=
  match d with
  | none => none
  | some d => let us := (resize T t x).cells; grd (Nat.beq us.length (sizeT T t) && Nat.blt d 1000 && Nat.blt 0 (sizeT T t) && us.all canSt && Nat.ble us.length 1000) (s.new [d] (.obj (us.map fun _ => .undef)) fun s => bif us.all soft0 then s.lay2 [d] 0 us fun s => K (s.put (some d) (.ptr [d] 0 0 0)) else s.lay [d] 0 us fun s => K (s.put (some d) (.ptr [d] 0 0 0)))
/-- A type of cells of plain data with an array among them: such a variable is a row of cells. -/
def isArrT (T : Tab) (t : Nat) : Bool := match T t with
  | some ⟨.arr _ _, _, _, _⟩ => true
  | _ => false
def isAggV : AVal → Bool
  | .v (.agg _) => true
  | _ => false
def flatT (T : Tab) (t : Nat) : Bool := match T t with
  | some ⟨.arr _ _, _, _, z⟩ => isAggV z
  | some ⟨.struct fs, _, _, z⟩ => isAggV z && fs.any fun p => isArrT T p.2
  | _ => false
def evBoxF (T : Tab) (s : St) (d : Option Tmp) (t : Nat) (x : AVal) (K : St → Option X) : Option X :=
  match d, x with
  | some d, .v c => grd (Nat.blt d 1000 && Nat.blt 0 (sizeT T t) && c.isA (sizeT T t)) (s.new [d] (.row false none c.cells) fun s => K (s.put (some d) (.ptr [d] 1 0 0)))
  | _, _ => none
def evBox (T : Tab) (s : St) (d : Option Tmp) (t : Nat) (x : AVal) (K : St → Option X) : Option X := bif flatT T t then evBoxF T s d t x K else expand T t x fun x => evBox0 T s d t x K
/-- Parts in their places. -/
def fillF (T : Tab) (fs : List (Nat × Nat)) : List (Nat × AVal) → List AVal → (List AVal → Option X) → Option X
  | [], cs, K => K cs
  | (f, x) :: l, cs, K => Option.bind fs[f]? fun (off, ft) => expand T ft x fun x => let us := (resize T ft x).cells; grd (Nat.beq us.length (sizeT T ft) && Nat.blt 0 (sizeT T ft) && us.all canSt && Nat.ble (off + us.length) cs.length) (fillF T fs l (splice cs off us) K)
def fillA (T : Tab) (e : Nat) : List (Nat × AVal) → List AVal → (List AVal → Option X) → Option X
  | [], cs, K => K cs
  | (i, x) :: l, cs, K => expand T e x fun x => let us := (resize T e x).cells; grd (Nat.beq us.length (sizeT T e) && Nat.blt 0 (sizeT T e) && us.all canSt && Nat.ble (i * sizeT T e + us.length) cs.length) (fillA T e l (splice cs (i * sizeT T e) us) K)
def evBuild0 (T : Tab) (t : Nat) (ps : List (Nat × AVal)) (K : AVal → Option X) : Option X :=
  match T t with
  | some ⟨.struct fs, _, _, z⟩ => grd (z.cells.all canSt) <| fillF T fs ps z.cells fun cs => K (mkAgg cs)
  | some ⟨.arr _ e, _, _, z⟩ => grd (z.cells.all canSt && Nat.blt 0 (sizeT T e)) <| fillA T e ps z.cells fun cs => K (mkAgg cs)
  | _ => none
/-- Parts of a struct of plain data with arrays. -/
def fillC (T : Tab) (fs : List (Nat × Nat)) (n : Nat) : List (Nat × AVal) → List CV → (List CV → Option X) → Option X
  | [], cs, K => K cs
  | (f, x) :: l, cs, K => Option.bind fs[f]? fun (off, ft) => match x with
    | .v c => bif isAggT T ft then grd (Nat.blt 0 (sizeT T ft) && Nat.ble (off + sizeT T ft) n && c.isA (sizeT T ft)) (fillC T fs n l (cs.take off ++ c.cells ++ cs.drop (off + sizeT T ft)) K)
      else grd (Nat.beq (sizeT T ft) 1 && Nat.ble (off + 1) n && !c.isAgg) (fillC T fs n l (cs.take off ++ [c] ++ cs.drop (off + 1)) K)
    | _ => none
def evBuildC (T : Tab) (t : Nat) (ps : List (Nat × AVal)) (K : AVal → Option X) : Option X := match T t with
  | some ⟨.struct fs, _, _, .v (.agg zs)⟩ => fillC T fs zs.length ps zs fun cs => K (.v (.agg cs))
  | _ => none
def flatS (T : Tab) (t : Nat) : Bool := match T t with
  | some ⟨.struct _, _, _, _⟩ => flatT T t
  | _ => false
def evBuild (T : Tab) (t : Nat) (ps : List (Nat × AVal)) (K : AVal → Option X) : Option X := bif flatS T t then evBuildC T t ps K else evBuild0 T t ps K
/-- Is a value an element of this form? -/
def fitSh : Option Nat → CV → Bool
  | none, c => !c.isAgg
  | some n, c => c.isAgg && Nat.beq c.ncells n
def isSlT (T : Tab) (t : Nat) : Bool := match T t with
  | some ⟨.slice _, _, _, _⟩ => true
  | _ => false
def srcT (T : Tab) (t : Nat) (x : AVal) : Bool := match x with
  | .v (.str _) => isStrT T t
  | _ => isSlT T t
/-- The elements of a literal row: those that are told, and zeros. -/
def elemsL (T : Tab) (e : Nat) (ns : Nodes) : List (Nat × AVal) → List CV → (List CV → Option X) → Option X
  | [], xs, K => K xs
  | (i, x) :: l, xs, K => Option.bind (closed ns (resize T e x)) fun c => grd (Nat.blt i xs.length && fitSh (shOf T e) c) (elemsL T e ns l (xs.set i c) K)
/-- An element's type is told, and takes memory. -/
def elemOk (T : Tab) (e : Nat) : Bool := match T e with
  | some i => Nat.blt 0 i.size && Nat.blt 0 i.bytes && Nat.beq i.size (szOf (shOf T e)) && i.zero.cells.all canSt
  | none => false
def evBuildSlice (T : Tab) (s : St) (d : Option Tmp) (t n : Nat) (ps : List (Nat × AVal)) (K : St → Option X) : Option X :=
  match d, T t with
  | some d, some ⟨.slice e, _, _, _⟩ =>
      match closed s.nodes (zeroT T e) with
      | some z => grd (elemOk T e && Nat.blt d 1000 && Nat.ble (n * sizeT T e) 16777216 && fitSh (shOf T e) z) <| elemsL T e s.nodes ps (List.replicate n z) fun xs =>
          (⟨s.tmps, frzN (ps.flatMap (·.2.lv1)) s.nodes⟩ : St).new [d] (.row false (shOf T e) xs) fun s => K (s.put (some d) (.osl [d] (shOf T e) 0 n))
      | none => none
  | _, _ => none
def bytesT (T : Tab) (t : Nat) : Nat := match T t with
  | some i => i.bytes
  | none => 0
def evMakeSlice (T : Tab) (s : St) (d : Option Tmp) (t : Nat) (l c : AVal) (K : St → Option X) : Option X :=
  match d, T t with
  | some d, some ⟨.slice e, _, _, _⟩ => asI l fun l => asI c fun c => match closed s.nodes (zeroT T e) with
      | some z => grd (elemOk T e && Nat.blt d 1000 && fitSh (shOf T e) z) <| grd (decide (0 ≤ l)) (grd (decide (l ≤ c)) (grd (decide (c * bytesT T e ≤ 140737488355328))
          (s.new [d] (.row false (shOf T e) (List.replicate l.toNat z)) fun s => K (s.put (some d) (.osl [d] (shOf T e) 0 l.toNat)))))
      | none => none
  | _, _ => none
def strCV (s : ByteArray) : List CV := s.data.toList.map fun b => .int .u8 b.toNat
def srcOf (ns : Nodes) (a : AVal) (K : Option Nat → List CV → Option X) : Option X :=
  match a with
  | .v (.str s) => K none (strCV s)
  | a => rowOf ns a K
/-- Is what is appended a part of the row itself? -/
def ownSrc (nm : Nm) : AVal → Bool
  | .osl m _ _ _ => nmEq m nm
  | _ => false
def evAppend (T : Tab) (s : St) (d : Option Tmp) (t tx : Nat) (x y : AVal) (K : St → Option X) : Option X :=
  match d, T t with
  | some d, some ⟨.slice e, _, _, _⟩ => grd (srcT T tx y) <| srcOf s.nodes y fun sh' ys => match x with
    | .nil0 _ => grd (shEq sh' (shOf T e) && elemOk T e && Nat.blt d 1000) (grd (decide (ys.length * bytesT T e ≤ 140737488355328))
        (s.new [d] (.row false (shOf T e) ys) fun s => K (s.put (some d) (.osl [d] (shOf T e) 0 ys.length))))
    | .osl nm sh off len => match find nm s.nodes with
      | some (.row false sh0 xs) => bif ownSrc nm y then
          grd (shEq sh' (shOf T e) && shEq sh (shOf T e) && shEq sh0 (shOf T e) && elemOk T e) (grd (decide (off + len + ys.length ≤ xs.length))
            (K ((s.setN nm (.row false (shOf T e) (xs.take (off + len) ++ ys ++ xs.drop (off + len + ys.length)))).put (some d) (.osl nm (shOf T e) off (len + ys.length)))))
        else grd (shEq sh' (shOf T e) && shEq sh (shOf T e) && shEq sh0 (shOf T e) && Nat.beq off 0 && elemOk T e && Nat.blt d 1000) (grd (decide ((len + ys.length) * bytesT T e ≤ 140737488355328))
          ((s.setN nm .dead).new [d] (.row false (shOf T e) (xs.take len ++ ys)) fun s => K (s.put (some d) (.osl [d] (shOf T e) 0 (len + ys.length)))))
      | _ => none
    | _ => none
  | _, _ => none
/-- Zeros, so many, appended to a slice that is nil. -/
def evAppendZ (T : Tab) (s : St) (d : Option Tmp) (t tx : Nat) (x y : AVal) (K : St → Option X) : Option X :=
  match d, T t, T tx, x with
  | some d, some ⟨.slice e, _, _, _⟩, some ⟨.int _, _, _, _⟩, .nil0 _ => asI y fun n => match closed s.nodes (zeroT T e) with
      | some z => grd (elemOk T e && Nat.blt d 1000 && fitSh (shOf T e) z) <| grd (decide (0 ≤ n)) (grd (decide (n * bytesT T e ≤ 140737488355328))
          (s.new [d] (.row false (shOf T e) (List.replicate n.toNat z)) fun s => K (s.put (some d) (.osl [d] (shOf T e) 0 n.toNat))))
      | none => none
  | _, _, _, _ => none
def isIntT (T : Tab) (t : Nat) : Bool := match T t with
  | some ⟨.int _, _, _, _⟩ => true
  | _ => false
def evAppendA (T : Tab) (s : St) (d : Option Tmp) (t tx : Nat) (x y : AVal) (K : St → Option X) : Option X :=
  bif isIntT T tx then evAppendZ T s d t tx x y K else evAppend T s d t tx x y K
def evCopy (T : Tab) (s : St) (t tx : Nat) (x y : AVal) (K : St → AVal → Option X) : Option X :=
  match T t with
  | some ⟨.slice e, _, _, _⟩ => grd (srcT T tx y) <| srcOf s.nodes y fun sh' ys => match x with
    | .osl nm sh off len => match find nm s.nodes with
      | some (.row false sh0 xs) => grd (shEq sh' (shOf T e) && shEq (deSh sh) (shOf T e) && shEq sh0 (shOf T e) && elemOk T e) (grd (decide (off + len ≤ xs.length))
          (let n := min ys.length len; K (s.setN nm (.row false (shOf T e) (xs.take off ++ ys.take n ++ xs.drop (off + n)))) (.v (.int .i64 n))))
      | _ => none
    | .nil0 _ => grd (shEq sh' (shOf T e) && elemOk T e) (K s (.v (.int .i64 0)))
    | _ => none
  | _ => none
/-- A slice's elements become zeros. -/
def evClear (T : Tab) (s : St) (t : Nat) (x : AVal) (K : St → Option X) : Option X :=
  match T t with
  | some ⟨.slice e, _, _, _⟩ => match x with
    | .osl nm sh off len => match find nm s.nodes, closed s.nodes (zeroT T e) with
      | some (.row false sh0 xs), some z => grd (shEq sh (shOf T e) && shEq sh0 (shOf T e) && elemOk T e && fitSh (shOf T e) z) (grd (decide (off + len ≤ xs.length))
          (K (s.setN nm (.row false (shOf T e) (xs.take off ++ List.replicate len z ++ xs.drop (off + len))))))
      | _, _ => none
    | .nil0 _ => K s
    | _ => none
  | _ => none
def evLen (T : Tab) (ns : Nodes) (t : Nat) (x : AVal) (K : AVal → Option X) : Option X :=
  match x with
  | .v (.str s) => grd (isStrT T t) <| K (.v (.int .i64 (s.size : Int)))
  | .v (.slc _ xs) => grd (isSliceT T t) <| K (.v (.int .i64 (xs.length : Int)))
  | .sl _ _ xs => grd (isSliceT T t) <| K (.v (.int .i64 (xs.length : Int)))
  | .nil0 _ => grd (isSliceT T t) <| K (.v (.int .i64 0))
  | .osl nm _ _ len => grd (isSliceT T t && aliveN ns nm) <| K (.v (.int .i64 (len : Int)))
  | _ => none
/-- The capacity of a slice that is nil. -/
def evCap (T : Tab) (t : Nat) (x : AVal) (K : AVal → Option X) : Option X :=
  match x with
  | .nil0 _ => grd (isSliceT T t) <| K (.v (.int .i64 0))
  | _ => none
def evMin (x y : AVal) (K : AVal → Option X) : Option X := match x, y with
  | .v (.int k a), .v (.int _ b) => K (.v (.int k (if b < a then b else a)))
  | _, _ => none
def evMax (x y : AVal) (K : AVal → Option X) : Option X := match x, y with
  | .v (.int k a), .v (.int _ b) => K (.v (.int k (if b > a then b else a)))
  | _, _ => none
def evIndex (T : Tab) (t : Nat) (x i : AVal) (K : AVal → Option X) : Option X :=
  asI i fun i => match T t with
  | some ⟨.arr n e, _, _, _⟩ => (match x with
    | .v c => grd (Nat.beq (sizeT T e) 1 && !isAggT T e) (grd (decide (0 ≤ i)) (grd (decide (i < (n : Int))) (Option.bind (c.cell i.toNat) fun c => typed T e (.v c) K)))
    | _ => none)
  | _ => match x with
    | .v (.str s) => grd (isStrT T t) (grd (decide (0 ≤ i)) (Option.bind s.data[i.toNat]? fun b => K (.v (.int .u8 b.toNat))))
    | _ => none
def evField0 (T : Tab) (t : Nat) (x : AVal) (f : Nat) (K : AVal → Option X) : Option X :=
  match T t with
  | some ⟨.struct fs, _, _, _⟩ => Option.bind fs[f]? fun (off, ft) => match x with
    | .agg cs => grd (Nat.blt 0 (sizeT T ft)) <| bif isAggT T ft then grd (Nat.ble (off + sizeT T ft) cs.length) (K (mkAgg ((cs.drop off).take (sizeT T ft)))) else Option.bind cs[off]? K
    | .v c => grd (Nat.blt 0 (sizeT T ft)) <| bif isAggT T ft then Option.bind (c.part off (sizeT T ft)) fun c => K (.v c) else Option.bind (c.cell off) fun c => K (.v c)
    | _ => none
  | _ => none
def fieldT (T : Tab) (t f : Nat) : Nat := match T t with
  | some ⟨.struct fs, _, _, _⟩ => match fs[f]? with
    | some p => p.2
    | none => 0
  | _ => 0
def evField (T : Tab) (t : Nat) (x : AVal) (f : Nat) (K : AVal → Option X) : Option X := evField0 T t x f fun v => typed T (fieldT T t f) v K
def evFieldAddr (T : Tab) (t : Nat) (x : AVal) (f : Nat) (K : AVal → Option X) : Option X :=
  match T t with
  | some ⟨.struct fs, _, _, _⟩ => Option.bind fs[f]? fun (off, ft) => match x with
    | .ptr nm sz i j => grd (Nat.blt 0 (sizeT T ft)) (K (.ptr nm sz i (j + off)))
    | .bptr sh x j => grd (Nat.blt 0 (sizeT T ft)) (K (.bptr sh x (j + off)))
    | _ => none
  | _ => none
end
end Go.Proofs.YtlaojkheenobaaaDoorS
