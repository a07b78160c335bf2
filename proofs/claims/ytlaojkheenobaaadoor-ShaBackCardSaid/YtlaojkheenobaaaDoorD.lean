/- Functions of the program, as plain Lean functions: each with the proof that the evaluator computes it. (Printed by wip/dec/dec.py.) -/
import Derived.Test.YtlaojkheenobaaaDoorTN
import Derived.Test.YtlaojkheenobaaaDoorTO
import Derived.Test.YtlaojkheenobaaaDoorTR
import Derived.Test.YtlaojkheenobaaaDoorProg
import Derived.Test.YtlaojkheenobaaaDoorChecked
import Derived.Test.YtlaojkheenobaaaDoorHx
namespace Go.Proofs.YtlaojkheenobaaaDoorD
open Go Go.Proofs.YtlaojkheenobaaaDoorS Go.Proofs
set_option linter.unusedVariables false
set_option linter.unusedSimpArgs false
def rows : List (Nat × TI) := [
  (2, ⟨(.int .i64), 1, 8, .v (.int .i64 0)⟩),
  (3, ⟨(.int .i64), 1, 8, .v (.int .i64 0)⟩),
  (4, ⟨.bool, 1, 1, .v (.bool false)⟩),
  (5, ⟨(.int .u8), 1, 1, .v (.int .u8 0)⟩),
  (9, ⟨.str, 1, 16, .v (.str ⟨#[]⟩)⟩),
  (21, ⟨(.int .i32), 1, 4, .v (.int .i32 0)⟩),
  (22, ⟨(.slice 27), 1, 24, .nil0 none⟩),
  (25, ⟨(.arr 32 5), 32, 32, .v (.agg [(.int .u8 0), (.int .u8 0), (.int .u8 0), (.int .u8 0), (.int .u8 0), (.int .u8 0), (.int .u8 0), (.int .u8 0), (.int .u8 0), (.int .u8 0), (.int .u8 0), (.int .u8 0), (.int .u8 0), (.int .u8 0), (.int .u8 0), (.int .u8 0), (.int .u8 0), (.int .u8 0), (.int .u8 0), (.int .u8 0), (.int .u8 0), (.int .u8 0), (.int .u8 0), (.int .u8 0), (.int .u8 0), (.int .u8 0), (.int .u8 0), (.int .u8 0), (.int .u8 0), (.int .u8 0), (.int .u8 0), (.int .u8 0)])⟩),
  (27, ⟨(.slice 5), 1, 24, .nil0 none⟩),
  (29, ⟨(.ptr 58), 1, 8, .v .nilp⟩),
  (36, ⟨(.int .i64), 1, 8, .v (.int .i64 0)⟩),
  (43, ⟨(.int .u64), 1, 8, .v (.int .u64 0)⟩),
  (50, ⟨(.int .u32), 1, 4, .v (.int .u32 0)⟩),
  (51, ⟨(.arr 8 50), 8, 32, .v (.agg [(.int .u32 0), (.int .u32 0), (.int .u32 0), (.int .u32 0), (.int .u32 0), (.int .u32 0), (.int .u32 0), (.int .u32 0)])⟩),
  (52, ⟨(.arr 64 50), 64, 256, .v (.agg [(.int .u32 0), (.int .u32 0), (.int .u32 0), (.int .u32 0), (.int .u32 0), (.int .u32 0), (.int .u32 0), (.int .u32 0), (.int .u32 0), (.int .u32 0), (.int .u32 0), (.int .u32 0), (.int .u32 0), (.int .u32 0), (.int .u32 0), (.int .u32 0), (.int .u32 0), (.int .u32 0), (.int .u32 0), (.int .u32 0), (.int .u32 0), (.int .u32 0), (.int .u32 0), (.int .u32 0), (.int .u32 0), (.int .u32 0), (.int .u32 0), (.int .u32 0), (.int .u32 0), (.int .u32 0), (.int .u32 0), (.int .u32 0), (.int .u32 0), (.int .u32 0), (.int .u32 0), (.int .u32 0), (.int .u32 0), (.int .u32 0), (.int .u32 0), (.int .u32 0), (.int .u32 0), (.int .u32 0), (.int .u32 0), (.int .u32 0), (.int .u32 0), (.int .u32 0), (.int .u32 0), (.int .u32 0), (.int .u32 0), (.int .u32 0), (.int .u32 0), (.int .u32 0), (.int .u32 0), (.int .u32 0), (.int .u32 0), (.int .u32 0), (.int .u32 0), (.int .u32 0), (.int .u32 0), (.int .u32 0), (.int .u32 0), (.int .u32 0), (.int .u32 0), (.int .u32 0)])⟩),
  (54, ⟨(.int .u64), 1, 8, .v (.int .u64 0)⟩),
  (56, ⟨(.arr 64 5), 64, 64, .v (.agg [(.int .u8 0), (.int .u8 0), (.int .u8 0), (.int .u8 0), (.int .u8 0), (.int .u8 0), (.int .u8 0), (.int .u8 0), (.int .u8 0), (.int .u8 0), (.int .u8 0), (.int .u8 0), (.int .u8 0), (.int .u8 0), (.int .u8 0), (.int .u8 0), (.int .u8 0), (.int .u8 0), (.int .u8 0), (.int .u8 0), (.int .u8 0), (.int .u8 0), (.int .u8 0), (.int .u8 0), (.int .u8 0), (.int .u8 0), (.int .u8 0), (.int .u8 0), (.int .u8 0), (.int .u8 0), (.int .u8 0), (.int .u8 0), (.int .u8 0), (.int .u8 0), (.int .u8 0), (.int .u8 0), (.int .u8 0), (.int .u8 0), (.int .u8 0), (.int .u8 0), (.int .u8 0), (.int .u8 0), (.int .u8 0), (.int .u8 0), (.int .u8 0), (.int .u8 0), (.int .u8 0), (.int .u8 0), (.int .u8 0), (.int .u8 0), (.int .u8 0), (.int .u8 0), (.int .u8 0), (.int .u8 0), (.int .u8 0), (.int .u8 0), (.int .u8 0), (.int .u8 0), (.int .u8 0), (.int .u8 0), (.int .u8 0), (.int .u8 0), (.int .u8 0), (.int .u8 0)])⟩),
  (58, ⟨(.struct [(0, 51), (8, 56), (72, 2)]), 73, 104, .v (.agg [(.int .u32 0), (.int .u32 0), (.int .u32 0), (.int .u32 0), (.int .u32 0), (.int .u32 0), (.int .u32 0), (.int .u32 0), (.int .u8 0), (.int .u8 0), (.int .u8 0), (.int .u8 0), (.int .u8 0), (.int .u8 0), (.int .u8 0), (.int .u8 0), (.int .u8 0), (.int .u8 0), (.int .u8 0), (.int .u8 0), (.int .u8 0), (.int .u8 0), (.int .u8 0), (.int .u8 0), (.int .u8 0), (.int .u8 0), (.int .u8 0), (.int .u8 0), (.int .u8 0), (.int .u8 0), (.int .u8 0), (.int .u8 0), (.int .u8 0), (.int .u8 0), (.int .u8 0), (.int .u8 0), (.int .u8 0), (.int .u8 0), (.int .u8 0), (.int .u8 0), (.int .u8 0), (.int .u8 0), (.int .u8 0), (.int .u8 0), (.int .u8 0), (.int .u8 0), (.int .u8 0), (.int .u8 0), (.int .u8 0), (.int .u8 0), (.int .u8 0), (.int .u8 0), (.int .u8 0), (.int .u8 0), (.int .u8 0), (.int .u8 0), (.int .u8 0), (.int .u8 0), (.int .u8 0), (.int .u8 0), (.int .u8 0), (.int .u8 0), (.int .u8 0), (.int .u8 0), (.int .u8 0), (.int .u8 0), (.int .u8 0), (.int .u8 0), (.int .u8 0), (.int .u8 0), (.int .u8 0), (.int .u8 0), (.int .i64 0)])⟩),
  (70, ⟨(.ptr 56), 1, 8, .v .nilp⟩),
  (71, ⟨(.slice 50), 1, 24, .nil0 none⟩)]
set_option maxRecDepth 100000 in
theorem rows_ok : rowsAre Tryd.prog rows = true := by kernel_rfl
def cmps : List Nat := [25]
theorem cmps_ok : cmpsAre Tryd.prog cmps = true := by kernel_rfl
def S : Seat Tryd.prog := ⟨rows, rows_ok, Tryd.checked.mixed, cmps, cmps_ok⟩
def md (g : FuncId) (i : Nat) : Nat := 0
def setRun {X : Type} (e : CV) (j n : Nat) (cs : List CV) (K : CV → Option X) : Option X := match e with
  | .agg ds => grd (Nat.ble (j + n) ds.length) (K (.agg (putRun ds j cs)))
  | _ => none
def setCell {X : Type} (e : CV) (j : Nat) (c : CV) (K : CV → Option X) : Option X := match e with
  | .agg ds => grd (Nat.blt j ds.length) (K (.agg (ds.set j c)))
  | _ => none
abbrev f25_R : Type 1 := (X : Type) → ((List CV) → Option X) → Option X
def f25_out (u : (List CV)) : Out := ⟨(.v (CV.agg u)), []⟩
def f25_cOf (R : f25_R) : FnC := fun X xs ns K => match xs, ns with
  | [], [] => R X (fun u => K (f25_out u)) 
  | _, _ => none
def f25_plan : Nat → Option (List Nat × List Wk)
  | 0 => some ([], [])
  | 1 => some ([0], [])
  | _ => none
def f25_C : Fns := noC
theorem f25_Cok : CsOk Tryd.prog (f25_C) := noC_ok
def f25_cx : Cx := mkCx (tabOf rows) (f25_C) md (cmpIn cmps) f25_plan (f25_Cok)
def f25_T {X : Type} (k : Nat) (K : (List CV) → Option X)   : Option X :=
grd (decide (8 ≤ 8)) <|
grd (decide (8 ≤ (List.length ((List.take 0 [(CV.int .u32 0), (CV.int .u32 0), (CV.int .u32 0), (CV.int .u32 0), (CV.int .u32 0), (CV.int .u32 0), (CV.int .u32 0), (CV.int .u32 0)]) ++ [(CV.int .u32 1779033703), (CV.int .u32 3144134277), (CV.int .u32 1013904242), (CV.int .u32 2773480762), (CV.int .u32 1359893119), (CV.int .u32 2600822924), (CV.int .u32 528734635), (CV.int .u32 1541459225)] ++ (List.drop 8 [(CV.int .u32 0), (CV.int .u32 0), (CV.int .u32 0), (CV.int .u32 0), (CV.int .u32 0), (CV.int .u32 0), (CV.int .u32 0), (CV.int .u32 0)]))))) <|
K ((List.take 8 (List.drop 0 ((List.take 0 [(CV.int .u32 0), (CV.int .u32 0), (CV.int .u32 0), (CV.int .u32 0), (CV.int .u32 0), (CV.int .u32 0), (CV.int .u32 0), (CV.int .u32 0)]) ++ [(CV.int .u32 1779033703), (CV.int .u32 3144134277), (CV.int .u32 1013904242), (CV.int .u32 2773480762), (CV.int .u32 1359893119), (CV.int .u32 2600822924), (CV.int .u32 528734635), (CV.int .u32 1541459225)] ++ (List.drop 8 [(CV.int .u32 0), (CV.int .u32 0), (CV.int .u32 0), (CV.int .u32 0), (CV.int .u32 0), (CV.int .u32 0), (CV.int .u32 0), (CV.int .u32 0)])))))
/-- "outpost/sha.first" -/
def f25_A (k : Nat) : f25_R := fun X K  => f25_T k K  
set_option maxRecDepth 100000 in
theorem f25_ev' {X : Type} (k : Nat) (K : Out → Option X)  : evFnK (f25_cx) [] k Tryd.f25.ntmps Tryd.f25.results.toList (Tryd.f25.body.getD .skip) [] [] K = f25_T k (fun u => K (f25_out u))  := by kernel_rfl
theorem f25_ev {X : Type} (k : Nat) (K : Out → Option X)  : evFnK (f25_cx) [] k Tryd.f25.ntmps Tryd.f25.results.toList (Tryd.f25.body.getD .skip) [] [] K = f25_A k X (fun u => K (f25_out u))  := (f25_ev' k K ).trans rfl
theorem f25_okA (k : Nat) : AnsOk Tryd.prog 25 (f25_cOf (f25_A k)) := by
  intro X xs ns K x h
  unfold f25_cOf at h ⊢
  split at h
  · exact ans_main S (f25_Cok) Tryd.func25 (ent_of Tryd.func25 (by kernel_rfl) rfl) rfl (fun X K => f25_ev k K ) h
  · cases h
/-- "outpost/sha.first" -/
def f25 {X : Type} (k : Nat) (K : (List CV) → Option X)  : Option X := f25_A k X K 
theorem f25_ok (k : Nat) : AnsOk Tryd.prog 25 (f25_cOf (fun X => @f25 X k)) := f25_okA k
abbrev f13_R : Type 1 := (X : Type) → ((List CV) → Option X) → Option X
def f13_out (u : (List CV)) : Out := ⟨(.ptr [2000] 1 0 0), [([2000], (.row false none u))]⟩
def f13_cOf (R : f13_R) : FnC := fun X xs ns K => match xs, ns with
  | [], [] => R X (fun u => K (f13_out u)) 
  | _, _ => none
def f13_plan : Nat → Option (List Nat × List Wk)
  | 0 => some ([], [])
  | 1 => some ([], [])
  | _ => none
def f13_C (R_f25 : f25_R) : Fns := (orC 25 (f25_cOf R_f25) noC)
theorem f13_Cok (R_f25 : f25_R) (hR_f25 : AnsOk Tryd.prog 25 (f25_cOf R_f25)) : CsOk Tryd.prog (f13_C R_f25) := (orC_ok hR_f25 noC_ok)
def f13_cx (R_f25 : f25_R) (hR_f25 : AnsOk Tryd.prog 25 (f25_cOf R_f25)) : Cx := mkCx (tabOf rows) (f13_C R_f25) md (cmpIn cmps) f13_plan (f13_Cok R_f25 hR_f25)
def f13_T {X : Type} (R_f25 : f25_R) (k : Nat) (K : (List CV) → Option X)   : Option X :=
R_f25 _ (fun u1 =>
grd (Nat.beq (List.length u1) 8) <|
grd (Nat.beq (List.length ([] ++ u1 ++ [(CV.int .u8 0), (CV.int .u8 0), (CV.int .u8 0), (CV.int .u8 0), (CV.int .u8 0), (CV.int .u8 0), (CV.int .u8 0), (CV.int .u8 0), (CV.int .u8 0), (CV.int .u8 0), (CV.int .u8 0), (CV.int .u8 0), (CV.int .u8 0), (CV.int .u8 0), (CV.int .u8 0), (CV.int .u8 0), (CV.int .u8 0), (CV.int .u8 0), (CV.int .u8 0), (CV.int .u8 0), (CV.int .u8 0), (CV.int .u8 0), (CV.int .u8 0), (CV.int .u8 0), (CV.int .u8 0), (CV.int .u8 0), (CV.int .u8 0), (CV.int .u8 0), (CV.int .u8 0), (CV.int .u8 0), (CV.int .u8 0), (CV.int .u8 0), (CV.int .u8 0), (CV.int .u8 0), (CV.int .u8 0), (CV.int .u8 0), (CV.int .u8 0), (CV.int .u8 0), (CV.int .u8 0), (CV.int .u8 0), (CV.int .u8 0), (CV.int .u8 0), (CV.int .u8 0), (CV.int .u8 0), (CV.int .u8 0), (CV.int .u8 0), (CV.int .u8 0), (CV.int .u8 0), (CV.int .u8 0), (CV.int .u8 0), (CV.int .u8 0), (CV.int .u8 0), (CV.int .u8 0), (CV.int .u8 0), (CV.int .u8 0), (CV.int .u8 0), (CV.int .u8 0), (CV.int .u8 0), (CV.int .u8 0), (CV.int .u8 0), (CV.int .u8 0), (CV.int .u8 0), (CV.int .u8 0), (CV.int .u8 0), (CV.int .i64 0)])) 73) <|
K (([] ++ u1 ++ [(CV.int .u8 0), (CV.int .u8 0), (CV.int .u8 0), (CV.int .u8 0), (CV.int .u8 0), (CV.int .u8 0), (CV.int .u8 0), (CV.int .u8 0), (CV.int .u8 0), (CV.int .u8 0), (CV.int .u8 0), (CV.int .u8 0), (CV.int .u8 0), (CV.int .u8 0), (CV.int .u8 0), (CV.int .u8 0), (CV.int .u8 0), (CV.int .u8 0), (CV.int .u8 0), (CV.int .u8 0), (CV.int .u8 0), (CV.int .u8 0), (CV.int .u8 0), (CV.int .u8 0), (CV.int .u8 0), (CV.int .u8 0), (CV.int .u8 0), (CV.int .u8 0), (CV.int .u8 0), (CV.int .u8 0), (CV.int .u8 0), (CV.int .u8 0), (CV.int .u8 0), (CV.int .u8 0), (CV.int .u8 0), (CV.int .u8 0), (CV.int .u8 0), (CV.int .u8 0), (CV.int .u8 0), (CV.int .u8 0), (CV.int .u8 0), (CV.int .u8 0), (CV.int .u8 0), (CV.int .u8 0), (CV.int .u8 0), (CV.int .u8 0), (CV.int .u8 0), (CV.int .u8 0), (CV.int .u8 0), (CV.int .u8 0), (CV.int .u8 0), (CV.int .u8 0), (CV.int .u8 0), (CV.int .u8 0), (CV.int .u8 0), (CV.int .u8 0), (CV.int .u8 0), (CV.int .u8 0), (CV.int .u8 0), (CV.int .u8 0), (CV.int .u8 0), (CV.int .u8 0), (CV.int .u8 0), (CV.int .u8 0), (CV.int .i64 0)]))) 
/-- "outpost/sha.New" -/
def f13_A (R_f25 : f25_R) (k : Nat) : f13_R := fun X K  => f13_T R_f25 k K  
set_option maxRecDepth 100000 in
theorem f13_ev' {X : Type} (R_f25 : f25_R) (hR_f25 : AnsOk Tryd.prog 25 (f25_cOf R_f25)) (k : Nat) (K : Out → Option X)  : evFnK (f13_cx R_f25 hR_f25) [] k Tryd.f13.ntmps Tryd.f13.results.toList (Tryd.f13.body.getD .skip) [] [] K = f13_T R_f25 k (fun u => K (f13_out u))  := by kernel_rfl
theorem f13_ev {X : Type} (R_f25 : f25_R) (hR_f25 : AnsOk Tryd.prog 25 (f25_cOf R_f25)) (k : Nat) (K : Out → Option X)  : evFnK (f13_cx R_f25 hR_f25) [] k Tryd.f13.ntmps Tryd.f13.results.toList (Tryd.f13.body.getD .skip) [] [] K = f13_A R_f25 k X (fun u => K (f13_out u))  := (f13_ev' R_f25 hR_f25 k K ).trans rfl
theorem f13_okA (R_f25 : f25_R) (hR_f25 : AnsOk Tryd.prog 25 (f25_cOf R_f25)) (k : Nat) : AnsOk Tryd.prog 13 (f13_cOf (f13_A R_f25 k)) := by
  intro X xs ns K x h
  unfold f13_cOf at h ⊢
  split at h
  · exact ans_main S (f13_Cok R_f25 hR_f25) Tryd.func13 (ent_of Tryd.func13 (by kernel_rfl) rfl) rfl (fun X K => f13_ev R_f25 hR_f25 k K ) h
  · cases h
/-- "outpost/sha.New" -/
def f13 {X : Type} (k : Nat) (K : (List CV) → Option X)  : Option X := f13_A (fun X => @f25 X k) k X K 
theorem f13_ok (k : Nat) : AnsOk Tryd.prog 13 (f13_cOf (fun X => @f13 X k)) := f13_okA (fun X => @f25 X k) (f25_ok k) k
abbrev f34_R : Type 1 := (X : Type) → (Int → Option X) → Int → Int → Option X
def f34_out (u : Int) : Out := ⟨(.v (CV.int .u32 u)), []⟩
def f34_cOf (R : f34_R) : FnC := fun X xs ns K => match xs, ns with
  | [(.v (CV.int .u32 x0)), (.v (CV.int .i64 x1))], [] => R X (fun u => K (f34_out u)) x0 x1
  | _, _ => none
def f34_plan : Nat → Option (List Nat × List Wk)
  | 0 => some ([0, 1], [])
  | 1 => some ([0, 1], [])
  | 2 => some ([0, 5], [])
  | _ => none
def f34_C : Fns := noC
theorem f34_Cok : CsOk Tryd.prog (f34_C) := noC_ok
def f34_cx : Cx := mkCx (tabOf rows) (f34_C) md (cmpIn cmps) f34_plan (f34_Cok)
def f34_T {X : Type} (k : Nat) (K : Int → Option X)  (x0 : Int) (x1 : Int) : Option X :=
grd (decide (0 ≤ (bop .and .u64 (IntKind.wrap .u64 x1) 31))) <|
grd (decide (0 ≤ (IntKind.wrap .u64 (32 - (bop .and .u64 (IntKind.wrap .u64 x1) 31))))) <|
K ((bop .or .u32 (IntKind.wrap .u32 (x0 * 2 ^ (min (Int.toNat (bop .and .u64 (IntKind.wrap .u64 x1) 31)) 32))) (Int.fdiv x0 (2 ^ (min (Int.toNat (IntKind.wrap .u64 (32 - (bop .and .u64 (IntKind.wrap .u64 x1) 31)))) 32)))))
/-- "math/bits.RotateLeft32" -/
def f34_A (k : Nat) : f34_R := fun X K x0 x1 => f34_T k K  x0 x1
set_option maxRecDepth 100000 in
theorem f34_ev' {X : Type} (k : Nat) (K : Out → Option X) (x0 : Int) (x1 : Int) : evFnK (f34_cx) [] k Tryd.f34.ntmps Tryd.f34.results.toList (Tryd.f34.body.getD .skip) [(.v (CV.int .u32 x0)), (.v (CV.int .i64 x1))] [] K = f34_T k (fun u => K (f34_out u)) x0 x1 := by kernel_rfl
theorem f34_ev {X : Type} (k : Nat) (K : Out → Option X) (x0 : Int) (x1 : Int) : evFnK (f34_cx) [] k Tryd.f34.ntmps Tryd.f34.results.toList (Tryd.f34.body.getD .skip) [(.v (CV.int .u32 x0)), (.v (CV.int .i64 x1))] [] K = f34_A k X (fun u => K (f34_out u)) x0 x1 := (f34_ev' k K x0 x1).trans rfl
theorem f34_okA (k : Nat) : AnsOk Tryd.prog 34 (f34_cOf (f34_A k)) := by
  intro X xs ns K x h
  unfold f34_cOf at h ⊢
  split at h
  · exact ans_main S (f34_Cok) Tryd.func34 (ent_of Tryd.func34 (by kernel_rfl) rfl) rfl (fun X K => f34_ev k K _ _) h
  · cases h
/-- "math/bits.RotateLeft32" -/
def f34 {X : Type} (k : Nat) (K : Int → Option X) (x0 : Int) (x1 : Int) : Option X := f34_A k X K x0 x1
theorem f34_ok (k : Nat) : AnsOk Tryd.prog 34 (f34_cOf (fun X => @f34 X k)) := f34_okA k
abbrev f32_R : Type 1 := (X : Type) → (Int → Option X) → Int → Int → Option X
def f32_out (u : Int) : Out := ⟨(.v (CV.int .u32 u)), []⟩
def f32_cOf (R : f32_R) : FnC := fun X xs ns K => match xs, ns with
  | [(.v (CV.int .u32 x0)), (.v (CV.int .i64 x1))], [] => R X (fun u => K (f32_out u)) x0 x1
  | _, _ => none
def f32_plan : Nat → Option (List Nat × List Wk)
  | 0 => some ([0, 1], [])
  | 1 => some ([0, 1], [])
  | _ => none
def f32_C (R_f34 : f34_R) : Fns := (orC 34 (f34_cOf R_f34) noC)
theorem f32_Cok (R_f34 : f34_R) (hR_f34 : AnsOk Tryd.prog 34 (f34_cOf R_f34)) : CsOk Tryd.prog (f32_C R_f34) := (orC_ok hR_f34 noC_ok)
def f32_cx (R_f34 : f34_R) (hR_f34 : AnsOk Tryd.prog 34 (f34_cOf R_f34)) : Cx := mkCx (tabOf rows) (f32_C R_f34) md (cmpIn cmps) f32_plan (f32_Cok R_f34 hR_f34)
def f32_T {X : Type} (R_f34 : f34_R) (k : Nat) (K : Int → Option X)  (x0 : Int) (x1 : Int) : Option X :=
R_f34 _ (fun u1 =>
K (u1)) (x0) ((IntKind.wrap .i64 (0 - x1)))
/-- "outpost/sha.right" -/
def f32_A (R_f34 : f34_R) (k : Nat) : f32_R := fun X K x0 x1 => f32_T R_f34 k K  x0 x1
set_option maxRecDepth 100000 in
theorem f32_ev' {X : Type} (R_f34 : f34_R) (hR_f34 : AnsOk Tryd.prog 34 (f34_cOf R_f34)) (k : Nat) (K : Out → Option X) (x0 : Int) (x1 : Int) : evFnK (f32_cx R_f34 hR_f34) [] k Tryd.f32.ntmps Tryd.f32.results.toList (Tryd.f32.body.getD .skip) [(.v (CV.int .u32 x0)), (.v (CV.int .i64 x1))] [] K = f32_T R_f34 k (fun u => K (f32_out u)) x0 x1 := by kernel_rfl
theorem f32_ev {X : Type} (R_f34 : f34_R) (hR_f34 : AnsOk Tryd.prog 34 (f34_cOf R_f34)) (k : Nat) (K : Out → Option X) (x0 : Int) (x1 : Int) : evFnK (f32_cx R_f34 hR_f34) [] k Tryd.f32.ntmps Tryd.f32.results.toList (Tryd.f32.body.getD .skip) [(.v (CV.int .u32 x0)), (.v (CV.int .i64 x1))] [] K = f32_A R_f34 k X (fun u => K (f32_out u)) x0 x1 := (f32_ev' R_f34 hR_f34 k K x0 x1).trans rfl
theorem f32_okA (R_f34 : f34_R) (hR_f34 : AnsOk Tryd.prog 34 (f34_cOf R_f34)) (k : Nat) : AnsOk Tryd.prog 32 (f32_cOf (f32_A R_f34 k)) := by
  intro X xs ns K x h
  unfold f32_cOf at h ⊢
  split at h
  · exact ans_main S (f32_Cok R_f34 hR_f34) Tryd.func32 (ent_of Tryd.func32 (by kernel_rfl) rfl) rfl (fun X K => f32_ev R_f34 hR_f34 k K _ _) h
  · cases h
/-- "outpost/sha.right" -/
def f32 {X : Type} (k : Nat) (K : Int → Option X) (x0 : Int) (x1 : Int) : Option X := f32_A (fun X => @f34 X k) k X K x0 x1
theorem f32_ok (k : Nat) : AnsOk Tryd.prog 32 (f32_cOf (fun X => @f32 X k)) := f32_okA (fun X => @f34 X k) (f34_ok k) k
abbrev f31_R : Type 1 := (X : Type) → ((List CV) × (List CV) → Option X) → (List CV) → Option X
def f31_out (u : (List CV) × (List CV)) : Out := ⟨(.v (CV.agg u.1)), [([1000], (.row false none u.2))]⟩
def f31_cOf (R : f31_R) : FnC := fun X xs ns K => match xs, ns with
  | [(.ptr [1000] 1 0 8)], [([1000], (.row false none x0))] => R X (fun u => K (f31_out u)) x0
  | _, _ => none
def f31_plan : Nat → Option (List Nat × List Wk)
  | 0 => some ([0], [])
  | 1 => some ([0, 2], [])
  | 2 => some ([0, 2, 3], [])
  | 3 => some ([0, 2, 3, 9], [])
  | 4 => some ([0, 2, 3, 9], [])
  | 5 => some ([0, 2, 3, 4, 9], [])
  | 6 => some ([0, 2, 3, 4, 9], [])
  | 7 => some ([0, 2, 3, 4, 9], [])
  | 8 => some ([0, 2, 3, 4, 5, 6, 9], [])
  | 9 => some ([0, 2, 3, 4, 6, 7, 9], [])
  | 10 => some ([0, 2, 3, 4, 7, 8, 9], [])
  | 11 => some ([0, 2, 3, 9], [])
  | 12 => some ([2, 3], [])
  | _ => none
def f31_C (R_f32 : f32_R) : Fns := (orC 32 (f32_cOf R_f32) noC)
theorem f31_Cok (R_f32 : f32_R) (hR_f32 : AnsOk Tryd.prog 32 (f32_cOf R_f32)) : CsOk Tryd.prog (f31_C R_f32) := (orC_ok hR_f32 noC_ok)
def f31_cx (R_f32 : f32_R) (hR_f32 : AnsOk Tryd.prog 32 (f32_cOf R_f32)) : Cx := mkCx (tabOf rows) (f31_C R_f32) md (cmpIn cmps) f31_plan (f31_Cok R_f32 hR_f32)
def f31_S1 (v : Int × (List CV) × (List CV) × (List CV)) : St := ⟨[(.ptr [1000] 1 0 8), .undef, (.ptr [2] 1 0 0), (.ptr [3] 1 0 0), .undef, .undef, .undef, .undef, .undef, (.v (CV.int .i64 v.1)), .undef, .undef, .undef, .undef, .undef, .undef, .undef, .undef, .undef, .undef, .undef, .undef, .undef, .undef, .undef, .undef, .undef, .undef, .undef, .undef, .undef, .undef, .undef, .undef, .undef, .undef, .undef, .undef, .undef, .undef, .undef, .undef, .undef, .undef, .undef, .undef, .undef, .undef, .undef, .undef, .undef, .undef, .undef, .undef, .undef, .undef, .undef, .undef, .undef, .undef, .undef, .undef, .undef, .undef, .undef, .undef, .undef, .undef, .undef, .undef, .undef, .undef, .undef, .undef, .undef, .undef, .undef, .undef, .undef, .undef, .undef, .undef, .undef, .undef, .undef, .undef, .undef, .undef, .undef, .undef, .undef, .undef, .undef, .undef], [([2], (.row false none v.2.1)), ([3], (.row false none v.2.2.1)), ([1000], (.row false none v.2.2.2))]⟩
def f31_J1 {X : Type} (R_f32 : f32_R) (k : Nat) (K : (List CV) × (List CV) → Option X) (rec1 : Int × (List CV) × (List CV) × (List CV) → Option X) (v5_0 : Int × (List CV) × (List CV) × (List CV)) (v50 : (List CV)) : Option X :=
rec1 ((IntKind.wrap .i64 (v5_0.1 + 1)), v5_0.2.1, v50, v5_0.2.2.2)
def f31_T1 {X : Type} (R_f32 : f32_R) (k : Nat) (K : (List CV) × (List CV) → Option X)   (rec1 : Int × (List CV) × (List CV) × (List CV) → Option X) (v5_0 : Int × (List CV) × (List CV) × (List CV)) : Option X :=
(bif (decide (v5_0.1 < 64)) then
(bif (decide (v5_0.1 < 16)) then
grd (decide (0 ≤ (IntKind.wrap .i64 (4 * v5_0.1)))) <|
grd (decide ((IntKind.wrap .i64 (4 * v5_0.1)) < 64)) <|
Option.bind (v5_0.2.2.2)[(0 + (8 + ((Int.toNat (IntKind.wrap .i64 (4 * v5_0.1))) * 1)))]? fun e55 =>
grd (CV.isI .u8 e55) <|
grd (decide (0 ≤ (IntKind.wrap .i64 ((IntKind.wrap .i64 (4 * v5_0.1)) + 1)))) <|
grd (decide ((IntKind.wrap .i64 ((IntKind.wrap .i64 (4 * v5_0.1)) + 1)) < 64)) <|
Option.bind (v5_0.2.2.2)[(0 + (8 + ((Int.toNat (IntKind.wrap .i64 ((IntKind.wrap .i64 (4 * v5_0.1)) + 1))) * 1)))]? fun e56 =>
grd (CV.isI .u8 e56) <|
grd (decide (0 ≤ (IntKind.wrap .i64 ((IntKind.wrap .i64 (4 * v5_0.1)) + 2)))) <|
grd (decide ((IntKind.wrap .i64 ((IntKind.wrap .i64 (4 * v5_0.1)) + 2)) < 64)) <|
Option.bind (v5_0.2.2.2)[(0 + (8 + ((Int.toNat (IntKind.wrap .i64 ((IntKind.wrap .i64 (4 * v5_0.1)) + 2))) * 1)))]? fun e57 =>
grd (CV.isI .u8 e57) <|
grd (decide (0 ≤ (IntKind.wrap .i64 ((IntKind.wrap .i64 (4 * v5_0.1)) + 3)))) <|
grd (decide ((IntKind.wrap .i64 ((IntKind.wrap .i64 (4 * v5_0.1)) + 3)) < 64)) <|
Option.bind (v5_0.2.2.2)[(0 + (8 + ((Int.toNat (IntKind.wrap .i64 ((IntKind.wrap .i64 (4 * v5_0.1)) + 3))) * 1)))]? fun e58 =>
grd (CV.isI .u8 e58) <|
grd (decide (0 ≤ v5_0.1)) <|
grd (decide (v5_0.1 < 64)) <|
grd (decide ((0 + (0 + ((Int.toNat v5_0.1) * 1))) < (List.length v5_0.2.2.1))) <|
f31_J1 R_f32 k K rec1 v5_0 ((List.set v5_0.2.2.1 (0 + (0 + ((Int.toNat v5_0.1) * 1))) (CV.int .u32 (bop .or .u32 (bop .or .u32 (bop .or .u32 (IntKind.wrap .u32 ((IntKind.wrap .u32 (CV.toI e55)) * 2 ^ 24)) (IntKind.wrap .u32 ((IntKind.wrap .u32 (CV.toI e56)) * 2 ^ 16))) (IntKind.wrap .u32 ((IntKind.wrap .u32 (CV.toI e57)) * 2 ^ 8))) (IntKind.wrap .u32 (CV.toI e58))))))
else
grd (decide (0 ≤ (IntKind.wrap .i64 (v5_0.1 - 15)))) <|
grd (decide ((IntKind.wrap .i64 (v5_0.1 - 15)) < 64)) <|
Option.bind (v5_0.2.2.1)[(0 + (0 + ((Int.toNat (IntKind.wrap .i64 (v5_0.1 - 15))) * 1)))]? fun e59 =>
grd (CV.isI .u32 e59) <|
grd (decide (0 ≤ (IntKind.wrap .i64 (v5_0.1 - 2)))) <|
grd (decide ((IntKind.wrap .i64 (v5_0.1 - 2)) < 64)) <|
Option.bind (v5_0.2.2.1)[(0 + (0 + ((Int.toNat (IntKind.wrap .i64 (v5_0.1 - 2))) * 1)))]? fun e60 =>
grd (CV.isI .u32 e60) <|
R_f32 _ (fun u61 =>
R_f32 _ (fun u62 =>
R_f32 _ (fun u63 =>
R_f32 _ (fun u64 =>
grd (decide (0 ≤ (IntKind.wrap .i64 (v5_0.1 - 16)))) <|
grd (decide ((IntKind.wrap .i64 (v5_0.1 - 16)) < 64)) <|
Option.bind (v5_0.2.2.1)[(0 + (0 + ((Int.toNat (IntKind.wrap .i64 (v5_0.1 - 16))) * 1)))]? fun e65 =>
grd (CV.isI .u32 e65) <|
grd (decide (0 ≤ (IntKind.wrap .i64 (v5_0.1 - 7)))) <|
grd (decide ((IntKind.wrap .i64 (v5_0.1 - 7)) < 64)) <|
Option.bind (v5_0.2.2.1)[(0 + (0 + ((Int.toNat (IntKind.wrap .i64 (v5_0.1 - 7))) * 1)))]? fun e66 =>
grd (CV.isI .u32 e66) <|
grd (decide (0 ≤ v5_0.1)) <|
grd (decide (v5_0.1 < 64)) <|
grd (decide ((0 + (0 + ((Int.toNat v5_0.1) * 1))) < (List.length v5_0.2.2.1))) <|
f31_J1 R_f32 k K rec1 v5_0 ((List.set v5_0.2.2.1 (0 + (0 + ((Int.toNat v5_0.1) * 1))) (CV.int .u32 (IntKind.wrap .u32 ((IntKind.wrap .u32 ((IntKind.wrap .u32 ((CV.toI e65) + (bop .xor .u32 (bop .xor .u32 u61 u62) (Int.fdiv (CV.toI e59) (2 ^ 3))))) + (CV.toI e66))) + (bop .xor .u32 (bop .xor .u32 u63 u64) (Int.fdiv (CV.toI e60) (2 ^ 10))))))))) ((CV.toI e60)) (19)) ((CV.toI e60)) (17)) ((CV.toI e59)) (18)) ((CV.toI e59)) (7))
else
grd (decide (64 ≤ (List.length v5_0.2.2.1))) <|
grd (Nat.beq (List.length (List.take 64 (List.drop 0 v5_0.2.2.1))) 64) <|
grd (decide (64 ≤ (List.length v5_0.2.1))) <|
grd (decide (64 ≤ (List.length ((List.take 0 v5_0.2.1) ++ (List.take 64 (List.drop 0 v5_0.2.2.1)) ++ (List.drop 64 v5_0.2.1))))) <|
K ((List.take 64 (List.drop 0 ((List.take 0 v5_0.2.1) ++ (List.take 64 (List.drop 0 v5_0.2.2.1)) ++ (List.drop 64 v5_0.2.1)))), v5_0.2.2.2))
def f31_L1 {X : Type} (R_f32 : f32_R) (k : Nat) (K : (List CV) × (List CV) → Option X)  (rec1 : Int × (List CV) × (List CV) × (List CV) → Option X) (v : Int × (List CV) × (List CV) × (List CV)) : Option X := f31_T1 R_f32 k K   rec1 v
set_option maxRecDepth 100000 in
theorem f31_L1_ev {X : Type} (R_f32 : f32_R) (hR_f32 : AnsOk Tryd.prog 32 (f32_cOf R_f32)) (k : Nat) (K : Out → Option X)  (r1 : St → Option X) (v : Int × (List CV) × (List CV) × (List CV)) : loopB (f31_cx R_f32 hR_f32) k [.r, .r, .l, .r, .b] (Tryd.f31.body.getD .skip) (retK (f31_cx R_f32 hR_f32) [] Tryd.f31.results.toList K) [] r1 (f31_S1 v) = f31_T1 R_f32 k (fun u => K (f31_out u))   (fun v => r1 (f31_S1 v)) v := by kernel_rfl
theorem f31_L1_it {X : Type} (R_f32 : f32_R) (hR_f32 : AnsOk Tryd.prog 32 (f32_cOf R_f32)) (k : Nat) (K : Out → Option X)  : (fun v => iter (loopB (f31_cx R_f32 hR_f32) k [.r, .r, .l, .r, .b] (Tryd.f31.body.getD .skip) (retK (f31_cx R_f32 hR_f32) [] Tryd.f31.results.toList K) []) k (f31_S1 v)) = iterV (f31_L1 R_f32 k (fun u => K (f31_out u)) ) k :=
  iter_map (fun r1 v => (f31_L1_ev R_f32 hR_f32 k K  r1 v).trans rfl) k
def f31_T {X : Type} (R_f32 : f32_R) (k : Nat) (K : (List CV) × (List CV) → Option X) (loop1 : Int × (List CV) × (List CV) × (List CV) → Option X) (x0 : List CV) : Option X :=
loop1 (0, (List.replicate 64 (CV.int .u32 0)), (List.replicate 64 (CV.int .u32 0)), x0)
/-- "outpost/sha.spread" -/
def f31_A (R_f32 : f32_R) (k : Nat) : f31_R := fun X K x0 => f31_T R_f32 k K (iterV (f31_L1 R_f32 k K) k) x0
set_option maxRecDepth 100000 in
theorem f31_ev' {X : Type} (R_f32 : f32_R) (hR_f32 : AnsOk Tryd.prog 32 (f32_cOf R_f32)) (k : Nat) (K : Out → Option X) (x0 : List CV) : evFnK (f31_cx R_f32 hR_f32) [] k Tryd.f31.ntmps Tryd.f31.results.toList (Tryd.f31.body.getD .skip) [(.ptr [1000] 1 0 8)] [([1000], (.row false none x0))] K = f31_T R_f32 k (fun u => K (f31_out u)) (fun v => iter (loopB (f31_cx R_f32 hR_f32) k [.r, .r, .l, .r, .b] (Tryd.f31.body.getD .skip) (retK (f31_cx R_f32 hR_f32) [] Tryd.f31.results.toList K) []) k (f31_S1 v)) x0 := by kernel_rfl
theorem f31_ev {X : Type} (R_f32 : f32_R) (hR_f32 : AnsOk Tryd.prog 32 (f32_cOf R_f32)) (k : Nat) (K : Out → Option X) (x0 : List CV) : evFnK (f31_cx R_f32 hR_f32) [] k Tryd.f31.ntmps Tryd.f31.results.toList (Tryd.f31.body.getD .skip) [(.ptr [1000] 1 0 8)] [([1000], (.row false none x0))] K = f31_A R_f32 k X (fun u => K (f31_out u)) x0 := (f31_ev' R_f32 hR_f32 k K x0).trans (by rw [f31_L1_it R_f32 hR_f32 k K]; rfl)
theorem f31_okA (R_f32 : f32_R) (hR_f32 : AnsOk Tryd.prog 32 (f32_cOf R_f32)) (k : Nat) : AnsOk Tryd.prog 31 (f31_cOf (f31_A R_f32 k)) := by
  intro X xs ns K x h
  unfold f31_cOf at h ⊢
  split at h
  · exact ans_main S (f31_Cok R_f32 hR_f32) Tryd.func31 (ent_of Tryd.func31 (by kernel_rfl) rfl) rfl (fun X K => f31_ev R_f32 hR_f32 k K _) h
  · cases h
/-- "outpost/sha.spread" -/
def f31 {X : Type} (k : Nat) (K : (List CV) × (List CV) → Option X) (x0 : List CV) : Option X := f31_A (fun X => @f32 X k) k X K x0
theorem f31_ok (k : Nat) : AnsOk Tryd.prog 31 (f31_cOf (fun X => @f31 X k)) := f31_okA (fun X => @f32 X k) (f32_ok k) k
abbrev f26_R : Type 1 := (X : Type) → ((List CV) → Option X) → (List CV) → Option X
def f26_out (u : (List CV)) : Out := ⟨(.tup []), [([1000], (.row false none u))]⟩
def f26_cOf (R : f26_R) : FnC := fun X xs ns K => match xs, ns with
  | [(.ptr [1000] 1 0 0)], [([1000], (.row false none x0))] => R X (fun u => K (f26_out u)) x0
  | _, _ => none
def f26_plan : Nat → Option (List Nat × List Wk)
  | 0 => some ([0], [])
  | 1 => some ([0, 2], [])
  | 2 => some ([0, 2, 3], [])
  | 3 => some ([0, 2, 3, 23], [])
  | 4 => some ([0, 2, 3, 23], [])
  | 5 => some ([0, 2, 3, 4, 23], [])
  | 6 => some ([0, 2, 3, 4, 5, 6, 7, 8, 9, 10, 23], [])
  | 7 => some ([0, 2, 3, 5, 6, 7, 11, 23], [])
  | 8 => some ([0, 2, 3, 11, 12, 23], [])
  | 9 => some ([0, 2, 3, 11, 12, 23], [])
  | 10 => some ([0, 2, 3, 11, 12, 23], [])
  | 11 => some ([0, 2, 3, 23], [])
  | 12 => some ([0, 3], [])
  | 13 => some ([0, 99, 100], [])
  | 14 => some ([0, 99, 100], [])
  | 15 => some ([0, 13, 14, 99, 100], [])
  | 16 => some ([0, 99, 100], [])
  | _ => none
def f26_C (R_f31 : f31_R) (R_f32 : f32_R) : Fns := (orC 31 (f31_cOf R_f31) (orC 32 (f32_cOf R_f32) noC))
theorem f26_Cok (R_f31 : f31_R) (R_f32 : f32_R) (hR_f31 : AnsOk Tryd.prog 31 (f31_cOf R_f31)) (hR_f32 : AnsOk Tryd.prog 32 (f32_cOf R_f32)) : CsOk Tryd.prog (f26_C R_f31 R_f32) := (orC_ok hR_f31 (orC_ok hR_f32 noC_ok))
def f26_cx (R_f31 : f31_R) (R_f32 : f32_R) (hR_f31 : AnsOk Tryd.prog 31 (f31_cOf R_f31)) (hR_f32 : AnsOk Tryd.prog 32 (f32_cOf R_f32)) : Cx := mkCx (tabOf rows) (f26_C R_f31 R_f32) md (cmpIn cmps) f26_plan (f26_Cok R_f31 R_f32 hR_f31 hR_f32)
def f26_S1 (v : Int × (List CV) × (List CV) × (List CV)) : St := ⟨[(.ptr [1000] 1 0 0), .undef, (.ptr [2] 1 0 0), (.ptr [3] 1 0 0), .undef, .undef, .undef, .undef, .undef, .undef, .undef, .undef, .undef, .undef, .undef, .undef, .undef, .undef, .undef, .undef, .undef, .undef, .undef, (.v (CV.int .i64 v.1)), .undef, .undef, .undef, .undef, .undef, .undef, .undef, .undef, .undef, .undef, .undef, .undef, .undef, .undef, .undef, .undef, .undef, .undef, .undef, .undef, .undef, .undef, .undef, .undef, .undef, .undef, .undef, .undef, .undef, .undef, .undef, .undef, .undef, .undef, .undef, .undef, .undef, .undef, .undef, .undef, .undef, .undef, .undef, .undef, .undef, .undef, .undef, .undef, .undef, .undef, .undef, .undef, .undef, .undef, .undef, .undef, .undef, .undef, .undef, .undef, .undef, .undef, .undef, .undef, .undef, .undef, .undef, .undef, .undef, .undef, .undef, .undef, .undef, .undef, .undef, .undef, .undef, .undef, .undef, .undef, .undef, .undef, .undef, .undef, .undef, .undef, .undef, .undef, .undef, .undef, .undef, .undef], [([2], (.row false none v.2.1)), ([3], (.row false none v.2.2.1)), ([1000], (.row false none v.2.2.2))]⟩
def f26_S2 (v : (List CV) × Int × (List CV)) : St := ⟨[(.ptr [1000] 1 0 0), .undef, .undef, .undef, .undef, .undef, .undef, .undef, .undef, .undef, .undef, .undef, .undef, .undef, .undef, .undef, .undef, .undef, .undef, .undef, .undef, .undef, .undef, .undef, .undef, .undef, .undef, .undef, .undef, .undef, .undef, .undef, .undef, .undef, .undef, .undef, .undef, .undef, .undef, .undef, .undef, .undef, .undef, .undef, .undef, .undef, .undef, .undef, .undef, .undef, .undef, .undef, .undef, .undef, .undef, .undef, .undef, .undef, .undef, .undef, .undef, .undef, .undef, .undef, .undef, .undef, .undef, .undef, .undef, .undef, .undef, .undef, .undef, .undef, .undef, .undef, .undef, .undef, .undef, .undef, .undef, .undef, .undef, .undef, .undef, .undef, .undef, .undef, .undef, .undef, .undef, .undef, .undef, .undef, .undef, .undef, .undef, .undef, .undef, (.v (CV.agg v.1)), (.v (CV.int .i64 v.2.1)), .undef, .undef, .undef, .undef, .undef, .undef, .undef, .undef, .undef, .undef, .undef, .undef, .undef, .undef, .undef], [([1000], (.row false none v.2.2))]⟩
def f26_T2 {X : Type} (R_f31 : f31_R) (R_f32 : f32_R) (k : Nat) (K : (List CV) → Option X)   (rec2 : (List CV) × Int × (List CV) → Option X) (v5_66 : (List CV) × Int × (List CV)) : Option X :=
(bif (decide (v5_66.2.1 < 8)) then
grd (decide (0 ≤ v5_66.2.1)) <|
grd (decide (v5_66.2.1 < 8)) <|
Option.bind (v5_66.1[(Int.toNat v5_66.2.1)]?) fun e74 =>
grd (CV.isI .u32 e74) <|
grd (decide (0 ≤ v5_66.2.1)) <|
grd (decide (v5_66.2.1 < 8)) <|
Option.bind (v5_66.2.2)[(0 + (0 + ((Int.toNat v5_66.2.1) * 1)))]? fun e75 =>
grd (CV.isI .u32 e75) <|
grd (decide (0 ≤ v5_66.2.1)) <|
grd (decide (v5_66.2.1 < 8)) <|
grd (decide ((0 + (0 + ((Int.toNat v5_66.2.1) * 1))) < (List.length v5_66.2.2))) <|
rec2 (v5_66.1, (IntKind.wrap .i64 (v5_66.2.1 + 1)), (List.set v5_66.2.2 (0 + (0 + ((Int.toNat v5_66.2.1) * 1))) (CV.int .u32 (IntKind.wrap .u32 ((CV.toI e75) + (CV.toI e74))))))
else
K (v5_66.2.2))
def f26_L2 {X : Type} (R_f31 : f31_R) (R_f32 : f32_R) (k : Nat) (K : (List CV) → Option X)  (rec2 : (List CV) × Int × (List CV) → Option X) (v : (List CV) × Int × (List CV)) : Option X := f26_T2 R_f31 R_f32 k K   rec2 v
set_option maxRecDepth 100000 in
theorem f26_L2_ev {X : Type} (R_f31 : f31_R) (R_f32 : f32_R) (hR_f31 : AnsOk Tryd.prog 31 (f31_cOf R_f31)) (hR_f32 : AnsOk Tryd.prog 32 (f32_cOf R_f32)) (k : Nat) (K : Out → Option X)  (r2 : St → Option X) (v : (List CV) × Int × (List CV)) : loopB (f26_cx R_f31 R_f32 hR_f31 hR_f32) k [.r, .r, .r, .r, .b] (Tryd.f26.body.getD .skip) (retK (f26_cx R_f31 R_f32 hR_f31 hR_f32) [] Tryd.f26.results.toList K) [] r2 (f26_S2 v) = f26_T2 R_f31 R_f32 k (fun u => K (f26_out u))   (fun v => r2 (f26_S2 v)) v := by kernel_rfl
theorem f26_L2_it {X : Type} (R_f31 : f31_R) (R_f32 : f32_R) (hR_f31 : AnsOk Tryd.prog 31 (f31_cOf R_f31)) (hR_f32 : AnsOk Tryd.prog 32 (f32_cOf R_f32)) (k : Nat) (K : Out → Option X)  : (fun v => iter (loopB (f26_cx R_f31 R_f32 hR_f31 hR_f32) k [.r, .r, .r, .r, .b] (Tryd.f26.body.getD .skip) (retK (f26_cx R_f31 R_f32 hR_f31 hR_f32) [] Tryd.f26.results.toList K) []) k (f26_S2 v)) = iterV (f26_L2 R_f31 R_f32 k (fun u => K (f26_out u)) ) k :=
  iter_map (fun r2 v => (f26_L2_ev R_f31 R_f32 hR_f31 hR_f32 k K  r2 v).trans rfl) k
def f26_T1 {X : Type} (R_f31 : f31_R) (R_f32 : f32_R) (k : Nat) (K : (List CV) → Option X)  (loop2 : (List CV) × Int × (List CV) → Option X) (rec1 : Int × (List CV) × (List CV) × (List CV) → Option X) (v5_1 : Int × (List CV) × (List CV) × (List CV)) : Option X :=
(bif (decide (v5_1.1 < 64)) then
Option.bind (v5_1.2.2.1)[0]? fun e51 =>
grd (CV.isI .u32 e51) <|
Option.bind (v5_1.2.2.1)[1]? fun e52 =>
grd (CV.isI .u32 e52) <|
Option.bind (v5_1.2.2.1)[2]? fun e53 =>
grd (CV.isI .u32 e53) <|
Option.bind (v5_1.2.2.1)[4]? fun e54 =>
grd (CV.isI .u32 e54) <|
Option.bind (v5_1.2.2.1)[5]? fun e55 =>
grd (CV.isI .u32 e55) <|
Option.bind (v5_1.2.2.1)[6]? fun e56 =>
grd (CV.isI .u32 e56) <|
Option.bind (v5_1.2.2.1)[7]? fun e57 =>
grd (CV.isI .u32 e57) <|
R_f32 _ (fun u58 =>
R_f32 _ (fun u59 =>
R_f32 _ (fun u60 =>
grd (decide (0 ≤ v5_1.1)) <|
grd (decide (v5_1.1 < 64)) <|
Option.bind (CV.cell (CV.agg tab1) (0 + ((Int.toNat v5_1.1) * 1))) fun c61 =>
grd (CV.isI .u32 c61) <|
grd (decide (0 ≤ v5_1.1)) <|
grd (decide (v5_1.1 < 64)) <|
Option.bind (v5_1.2.1)[(0 + (0 + ((Int.toNat v5_1.1) * 1)))]? fun e62 =>
grd (CV.isI .u32 e62) <|
R_f32 _ (fun u63 =>
R_f32 _ (fun u64 =>
R_f32 _ (fun u65 =>
grd (decide (8 ≤ (List.length v5_1.2.2.1))) <|
grd (decide (8 ≤ (List.length v5_1.2.2.1))) <|
grd (decide (8 ≤ (List.length v5_1.2.2.1))) <|
Option.bind (((List.take 1 v5_1.2.2.1) ++ (List.take (min (List.length (List.take 7 (List.drop 0 v5_1.2.2.1))) 7) (List.take 7 (List.drop 0 v5_1.2.2.1))) ++ (List.drop (1 + (min (List.length (List.take 7 (List.drop 0 v5_1.2.2.1))) 7)) v5_1.2.2.1)))[4]? fun e66 =>
grd (CV.isI .u32 e66) <|
grd (decide (4 < (List.length ((List.take 1 v5_1.2.2.1) ++ (List.take (min (List.length (List.take 7 (List.drop 0 v5_1.2.2.1))) 7) (List.take 7 (List.drop 0 v5_1.2.2.1))) ++ (List.drop (1 + (min (List.length (List.take 7 (List.drop 0 v5_1.2.2.1))) 7)) v5_1.2.2.1))))) <|
grd (decide (0 < (List.length (List.set ((List.take 1 v5_1.2.2.1) ++ (List.take (min (List.length (List.take 7 (List.drop 0 v5_1.2.2.1))) 7) (List.take 7 (List.drop 0 v5_1.2.2.1))) ++ (List.drop (1 + (min (List.length (List.take 7 (List.drop 0 v5_1.2.2.1))) 7)) v5_1.2.2.1)) 4 (CV.int .u32 (IntKind.wrap .u32 ((CV.toI e66) + (IntKind.wrap .u32 ((IntKind.wrap .u32 ((IntKind.wrap .u32 ((IntKind.wrap .u32 ((CV.toI e57) + (bop .xor .u32 (bop .xor .u32 u58 u59) u60))) + (bop .xor .u32 (bop .and .u32 (CV.toI e54) (CV.toI e55)) (bop .and .u32 (bop .xor .u32 4294967295 (CV.toI e54)) (CV.toI e56))))) + (CV.toI c61))) + (CV.toI e62)))))))))) <|
rec1 ((IntKind.wrap .i64 (v5_1.1 + 1)), v5_1.2.1, (List.set (List.set ((List.take 1 v5_1.2.2.1) ++ (List.take (min (List.length (List.take 7 (List.drop 0 v5_1.2.2.1))) 7) (List.take 7 (List.drop 0 v5_1.2.2.1))) ++ (List.drop (1 + (min (List.length (List.take 7 (List.drop 0 v5_1.2.2.1))) 7)) v5_1.2.2.1)) 4 (CV.int .u32 (IntKind.wrap .u32 ((CV.toI e66) + (IntKind.wrap .u32 ((IntKind.wrap .u32 ((IntKind.wrap .u32 ((IntKind.wrap .u32 ((CV.toI e57) + (bop .xor .u32 (bop .xor .u32 u58 u59) u60))) + (bop .xor .u32 (bop .and .u32 (CV.toI e54) (CV.toI e55)) (bop .and .u32 (bop .xor .u32 4294967295 (CV.toI e54)) (CV.toI e56))))) + (CV.toI c61))) + (CV.toI e62))))))) 0 (CV.int .u32 (IntKind.wrap .u32 ((IntKind.wrap .u32 ((IntKind.wrap .u32 ((IntKind.wrap .u32 ((IntKind.wrap .u32 ((CV.toI e57) + (bop .xor .u32 (bop .xor .u32 u58 u59) u60))) + (bop .xor .u32 (bop .and .u32 (CV.toI e54) (CV.toI e55)) (bop .and .u32 (bop .xor .u32 4294967295 (CV.toI e54)) (CV.toI e56))))) + (CV.toI c61))) + (CV.toI e62))) + (IntKind.wrap .u32 ((bop .xor .u32 (bop .xor .u32 u63 u64) u65) + (bop .xor .u32 (bop .xor .u32 (bop .and .u32 (CV.toI e51) (CV.toI e52)) (bop .and .u32 (CV.toI e51) (CV.toI e53))) (bop .and .u32 (CV.toI e52) (CV.toI e53))))))))), v5_1.2.2.2)) ((CV.toI e51)) (22)) ((CV.toI e51)) (13)) ((CV.toI e51)) (2)) ((CV.toI e54)) (25)) ((CV.toI e54)) (11)) ((CV.toI e54)) (6)
else
grd (decide (8 ≤ (List.length v5_1.2.2.1))) <|
loop2 ((List.take 8 (List.drop 0 v5_1.2.2.1)), 0, v5_1.2.2.2))
def f26_L1 {X : Type} (R_f31 : f31_R) (R_f32 : f32_R) (k : Nat) (K : (List CV) → Option X)  (rec1 : Int × (List CV) × (List CV) × (List CV) → Option X) (v : Int × (List CV) × (List CV) × (List CV)) : Option X := f26_T1 R_f31 R_f32 k K  (iterV (f26_L2 R_f31 R_f32 k K ) k) rec1 v
set_option maxRecDepth 100000 in
theorem f26_L1_ev {X : Type} (R_f31 : f31_R) (R_f32 : f32_R) (hR_f31 : AnsOk Tryd.prog 31 (f31_cOf R_f31)) (hR_f32 : AnsOk Tryd.prog 32 (f32_cOf R_f32)) (k : Nat) (K : Out → Option X)  (r1 : St → Option X) (v : Int × (List CV) × (List CV) × (List CV)) : loopB (f26_cx R_f31 R_f32 hR_f31 hR_f32) k [.r, .r, .l, .r, .b] (Tryd.f26.body.getD .skip) (retK (f26_cx R_f31 R_f32 hR_f31 hR_f32) [] Tryd.f26.results.toList K) [] r1 (f26_S1 v) = f26_T1 R_f31 R_f32 k (fun u => K (f26_out u))  (fun v => iter (loopB (f26_cx R_f31 R_f32 hR_f31 hR_f32) k [.r, .r, .r, .r, .b] (Tryd.f26.body.getD .skip) (retK (f26_cx R_f31 R_f32 hR_f31 hR_f32) [] Tryd.f26.results.toList K) []) k (f26_S2 v)) (fun v => r1 (f26_S1 v)) v := by kernel_rfl
theorem f26_L1_it {X : Type} (R_f31 : f31_R) (R_f32 : f32_R) (hR_f31 : AnsOk Tryd.prog 31 (f31_cOf R_f31)) (hR_f32 : AnsOk Tryd.prog 32 (f32_cOf R_f32)) (k : Nat) (K : Out → Option X)  : (fun v => iter (loopB (f26_cx R_f31 R_f32 hR_f31 hR_f32) k [.r, .r, .l, .r, .b] (Tryd.f26.body.getD .skip) (retK (f26_cx R_f31 R_f32 hR_f31 hR_f32) [] Tryd.f26.results.toList K) []) k (f26_S1 v)) = iterV (f26_L1 R_f31 R_f32 k (fun u => K (f26_out u)) ) k :=
  iter_map (fun r1 v => (f26_L1_ev R_f31 R_f32 hR_f31 hR_f32 k K  r1 v).trans (by rw [f26_L2_it R_f31 R_f32 hR_f31 hR_f32 k K ]; rfl)) k
def f26_T {X : Type} (R_f31 : f31_R) (R_f32 : f32_R) (k : Nat) (K : (List CV) → Option X) (loop1 : Int × (List CV) × (List CV) × (List CV) → Option X) (x0 : List CV) : Option X :=
R_f31 _ (fun u1 =>
grd (Nat.beq (List.length u1.1) 64) <|
grd (decide (64 ≤ 64)) <|
grd (decide (8 ≤ (List.length u1.2))) <|
grd (Nat.beq (List.length (List.take 8 (List.drop 0 u1.2))) 8) <|
grd (decide (8 ≤ 8)) <|
loop1 (0, ((List.take 0 (List.replicate 64 (CV.int .u32 0))) ++ u1.1 ++ (List.drop 64 (List.replicate 64 (CV.int .u32 0)))), ((List.take 0 [(CV.int .u32 0), (CV.int .u32 0), (CV.int .u32 0), (CV.int .u32 0), (CV.int .u32 0), (CV.int .u32 0), (CV.int .u32 0), (CV.int .u32 0)]) ++ (List.take 8 (List.drop 0 u1.2)) ++ (List.drop 8 [(CV.int .u32 0), (CV.int .u32 0), (CV.int .u32 0), (CV.int .u32 0), (CV.int .u32 0), (CV.int .u32 0), (CV.int .u32 0), (CV.int .u32 0)])), u1.2)) (x0)
/-- "(*outpost/sha.Hash).turn" -/
def f26_A (R_f31 : f31_R) (R_f32 : f32_R) (k : Nat) : f26_R := fun X K x0 => f26_T R_f31 R_f32 k K (iterV (f26_L1 R_f31 R_f32 k K) k) x0
set_option maxRecDepth 100000 in
theorem f26_ev' {X : Type} (R_f31 : f31_R) (R_f32 : f32_R) (hR_f31 : AnsOk Tryd.prog 31 (f31_cOf R_f31)) (hR_f32 : AnsOk Tryd.prog 32 (f32_cOf R_f32)) (k : Nat) (K : Out → Option X) (x0 : List CV) : evFnK (f26_cx R_f31 R_f32 hR_f31 hR_f32) [] k Tryd.f26.ntmps Tryd.f26.results.toList (Tryd.f26.body.getD .skip) [(.ptr [1000] 1 0 0)] [([1000], (.row false none x0))] K = f26_T R_f31 R_f32 k (fun u => K (f26_out u)) (fun v => iter (loopB (f26_cx R_f31 R_f32 hR_f31 hR_f32) k [.r, .r, .l, .r, .b] (Tryd.f26.body.getD .skip) (retK (f26_cx R_f31 R_f32 hR_f31 hR_f32) [] Tryd.f26.results.toList K) []) k (f26_S1 v)) x0 := by kernel_rfl
theorem f26_ev {X : Type} (R_f31 : f31_R) (R_f32 : f32_R) (hR_f31 : AnsOk Tryd.prog 31 (f31_cOf R_f31)) (hR_f32 : AnsOk Tryd.prog 32 (f32_cOf R_f32)) (k : Nat) (K : Out → Option X) (x0 : List CV) : evFnK (f26_cx R_f31 R_f32 hR_f31 hR_f32) [] k Tryd.f26.ntmps Tryd.f26.results.toList (Tryd.f26.body.getD .skip) [(.ptr [1000] 1 0 0)] [([1000], (.row false none x0))] K = f26_A R_f31 R_f32 k X (fun u => K (f26_out u)) x0 := (f26_ev' R_f31 R_f32 hR_f31 hR_f32 k K x0).trans (by rw [f26_L1_it R_f31 R_f32 hR_f31 hR_f32 k K]; rfl)
theorem f26_okA (R_f31 : f31_R) (R_f32 : f32_R) (hR_f31 : AnsOk Tryd.prog 31 (f31_cOf R_f31)) (hR_f32 : AnsOk Tryd.prog 32 (f32_cOf R_f32)) (k : Nat) : AnsOk Tryd.prog 26 (f26_cOf (f26_A R_f31 R_f32 k)) := by
  intro X xs ns K x h
  unfold f26_cOf at h ⊢
  split at h
  · exact ans_main S (f26_Cok R_f31 R_f32 hR_f31 hR_f32) Tryd.func26 (ent_of Tryd.func26 (by kernel_rfl) rfl) rfl (fun X K => f26_ev R_f31 R_f32 hR_f31 hR_f32 k K _) h
  · cases h
/-- "(*outpost/sha.Hash).turn" -/
def f26 {X : Type} (k : Nat) (K : (List CV) → Option X) (x0 : List CV) : Option X := f26_A (fun X => @f31 X k) (fun X => @f32 X k) k X K x0
theorem f26_ok (k : Nat) : AnsOk Tryd.prog 26 (f26_cOf (fun X => @f26 X k)) := f26_okA (fun X => @f31 X k) (fun X => @f32 X k) (f31_ok k) (f32_ok k) k
abbrev f14_R : Type 1 := (X : Type) → ((List CV) → Option X) → (List CV) → (List CV) → Option X
def f14_out (u : (List CV)) : Out := ⟨(.tup []), [([1000], (.row false none u))]⟩
def f14_cOf (R : f14_R) : FnC := fun X xs ns K => match xs, ns with
  | [(.ptr [1000] 1 0 0), (.sl false none x0)], [([1000], (.row false none x1))] => R X (fun u => K (f14_out u)) x0 x1
  | _, _ => none
def f14_plan : Nat → Option (List Nat × List Wk)
  | 0 => some ([0, 1], [])
  | 1 => some ([0, 1], [])
  | 2 => some ([0, 1, 4], [])
  | 3 => some ([0, 1, 4, 5], [])
  | 4 => some ([0, 1, 4, 5], [])
  | 5 => some ([0, 1, 4, 5], [])
  | 6 => some ([0, 1], [])
  | _ => none
def f14_C (R_f26 : f26_R) : Fns := (orC 26 (f26_cOf R_f26) noC)
theorem f14_Cok (R_f26 : f26_R) (hR_f26 : AnsOk Tryd.prog 26 (f26_cOf R_f26)) : CsOk Tryd.prog (f14_C R_f26) := (orC_ok hR_f26 noC_ok)
def f14_cx (R_f26 : f26_R) (hR_f26 : AnsOk Tryd.prog 26 (f26_cOf R_f26)) : Cx := mkCx (tabOf rows) (f14_C R_f26) md (cmpIn cmps) f14_plan (f14_Cok R_f26 hR_f26)
def f14_S1 (v : (List CV) × (List CV)) : St := ⟨[(.ptr [1000] 1 0 0), (.sl false none v.1), .undef, .undef, .undef, .undef, .undef, .undef, .undef, .undef, .undef, .undef, .undef, .undef, .undef, .undef, .undef, .undef, .undef, .undef, .undef, .undef, .undef, .undef, .undef, .undef, .undef, .undef, .undef, .undef, .undef, .undef, .undef, .undef, .undef, .undef, .undef, .undef], [([1000], (.row false none v.2))]⟩
def f14_T1 {X : Type} (R_f26 : f26_R) (k : Nat) (K : (List CV) → Option X)   (rec1 : (List CV) × (List CV) → Option X) (v1_0 : (List CV) × (List CV)) : Option X :=
(bif (decide ((Nat.cast ((List.length v1_0.1)) : Int) > 0)) then
Option.bind (v1_0.2)[72]? fun e5 =>
grd (CV.isI .i64 e5) <|
grd (decide (0 ≤ (Int.tmod (CV.toI e5) 64))) <|
grd (decide ((Int.tmod (CV.toI e5) 64) ≤ 64)) <|
grd (decide (72 ≤ (List.length v1_0.2))) <|
grd (decide (((8 + (Int.toNat (Int.tmod (CV.toI e5) 64))) + (64 - (Int.toNat (Int.tmod (CV.toI e5) 64)))) ≤ (List.length v1_0.2))) <|
grd (decide ((Nat.cast ((min (List.length v1_0.1) (64 - (Int.toNat (Int.tmod (CV.toI e5) 64))))) : Int) ≤ (Nat.cast ((List.length v1_0.1)) : Int))) <|
grd (decide ((Nat.cast ((List.length v1_0.1)) : Int) ≤ (Nat.cast ((List.length v1_0.1)) : Int))) <|
Option.bind (((List.take (8 + (Int.toNat (Int.tmod (CV.toI e5) 64))) v1_0.2) ++ (List.take (min (List.length v1_0.1) (64 - (Int.toNat (Int.tmod (CV.toI e5) 64)))) v1_0.1) ++ (List.drop ((8 + (Int.toNat (Int.tmod (CV.toI e5) 64))) + (min (List.length v1_0.1) (64 - (Int.toNat (Int.tmod (CV.toI e5) 64))))) v1_0.2)))[72]? fun e6 =>
grd (CV.isI .i64 e6) <|
grd (decide (72 < (List.length ((List.take (8 + (Int.toNat (Int.tmod (CV.toI e5) 64))) v1_0.2) ++ (List.take (min (List.length v1_0.1) (64 - (Int.toNat (Int.tmod (CV.toI e5) 64)))) v1_0.1) ++ (List.drop ((8 + (Int.toNat (Int.tmod (CV.toI e5) 64))) + (min (List.length v1_0.1) (64 - (Int.toNat (Int.tmod (CV.toI e5) 64))))) v1_0.2))))) <|
(bif ((IntKind.wrap .i64 ((Int.tmod (CV.toI e5) 64) + (Nat.cast ((min (List.length v1_0.1) (64 - (Int.toNat (Int.tmod (CV.toI e5) 64))))) : Int))) == 64) then
R_f26 _ (fun u7 =>
rec1 ((List.take ((List.length v1_0.1) - (min (List.length v1_0.1) (64 - (Int.toNat (Int.tmod (CV.toI e5) 64))))) (List.drop (min (List.length v1_0.1) (64 - (Int.toNat (Int.tmod (CV.toI e5) 64)))) v1_0.1)), u7)) ((List.set ((List.take (8 + (Int.toNat (Int.tmod (CV.toI e5) 64))) v1_0.2) ++ (List.take (min (List.length v1_0.1) (64 - (Int.toNat (Int.tmod (CV.toI e5) 64)))) v1_0.1) ++ (List.drop ((8 + (Int.toNat (Int.tmod (CV.toI e5) 64))) + (min (List.length v1_0.1) (64 - (Int.toNat (Int.tmod (CV.toI e5) 64))))) v1_0.2)) 72 (CV.int .i64 (IntKind.wrap .i64 ((CV.toI e6) + (Nat.cast ((min (List.length v1_0.1) (64 - (Int.toNat (Int.tmod (CV.toI e5) 64))))) : Int))))))
else
rec1 ((List.take ((List.length v1_0.1) - (min (List.length v1_0.1) (64 - (Int.toNat (Int.tmod (CV.toI e5) 64))))) (List.drop (min (List.length v1_0.1) (64 - (Int.toNat (Int.tmod (CV.toI e5) 64)))) v1_0.1)), (List.set ((List.take (8 + (Int.toNat (Int.tmod (CV.toI e5) 64))) v1_0.2) ++ (List.take (min (List.length v1_0.1) (64 - (Int.toNat (Int.tmod (CV.toI e5) 64)))) v1_0.1) ++ (List.drop ((8 + (Int.toNat (Int.tmod (CV.toI e5) 64))) + (min (List.length v1_0.1) (64 - (Int.toNat (Int.tmod (CV.toI e5) 64))))) v1_0.2)) 72 (CV.int .i64 (IntKind.wrap .i64 ((CV.toI e6) + (Nat.cast ((min (List.length v1_0.1) (64 - (Int.toNat (Int.tmod (CV.toI e5) 64))))) : Int)))))))
else
K (v1_0.2))
def f14_L1 {X : Type} (R_f26 : f26_R) (k : Nat) (K : (List CV) → Option X)  (rec1 : (List CV) × (List CV) → Option X) (v : (List CV) × (List CV)) : Option X := f14_T1 R_f26 k K   rec1 v
set_option maxRecDepth 100000 in
theorem f14_L1_ev {X : Type} (R_f26 : f26_R) (hR_f26 : AnsOk Tryd.prog 26 (f26_cOf R_f26)) (k : Nat) (K : Out → Option X)  (r1 : St → Option X) (v : (List CV) × (List CV)) : loopB (f14_cx R_f26 hR_f26) k [.b] (Tryd.f14.body.getD .skip) (retK (f14_cx R_f26 hR_f26) [] Tryd.f14.results.toList K) [] r1 (f14_S1 v) = f14_T1 R_f26 k (fun u => K (f14_out u))   (fun v => r1 (f14_S1 v)) v := by kernel_rfl
theorem f14_L1_it {X : Type} (R_f26 : f26_R) (hR_f26 : AnsOk Tryd.prog 26 (f26_cOf R_f26)) (k : Nat) (K : Out → Option X)  : (fun v => iter (loopB (f14_cx R_f26 hR_f26) k [.b] (Tryd.f14.body.getD .skip) (retK (f14_cx R_f26 hR_f26) [] Tryd.f14.results.toList K) []) k (f14_S1 v)) = iterV (f14_L1 R_f26 k (fun u => K (f14_out u)) ) k :=
  iter_map (fun r1 v => (f14_L1_ev R_f26 hR_f26 k K  r1 v).trans rfl) k
def f14_T {X : Type} (R_f26 : f26_R) (k : Nat) (K : (List CV) → Option X) (loop1 : (List CV) × (List CV) → Option X) (x0 : List CV) (x1 : List CV) : Option X :=
loop1 (x0, x1)
/-- "(*outpost/sha.Hash).Write" -/
def f14_A (R_f26 : f26_R) (k : Nat) : f14_R := fun X K x0 x1 => f14_T R_f26 k K (iterV (f14_L1 R_f26 k K) k) x0 x1
set_option maxRecDepth 100000 in
theorem f14_ev' {X : Type} (R_f26 : f26_R) (hR_f26 : AnsOk Tryd.prog 26 (f26_cOf R_f26)) (k : Nat) (K : Out → Option X) (x0 : List CV) (x1 : List CV) : evFnK (f14_cx R_f26 hR_f26) [] k Tryd.f14.ntmps Tryd.f14.results.toList (Tryd.f14.body.getD .skip) [(.ptr [1000] 1 0 0), (.sl false none x0)] [([1000], (.row false none x1))] K = f14_T R_f26 k (fun u => K (f14_out u)) (fun v => iter (loopB (f14_cx R_f26 hR_f26) k [.b] (Tryd.f14.body.getD .skip) (retK (f14_cx R_f26 hR_f26) [] Tryd.f14.results.toList K) []) k (f14_S1 v)) x0 x1 := by kernel_rfl
theorem f14_ev {X : Type} (R_f26 : f26_R) (hR_f26 : AnsOk Tryd.prog 26 (f26_cOf R_f26)) (k : Nat) (K : Out → Option X) (x0 : List CV) (x1 : List CV) : evFnK (f14_cx R_f26 hR_f26) [] k Tryd.f14.ntmps Tryd.f14.results.toList (Tryd.f14.body.getD .skip) [(.ptr [1000] 1 0 0), (.sl false none x0)] [([1000], (.row false none x1))] K = f14_A R_f26 k X (fun u => K (f14_out u)) x0 x1 := (f14_ev' R_f26 hR_f26 k K x0 x1).trans (by rw [f14_L1_it R_f26 hR_f26 k K]; rfl)
theorem f14_okA (R_f26 : f26_R) (hR_f26 : AnsOk Tryd.prog 26 (f26_cOf R_f26)) (k : Nat) : AnsOk Tryd.prog 14 (f14_cOf (f14_A R_f26 k)) := by
  intro X xs ns K x h
  unfold f14_cOf at h ⊢
  split at h
  · exact ans_main S (f14_Cok R_f26 hR_f26) Tryd.func14 (ent_of Tryd.func14 (by kernel_rfl) rfl) rfl (fun X K => f14_ev R_f26 hR_f26 k K _ _) h
  · cases h
/-- "(*outpost/sha.Hash).Write" -/
def f14 {X : Type} (k : Nat) (K : (List CV) → Option X) (x0 : List CV) (x1 : List CV) : Option X := f14_A (fun X => @f26 X k) k X K x0 x1
theorem f14_ok (k : Nat) : AnsOk Tryd.prog 14 (f14_cOf (fun X => @f14 X k)) := f14_okA (fun X => @f26 X k) (f26_ok k) k
abbrev f22_R : Type 1 := (X : Type) → ((List CV) × (List CV) → Option X) → (List CV) → Option X
def f22_out (u : (List CV) × (List CV)) : Out := ⟨(.ptr [2000] 1 0 0), [([1000], (.row false none u.1)), ([2000], (.row false none u.2))]⟩
def f22_cOf (R : f22_R) : FnC := fun X xs ns K => match xs, ns with
  | [(.ptr [1000] 1 0 0)], [([1000], (.row false none x0))] => R X (fun u => K (f22_out u)) x0
  | _, _ => none
def f22_plan : Nat → Option (List Nat × List Wk)
  | 0 => some ([0], [])
  | 1 => some ([0], [])
  | 2 => some ([3], [])
  | _ => none
def f22_C : Fns := noC
theorem f22_Cok : CsOk Tryd.prog (f22_C) := noC_ok
def f22_cx : Cx := mkCx (tabOf rows) (f22_C) md (cmpIn cmps) f22_plan (f22_Cok)
def f22_T {X : Type} (k : Nat) (K : (List CV) × (List CV) → Option X)  (x0 : List CV) : Option X :=
grd (decide (73 ≤ (List.length x0))) <|
grd (Nat.beq (List.length (List.take 73 (List.drop 0 x0))) 73) <|
grd (decide (73 ≤ 73)) <|
K (x0, ((List.take 0 [(CV.int .u32 0), (CV.int .u32 0), (CV.int .u32 0), (CV.int .u32 0), (CV.int .u32 0), (CV.int .u32 0), (CV.int .u32 0), (CV.int .u32 0), (CV.int .u8 0), (CV.int .u8 0), (CV.int .u8 0), (CV.int .u8 0), (CV.int .u8 0), (CV.int .u8 0), (CV.int .u8 0), (CV.int .u8 0), (CV.int .u8 0), (CV.int .u8 0), (CV.int .u8 0), (CV.int .u8 0), (CV.int .u8 0), (CV.int .u8 0), (CV.int .u8 0), (CV.int .u8 0), (CV.int .u8 0), (CV.int .u8 0), (CV.int .u8 0), (CV.int .u8 0), (CV.int .u8 0), (CV.int .u8 0), (CV.int .u8 0), (CV.int .u8 0), (CV.int .u8 0), (CV.int .u8 0), (CV.int .u8 0), (CV.int .u8 0), (CV.int .u8 0), (CV.int .u8 0), (CV.int .u8 0), (CV.int .u8 0), (CV.int .u8 0), (CV.int .u8 0), (CV.int .u8 0), (CV.int .u8 0), (CV.int .u8 0), (CV.int .u8 0), (CV.int .u8 0), (CV.int .u8 0), (CV.int .u8 0), (CV.int .u8 0), (CV.int .u8 0), (CV.int .u8 0), (CV.int .u8 0), (CV.int .u8 0), (CV.int .u8 0), (CV.int .u8 0), (CV.int .u8 0), (CV.int .u8 0), (CV.int .u8 0), (CV.int .u8 0), (CV.int .u8 0), (CV.int .u8 0), (CV.int .u8 0), (CV.int .u8 0), (CV.int .u8 0), (CV.int .u8 0), (CV.int .u8 0), (CV.int .u8 0), (CV.int .u8 0), (CV.int .u8 0), (CV.int .u8 0), (CV.int .u8 0), (CV.int .i64 0)]) ++ (List.take 73 (List.drop 0 x0)) ++ (List.drop 73 [(CV.int .u32 0), (CV.int .u32 0), (CV.int .u32 0), (CV.int .u32 0), (CV.int .u32 0), (CV.int .u32 0), (CV.int .u32 0), (CV.int .u32 0), (CV.int .u8 0), (CV.int .u8 0), (CV.int .u8 0), (CV.int .u8 0), (CV.int .u8 0), (CV.int .u8 0), (CV.int .u8 0), (CV.int .u8 0), (CV.int .u8 0), (CV.int .u8 0), (CV.int .u8 0), (CV.int .u8 0), (CV.int .u8 0), (CV.int .u8 0), (CV.int .u8 0), (CV.int .u8 0), (CV.int .u8 0), (CV.int .u8 0), (CV.int .u8 0), (CV.int .u8 0), (CV.int .u8 0), (CV.int .u8 0), (CV.int .u8 0), (CV.int .u8 0), (CV.int .u8 0), (CV.int .u8 0), (CV.int .u8 0), (CV.int .u8 0), (CV.int .u8 0), (CV.int .u8 0), (CV.int .u8 0), (CV.int .u8 0), (CV.int .u8 0), (CV.int .u8 0), (CV.int .u8 0), (CV.int .u8 0), (CV.int .u8 0), (CV.int .u8 0), (CV.int .u8 0), (CV.int .u8 0), (CV.int .u8 0), (CV.int .u8 0), (CV.int .u8 0), (CV.int .u8 0), (CV.int .u8 0), (CV.int .u8 0), (CV.int .u8 0), (CV.int .u8 0), (CV.int .u8 0), (CV.int .u8 0), (CV.int .u8 0), (CV.int .u8 0), (CV.int .u8 0), (CV.int .u8 0), (CV.int .u8 0), (CV.int .u8 0), (CV.int .u8 0), (CV.int .u8 0), (CV.int .u8 0), (CV.int .u8 0), (CV.int .u8 0), (CV.int .u8 0), (CV.int .u8 0), (CV.int .u8 0), (CV.int .i64 0)])))
/-- "(*outpost/sha.Hash).Clone" -/
def f22_A (k : Nat) : f22_R := fun X K x0 => f22_T k K  x0
set_option maxRecDepth 100000 in
theorem f22_ev' {X : Type} (k : Nat) (K : Out → Option X) (x0 : List CV) : evFnK (f22_cx) [] k Tryd.f22.ntmps Tryd.f22.results.toList (Tryd.f22.body.getD .skip) [(.ptr [1000] 1 0 0)] [([1000], (.row false none x0))] K = f22_T k (fun u => K (f22_out u)) x0 := by kernel_rfl
theorem f22_ev {X : Type} (k : Nat) (K : Out → Option X) (x0 : List CV) : evFnK (f22_cx) [] k Tryd.f22.ntmps Tryd.f22.results.toList (Tryd.f22.body.getD .skip) [(.ptr [1000] 1 0 0)] [([1000], (.row false none x0))] K = f22_A k X (fun u => K (f22_out u)) x0 := (f22_ev' k K x0).trans rfl
theorem f22_okA (k : Nat) : AnsOk Tryd.prog 22 (f22_cOf (f22_A k)) := by
  intro X xs ns K x h
  unfold f22_cOf at h ⊢
  split at h
  · exact ans_main S (f22_Cok) Tryd.func22 (ent_of Tryd.func22 (by kernel_rfl) rfl) rfl (fun X K => f22_ev k K _) h
  · cases h
/-- "(*outpost/sha.Hash).Clone" -/
def f22 {X : Type} (k : Nat) (K : (List CV) × (List CV) → Option X) (x0 : List CV) : Option X := f22_A k X K x0
theorem f22_ok (k : Nat) : AnsOk Tryd.prog 22 (f22_cOf (fun X => @f22 X k)) := f22_okA k
abbrev f27_R : Type 1 := (X : Type) → (Nat × (List CV) × (List CV) → Option X) → (List CV) → Option X
def f27_out (u : Nat × (List CV) × (List CV)) : Out := ⟨(.osl [2000] none 0 u.1), [([1000], (.row false none u.2.1)), ([2000], (.row false none u.2.2))]⟩
def f27_cOf (R : f27_R) : FnC := fun X xs ns K => match xs, ns with
  | [(.ptr [1000] 1 0 0)], [([1000], (.row false none x0))] => R X (fun u => K (f27_out u)) x0
  | _, _ => none
def f27_plan : Nat → Option (List Nat × List Wk)
  | 0 => some ([0], [])
  | 1 => some ([0], [])
  | 2 => some ([0, 3], [])
  | 3 => some ([0, 3], [])
  | 4 => some ([0, 3], [])
  | 5 => some ([0, 3, 4], [])
  | 6 => some ([0, 3, 4], [])
  | 7 => some ([3, 4, 5], [])
  | 8 => some ([3, 4, 5, 27], [])
  | 9 => some ([3, 4, 5, 27], [])
  | 10 => some ([3, 4, 5, 6, 27], [])
  | 11 => some ([3, 4, 5, 27], [])
  | 12 => some ([4], [])
  | _ => none
def f27_C : Fns := noC
theorem f27_Cok : CsOk Tryd.prog (f27_C) := noC_ok
def f27_cx : Cx := mkCx (tabOf rows) (f27_C) md (cmpIn cmps) f27_plan (f27_Cok)
def f27_S1 (v : Int × Nat × Int × Int × (List CV) × (List CV)) : St := ⟨[.undef, .undef, .undef, (.v (CV.int .i64 v.1)), (.osl [4] none 0 v.2.1), (.v (CV.int .u64 v.2.2.1)), .undef, .undef, .undef, .undef, .undef, .undef, .undef, .undef, .undef, .undef, .undef, .undef, .undef, .undef, .undef, .undef, .undef, .undef, .undef, .undef, .undef, (.v (CV.int .i64 v.2.2.2.1)), .undef, .undef, .undef, .undef, .undef, .undef, .undef, .undef, .undef, .undef, .undef, .undef, .undef, .undef, .undef], [([4], (.row false none v.2.2.2.2.1)), ([1000], (.row false none v.2.2.2.2.2))]⟩
def f27_J1 {X : Type} (k : Nat) (K : Nat × (List CV) × (List CV) → Option X) (loop1 : Int × Nat × Int × Int × (List CV) × (List CV) → Option X) (x0 : List CV) (v2 : Int) : Option X :=
grd (decide (0 ≤ v2)) <|
grd (decide (v2 ≤ v2)) <|
grd (decide ((v2 * 1) ≤ 140737488355328)) <|
grd (decide (0 < (Nat.cast ((Int.toNat v2)) : Int))) <|
grd (decide (0 < (List.length (List.replicate (Int.toNat v2) (CV.int .u8 0))))) <|
Option.bind (x0)[72]? fun e3 =>
grd (CV.isI .i64 e3) <|
loop1 (v2, (Int.toNat v2), (IntKind.wrap .u64 ((IntKind.wrap .u64 (CV.toI e3)) * 8)), 0, (List.set (List.replicate (Int.toNat v2) (CV.int .u8 0)) 0 (CV.int .u8 128)), x0)
def f27_T1 {X : Type} (k : Nat) (K : Nat × (List CV) × (List CV) → Option X)   (rec1 : Int × Nat × Int × Int × (List CV) × (List CV) → Option X) (v9_3 : Int × Nat × Int × Int × (List CV) × (List CV)) : Option X :=
(bif (decide (v9_3.2.2.2.1 < 8)) then
grd (decide (0 ≤ (IntKind.wrap .i64 (8 * v9_3.2.2.2.1)))) <|
grd (decide (0 ≤ (IntKind.wrap .i64 ((IntKind.wrap .i64 (v9_3.1 - 1)) - v9_3.2.2.2.1)))) <|
grd (decide ((IntKind.wrap .i64 ((IntKind.wrap .i64 (v9_3.1 - 1)) - v9_3.2.2.2.1)) < (Nat.cast (v9_3.2.1) : Int))) <|
grd (decide (((0 + (Int.toNat (IntKind.wrap .i64 ((IntKind.wrap .i64 (v9_3.1 - 1)) - v9_3.2.2.2.1)))) + 0) < (List.length v9_3.2.2.2.2.1))) <|
rec1 (v9_3.1, v9_3.2.1, v9_3.2.2.1, (IntKind.wrap .i64 (v9_3.2.2.2.1 + 1)), (List.set v9_3.2.2.2.2.1 ((0 + (Int.toNat (IntKind.wrap .i64 ((IntKind.wrap .i64 (v9_3.1 - 1)) - v9_3.2.2.2.1)))) + 0) (CV.int .u8 (IntKind.wrap .u8 (Int.fdiv v9_3.2.2.1 (2 ^ (min (Int.toNat (IntKind.wrap .i64 (8 * v9_3.2.2.2.1))) 64)))))), v9_3.2.2.2.2.2)
else
K (v9_3.2.1, v9_3.2.2.2.2.2, (List.take (0 + v9_3.2.1) v9_3.2.2.2.2.1)))
def f27_L1 {X : Type} (k : Nat) (K : Nat × (List CV) × (List CV) → Option X)  (rec1 : Int × Nat × Int × Int × (List CV) × (List CV) → Option X) (v : Int × Nat × Int × Int × (List CV) × (List CV)) : Option X := f27_T1 k K   rec1 v
set_option maxRecDepth 100000 in
theorem f27_L1_ev {X : Type} (k : Nat) (K : Out → Option X)  (r1 : St → Option X) (v : Int × Nat × Int × Int × (List CV) × (List CV)) : loopB (f27_cx) k [.r, .r, .r, .r, .r, .r, .l, .r, .b] (Tryd.f27.body.getD .skip) (retK (f27_cx) [] Tryd.f27.results.toList K) [] r1 (f27_S1 v) = f27_T1 k (fun u => K (f27_out u))   (fun v => r1 (f27_S1 v)) v := by kernel_rfl
theorem f27_L1_it {X : Type} (k : Nat) (K : Out → Option X)  : (fun v => iter (loopB (f27_cx) k [.r, .r, .r, .r, .r, .r, .l, .r, .b] (Tryd.f27.body.getD .skip) (retK (f27_cx) [] Tryd.f27.results.toList K) []) k (f27_S1 v)) = iterV (f27_L1 k (fun u => K (f27_out u)) ) k :=
  iter_map (fun r1 v => (f27_L1_ev k K  r1 v).trans rfl) k
def f27_T {X : Type} (k : Nat) (K : Nat × (List CV) × (List CV) → Option X) (loop1 : Int × Nat × Int × Int × (List CV) × (List CV) → Option X) (x0 : List CV) : Option X :=
Option.bind (x0)[72]? fun e1 =>
grd (CV.isI .i64 e1) <|
(bif (decide ((IntKind.wrap .i64 (64 - (Int.tmod (CV.toI e1) 64))) < 9)) then
f27_J1 k K loop1 x0 ((IntKind.wrap .i64 ((IntKind.wrap .i64 (64 - (Int.tmod (CV.toI e1) 64))) + 64)))
else
f27_J1 k K loop1 x0 ((IntKind.wrap .i64 (64 - (Int.tmod (CV.toI e1) 64)))))
/-- "(*outpost/sha.Hash).tail" -/
def f27_A (k : Nat) : f27_R := fun X K x0 => f27_T k K (iterV (f27_L1 k K) k) x0
set_option maxRecDepth 100000 in
theorem f27_ev' {X : Type} (k : Nat) (K : Out → Option X) (x0 : List CV) : evFnK (f27_cx) [] k Tryd.f27.ntmps Tryd.f27.results.toList (Tryd.f27.body.getD .skip) [(.ptr [1000] 1 0 0)] [([1000], (.row false none x0))] K = f27_T k (fun u => K (f27_out u)) (fun v => iter (loopB (f27_cx) k [.r, .r, .r, .r, .r, .r, .l, .r, .b] (Tryd.f27.body.getD .skip) (retK (f27_cx) [] Tryd.f27.results.toList K) []) k (f27_S1 v)) x0 := by kernel_rfl
theorem f27_ev {X : Type} (k : Nat) (K : Out → Option X) (x0 : List CV) : evFnK (f27_cx) [] k Tryd.f27.ntmps Tryd.f27.results.toList (Tryd.f27.body.getD .skip) [(.ptr [1000] 1 0 0)] [([1000], (.row false none x0))] K = f27_A k X (fun u => K (f27_out u)) x0 := (f27_ev' k K x0).trans (by rw [f27_L1_it k K]; rfl)
theorem f27_okA (k : Nat) : AnsOk Tryd.prog 27 (f27_cOf (f27_A k)) := by
  intro X xs ns K x h
  unfold f27_cOf at h ⊢
  split at h
  · exact ans_main S (f27_Cok) Tryd.func27 (ent_of Tryd.func27 (by kernel_rfl) rfl) rfl (fun X K => f27_ev k K _) h
  · cases h
/-- "(*outpost/sha.Hash).tail" -/
def f27 {X : Type} (k : Nat) (K : Nat × (List CV) × (List CV) → Option X) (x0 : List CV) : Option X := f27_A k X K x0
theorem f27_ok (k : Nat) : AnsOk Tryd.prog 27 (f27_cOf (fun X => @f27 X k)) := f27_okA k
abbrev f16_R : Type 1 := (X : Type) → ((List CV) × (List CV) → Option X) → (List CV) → Option X
def f16_out (u : (List CV) × (List CV)) : Out := ⟨(.v (CV.agg u.1)), [([1000], (.row false none u.2))]⟩
def f16_cOf (R : f16_R) : FnC := fun X xs ns K => match xs, ns with
  | [(.ptr [1000] 1 0 0)], [([1000], (.row false none x0))] => R X (fun u => K (f16_out u)) x0
  | _, _ => none
def f16_plan : Nat → Option (List Nat × List Wk)
  | 0 => some ([0], [])
  | 1 => some ([0, 2], [])
  | 2 => some ([0, 2, 3], [])
  | 3 => some ([2, 3], [])
  | 4 => some ([2, 3, 4], [])
  | 5 => some ([2, 4, 17, 18], [])
  | 6 => some ([2, 4, 17, 18], [])
  | 7 => some ([2, 4, 5, 6, 17, 18], [])
  | 8 => some ([2, 4, 5, 6, 17, 18, 22], [])
  | 9 => some ([2, 4, 5, 6, 17, 18, 22], [])
  | 10 => some ([2, 4, 5, 6, 7, 17, 18, 22], [])
  | 11 => some ([2, 4, 5, 6, 17, 18, 22], [])
  | 12 => some ([2, 4, 17, 18], [])
  | 13 => some ([2, 4], [])
  | _ => none
def f16_C (R_f22 : f22_R) (R_f27 : f27_R) (R_f14 : f14_R) : Fns := (orC 14 (f14_cOf R_f14) (orC 22 (f22_cOf R_f22) (orC 27 (f27_cOf R_f27) noC)))
theorem f16_Cok (R_f22 : f22_R) (R_f27 : f27_R) (R_f14 : f14_R) (hR_f22 : AnsOk Tryd.prog 22 (f22_cOf R_f22)) (hR_f27 : AnsOk Tryd.prog 27 (f27_cOf R_f27)) (hR_f14 : AnsOk Tryd.prog 14 (f14_cOf R_f14)) : CsOk Tryd.prog (f16_C R_f22 R_f27 R_f14) := (orC_ok hR_f14 (orC_ok hR_f22 (orC_ok hR_f27 noC_ok)))
def f16_cx (R_f22 : f22_R) (R_f27 : f27_R) (R_f14 : f14_R) (hR_f22 : AnsOk Tryd.prog 22 (f22_cOf R_f22)) (hR_f27 : AnsOk Tryd.prog 27 (f27_cOf R_f27)) (hR_f14 : AnsOk Tryd.prog 14 (f14_cOf R_f14)) : Cx := mkCx (tabOf rows) (f16_C R_f22 R_f27 R_f14) md (cmpIn cmps) f16_plan (f16_Cok R_f22 R_f27 R_f14 hR_f22 hR_f27 hR_f14)
def f16_S1 (v : (List CV) × Int × (List CV) × (List CV)) : St := ⟨[.undef, .undef, (.ptr [2] 1 0 0), .undef, (.ptr [4] 1 0 0), .undef, .undef, .undef, .undef, .undef, .undef, .undef, .undef, .undef, .undef, .undef, .undef, (.v (CV.agg v.1)), (.v (CV.int .i64 v.2.1)), .undef, .undef, .undef, .undef, .undef, .undef, .undef, .undef, .undef, .undef, .undef, .undef, .undef, .undef, .undef, .undef, .undef, .undef, .undef, .undef], [([2], (.row false none (List.replicate 32 (CV.int .u8 0)))), ([4], (.row false none v.2.2.1)), ([1000], (.row false none v.2.2.2))]⟩
def f16_S2 (v : Int × Int × (List CV) × Int × Int × (List CV) × (List CV)) : St := ⟨[.undef, .undef, (.ptr [2] 1 0 0), .undef, (.ptr [4] 1 0 0), (.v (CV.int .i64 v.1)), (.v (CV.int .u32 v.2.1)), .undef, .undef, .undef, .undef, .undef, .undef, .undef, .undef, .undef, .undef, (.v (CV.agg v.2.2.1)), (.v (CV.int .i64 v.2.2.2.1)), .undef, .undef, .undef, (.v (CV.int .i64 v.2.2.2.2.1)), .undef, .undef, .undef, .undef, .undef, .undef, .undef, .undef, .undef, .undef, .undef, .undef, .undef, .undef, .undef, .undef], [([2], (.row false none (List.replicate 32 (CV.int .u8 0)))), ([4], (.row false none v.2.2.2.2.2.1)), ([1000], (.row false none v.2.2.2.2.2.2))]⟩
def f16_T2 {X : Type} (R_f22 : f22_R) (R_f27 : f27_R) (R_f14 : f14_R) (k : Nat) (K : (List CV) × (List CV) → Option X) (rec1 : (List CV) × Int × (List CV) × (List CV) → Option X)  (rec2 : Int × Int × (List CV) × Int × Int × (List CV) × (List CV) → Option X) (v15_7 : Int × Int × (List CV) × Int × Int × (List CV) × (List CV)) : Option X :=
(bif (decide (v15_7.2.2.2.2.1 < 4)) then
grd (decide (0 ≤ (IntKind.wrap .i64 (24 - (IntKind.wrap .i64 (8 * v15_7.2.2.2.2.1)))))) <|
grd (decide (0 ≤ (IntKind.wrap .i64 ((IntKind.wrap .i64 (4 * v15_7.1)) + v15_7.2.2.2.2.1)))) <|
grd (decide ((IntKind.wrap .i64 ((IntKind.wrap .i64 (4 * v15_7.1)) + v15_7.2.2.2.2.1)) < 32)) <|
grd (decide ((0 + (0 + ((Int.toNat (IntKind.wrap .i64 ((IntKind.wrap .i64 (4 * v15_7.1)) + v15_7.2.2.2.2.1))) * 1))) < (List.length v15_7.2.2.2.2.2.1))) <|
rec2 (v15_7.1, v15_7.2.1, v15_7.2.2.1, v15_7.2.2.2.1, (IntKind.wrap .i64 (v15_7.2.2.2.2.1 + 1)), (List.set v15_7.2.2.2.2.2.1 (0 + (0 + ((Int.toNat (IntKind.wrap .i64 ((IntKind.wrap .i64 (4 * v15_7.1)) + v15_7.2.2.2.2.1))) * 1))) (CV.int .u8 (IntKind.wrap .u8 (Int.fdiv v15_7.2.1 (2 ^ (min (Int.toNat (IntKind.wrap .i64 (24 - (IntKind.wrap .i64 (8 * v15_7.2.2.2.2.1))))) 32)))))), v15_7.2.2.2.2.2.2)
else
rec1 (v15_7.2.2.1, (IntKind.wrap .i64 (v15_7.2.2.2.1 + 1)), v15_7.2.2.2.2.2.1, v15_7.2.2.2.2.2.2))
def f16_L2 {X : Type} (R_f22 : f22_R) (R_f27 : f27_R) (R_f14 : f14_R) (k : Nat) (K : (List CV) × (List CV) → Option X) (rec1 : (List CV) × Int × (List CV) × (List CV) → Option X) (rec2 : Int × Int × (List CV) × Int × Int × (List CV) × (List CV) → Option X) (v : Int × Int × (List CV) × Int × Int × (List CV) × (List CV)) : Option X := f16_T2 R_f22 R_f27 R_f14 k K rec1  rec2 v
set_option maxRecDepth 100000 in
theorem f16_L2_ev {X : Type} (R_f22 : f22_R) (R_f27 : f27_R) (R_f14 : f14_R) (hR_f22 : AnsOk Tryd.prog 22 (f22_cOf R_f22)) (hR_f27 : AnsOk Tryd.prog 27 (f27_cOf R_f27)) (hR_f14 : AnsOk Tryd.prog 14 (f14_cOf R_f14)) (k : Nat) (K : Out → Option X) (r1 : St → Option X) (r2 : St → Option X) (v : Int × Int × (List CV) × Int × Int × (List CV) × (List CV)) : loopB (f16_cx R_f22 R_f27 R_f14 hR_f22 hR_f27 hR_f14) k [.r, .r, .r, .r, .l, .r, .b, .o, .r, .r, .l, .b, .r, .r, .b] (Tryd.f16.body.getD .skip) (retK (f16_cx R_f22 R_f27 R_f14 hR_f22 hR_f27 hR_f14) [] Tryd.f16.results.toList K) [r1] r2 (f16_S2 v) = f16_T2 R_f22 R_f27 R_f14 k (fun u => K (f16_out u)) (fun v => r1 (f16_S1 v))  (fun v => r2 (f16_S2 v)) v := by kernel_rfl
theorem f16_L2_it {X : Type} (R_f22 : f22_R) (R_f27 : f27_R) (R_f14 : f14_R) (hR_f22 : AnsOk Tryd.prog 22 (f22_cOf R_f22)) (hR_f27 : AnsOk Tryd.prog 27 (f27_cOf R_f27)) (hR_f14 : AnsOk Tryd.prog 14 (f14_cOf R_f14)) (k : Nat) (K : Out → Option X) (r1 : St → Option X) : (fun v => iter (loopB (f16_cx R_f22 R_f27 R_f14 hR_f22 hR_f27 hR_f14) k [.r, .r, .r, .r, .l, .r, .b, .o, .r, .r, .l, .b, .r, .r, .b] (Tryd.f16.body.getD .skip) (retK (f16_cx R_f22 R_f27 R_f14 hR_f22 hR_f27 hR_f14) [] Tryd.f16.results.toList K) [r1]) k (f16_S2 v)) = iterV (f16_L2 R_f22 R_f27 R_f14 k (fun u => K (f16_out u)) (fun v => r1 (f16_S1 v))) k :=
  iter_map (fun r2 v => (f16_L2_ev R_f22 R_f27 R_f14 hR_f22 hR_f27 hR_f14 k K r1 r2 v).trans rfl) k
def f16_T1 {X : Type} (R_f22 : f22_R) (R_f27 : f27_R) (R_f14 : f14_R) (k : Nat) (K : (List CV) × (List CV) → Option X)  (loop2 : Int × Int × (List CV) × Int × Int × (List CV) × (List CV) → Option X) (rec1 : (List CV) × Int × (List CV) × (List CV) → Option X) (v7_3 : (List CV) × Int × (List CV) × (List CV)) : Option X :=
(bif (decide (v7_3.2.1 < 8)) then
grd (decide (0 ≤ v7_3.2.1)) <|
grd (decide (v7_3.2.1 < 8)) <|
Option.bind (v7_3.1[(Int.toNat v7_3.2.1)]?) fun e7 =>
grd (CV.isI .u32 e7) <|
loop2 (v7_3.2.1, (CV.toI e7), v7_3.1, v7_3.2.1, 0, v7_3.2.2.1, v7_3.2.2.2)
else
grd (decide (32 ≤ (List.length v7_3.2.2.1))) <|
grd (Nat.beq (List.length (List.take 32 (List.drop 0 v7_3.2.2.1))) 32) <|
grd (decide (32 ≤ 32)) <|
grd (decide (32 ≤ (List.length ((List.take 0 (List.replicate 32 (CV.int .u8 0))) ++ (List.take 32 (List.drop 0 v7_3.2.2.1)) ++ (List.drop 32 (List.replicate 32 (CV.int .u8 0))))))) <|
K ((List.take 32 (List.drop 0 ((List.take 0 (List.replicate 32 (CV.int .u8 0))) ++ (List.take 32 (List.drop 0 v7_3.2.2.1)) ++ (List.drop 32 (List.replicate 32 (CV.int .u8 0)))))), v7_3.2.2.2))
def f16_L1 {X : Type} (R_f22 : f22_R) (R_f27 : f27_R) (R_f14 : f14_R) (k : Nat) (K : (List CV) × (List CV) → Option X)  (rec1 : (List CV) × Int × (List CV) × (List CV) → Option X) (v : (List CV) × Int × (List CV) × (List CV)) : Option X := f16_T1 R_f22 R_f27 R_f14 k K  (iterV (f16_L2 R_f22 R_f27 R_f14 k K rec1) k) rec1 v
set_option maxRecDepth 100000 in
theorem f16_L1_ev {X : Type} (R_f22 : f22_R) (R_f27 : f27_R) (R_f14 : f14_R) (hR_f22 : AnsOk Tryd.prog 22 (f22_cOf R_f22)) (hR_f27 : AnsOk Tryd.prog 27 (f27_cOf R_f27)) (hR_f14 : AnsOk Tryd.prog 14 (f14_cOf R_f14)) (k : Nat) (K : Out → Option X)  (r1 : St → Option X) (v : (List CV) × Int × (List CV) × (List CV)) : loopB (f16_cx R_f22 R_f27 R_f14 hR_f22 hR_f27 hR_f14) k [.r, .r, .r, .r, .l, .r, .b] (Tryd.f16.body.getD .skip) (retK (f16_cx R_f22 R_f27 R_f14 hR_f22 hR_f27 hR_f14) [] Tryd.f16.results.toList K) [] r1 (f16_S1 v) = f16_T1 R_f22 R_f27 R_f14 k (fun u => K (f16_out u))  (fun v => iter (loopB (f16_cx R_f22 R_f27 R_f14 hR_f22 hR_f27 hR_f14) k [.r, .r, .r, .r, .l, .r, .b, .o, .r, .r, .l, .b, .r, .r, .b] (Tryd.f16.body.getD .skip) (retK (f16_cx R_f22 R_f27 R_f14 hR_f22 hR_f27 hR_f14) [] Tryd.f16.results.toList K) [r1]) k (f16_S2 v)) (fun v => r1 (f16_S1 v)) v := by kernel_rfl
theorem f16_L1_it {X : Type} (R_f22 : f22_R) (R_f27 : f27_R) (R_f14 : f14_R) (hR_f22 : AnsOk Tryd.prog 22 (f22_cOf R_f22)) (hR_f27 : AnsOk Tryd.prog 27 (f27_cOf R_f27)) (hR_f14 : AnsOk Tryd.prog 14 (f14_cOf R_f14)) (k : Nat) (K : Out → Option X)  : (fun v => iter (loopB (f16_cx R_f22 R_f27 R_f14 hR_f22 hR_f27 hR_f14) k [.r, .r, .r, .r, .l, .r, .b] (Tryd.f16.body.getD .skip) (retK (f16_cx R_f22 R_f27 R_f14 hR_f22 hR_f27 hR_f14) [] Tryd.f16.results.toList K) []) k (f16_S1 v)) = iterV (f16_L1 R_f22 R_f27 R_f14 k (fun u => K (f16_out u)) ) k :=
  iter_map (fun r1 v => (f16_L1_ev R_f22 R_f27 R_f14 hR_f22 hR_f27 hR_f14 k K  r1 v).trans (by rw [f16_L2_it R_f22 R_f27 R_f14 hR_f22 hR_f27 hR_f14 k K r1]; rfl)) k
def f16_T {X : Type} (R_f22 : f22_R) (R_f27 : f27_R) (R_f14 : f14_R) (k : Nat) (K : (List CV) × (List CV) → Option X) (loop1 : (List CV) × Int × (List CV) × (List CV) → Option X) (x0 : List CV) : Option X :=
R_f22 _ (fun u1 =>
R_f27 _ (fun u2 =>
R_f14 _ (fun u3 =>
grd (decide (8 ≤ (List.length u3))) <|
loop1 ((List.take 8 (List.drop 0 u3)), 0, (List.replicate 32 (CV.int .u8 0)), u2.2.1)) ((List.take u2.1 (List.drop 0 u2.2.2))) (u1.2)) (u1.1)) (x0)
/-- "(*outpost/sha.Hash).Sum" -/
def f16_A (R_f22 : f22_R) (R_f27 : f27_R) (R_f14 : f14_R) (k : Nat) : f16_R := fun X K x0 => f16_T R_f22 R_f27 R_f14 k K (iterV (f16_L1 R_f22 R_f27 R_f14 k K) k) x0
set_option maxRecDepth 100000 in
theorem f16_ev' {X : Type} (R_f22 : f22_R) (R_f27 : f27_R) (R_f14 : f14_R) (hR_f22 : AnsOk Tryd.prog 22 (f22_cOf R_f22)) (hR_f27 : AnsOk Tryd.prog 27 (f27_cOf R_f27)) (hR_f14 : AnsOk Tryd.prog 14 (f14_cOf R_f14)) (k : Nat) (K : Out → Option X) (x0 : List CV) : evFnK (f16_cx R_f22 R_f27 R_f14 hR_f22 hR_f27 hR_f14) [] k Tryd.f16.ntmps Tryd.f16.results.toList (Tryd.f16.body.getD .skip) [(.ptr [1000] 1 0 0)] [([1000], (.row false none x0))] K = f16_T R_f22 R_f27 R_f14 k (fun u => K (f16_out u)) (fun v => iter (loopB (f16_cx R_f22 R_f27 R_f14 hR_f22 hR_f27 hR_f14) k [.r, .r, .r, .r, .l, .r, .b] (Tryd.f16.body.getD .skip) (retK (f16_cx R_f22 R_f27 R_f14 hR_f22 hR_f27 hR_f14) [] Tryd.f16.results.toList K) []) k (f16_S1 v)) x0 := by kernel_rfl
theorem f16_ev {X : Type} (R_f22 : f22_R) (R_f27 : f27_R) (R_f14 : f14_R) (hR_f22 : AnsOk Tryd.prog 22 (f22_cOf R_f22)) (hR_f27 : AnsOk Tryd.prog 27 (f27_cOf R_f27)) (hR_f14 : AnsOk Tryd.prog 14 (f14_cOf R_f14)) (k : Nat) (K : Out → Option X) (x0 : List CV) : evFnK (f16_cx R_f22 R_f27 R_f14 hR_f22 hR_f27 hR_f14) [] k Tryd.f16.ntmps Tryd.f16.results.toList (Tryd.f16.body.getD .skip) [(.ptr [1000] 1 0 0)] [([1000], (.row false none x0))] K = f16_A R_f22 R_f27 R_f14 k X (fun u => K (f16_out u)) x0 := (f16_ev' R_f22 R_f27 R_f14 hR_f22 hR_f27 hR_f14 k K x0).trans (by rw [f16_L1_it R_f22 R_f27 R_f14 hR_f22 hR_f27 hR_f14 k K]; rfl)
theorem f16_okA (R_f22 : f22_R) (R_f27 : f27_R) (R_f14 : f14_R) (hR_f22 : AnsOk Tryd.prog 22 (f22_cOf R_f22)) (hR_f27 : AnsOk Tryd.prog 27 (f27_cOf R_f27)) (hR_f14 : AnsOk Tryd.prog 14 (f14_cOf R_f14)) (k : Nat) : AnsOk Tryd.prog 16 (f16_cOf (f16_A R_f22 R_f27 R_f14 k)) := by
  intro X xs ns K x h
  unfold f16_cOf at h ⊢
  split at h
  · exact ans_main S (f16_Cok R_f22 R_f27 R_f14 hR_f22 hR_f27 hR_f14) Tryd.func16 (ent_of Tryd.func16 (by kernel_rfl) rfl) rfl (fun X K => f16_ev R_f22 R_f27 R_f14 hR_f22 hR_f27 hR_f14 k K _) h
  · cases h
/-- "(*outpost/sha.Hash).Sum" -/
def f16 {X : Type} (k : Nat) (K : (List CV) × (List CV) → Option X) (x0 : List CV) : Option X := f16_A (fun X => @f22 X k) (fun X => @f27 X k) (fun X => @f14 X k) k X K x0
theorem f16_ok (k : Nat) : AnsOk Tryd.prog 16 (f16_cOf (fun X => @f16 X k)) := f16_okA (fun X => @f22 X k) (fun X => @f27 X k) (fun X => @f14 X k) (f22_ok k) (f27_ok k) (f14_ok k) k
/-- "outpost/sha.Hex" -/
def f20 {X : Type} (k : Nat) (K : ByteArray → Option X) (x0 : List CV) : Option X := grd (Go.Proofs.YtlaojkheenobaaaDoor.okHex x0) (K (Go.Proofs.YtlaojkheenobaaaDoor.hexT x0))
def f20_out (u : ByteArray) : Out := ⟨.v (.str u), []⟩
abbrev f20_R : Type 1 := (X : Type) → (ByteArray → Option X) → List CV → Option X
def f20_cOf (R : f20_R) : FnC := fun X xs ns K => match xs, ns with
  | [.v (.agg x0)], [] => R X (fun u => K (f20_out u)) x0
  | _, _ => none
theorem f20_ok (k : Nat) : AnsOk Tryd.prog 20 (f20_cOf (fun X => @f20 X k)) := by
  intro X xs ns K x h
  unfold f20_cOf at h ⊢
  split at h
  · next x0 =>
    have h : grd (Go.Proofs.YtlaojkheenobaaaDoor.okHex x0) (K (f20_out (Go.Proofs.YtlaojkheenobaaaDoor.hexT x0))) = some x := h
    obtain ⟨h1, h2⟩ := grd_some h
    exact ⟨trivial, _, (Go.Proofs.YtlaojkheenobaaaDoor.hex_fn x0 h1).toX (ent_of Tryd.func20 (by kernel_rfl) rfl), h2, fun Y K' => by show grd _ _ = _; rw [h1]; rfl⟩
  · cases h
abbrev f28_R : Type 1 := (X : Type) → (Int × Bool → Option X) → Int → Option X
def f28_out (u : Int × Bool) : Out := ⟨(.tup [(.v (CV.int .u8 u.1)), (.v (CV.bool u.2))]), []⟩
def f28_cOf (R : f28_R) : FnC := fun X xs ns K => match xs, ns with
  | [(.v (CV.int .i32 x0))], [] => R X (fun u => K (f28_out u)) x0
  | _, _ => none
def f28_plan : Nat → Option (List Nat × List Wk)
  | 0 => some ([0], [])
  | 1 => some ([0], [])
  | 2 => some ([0], [])
  | 3 => some ([0], [])
  | 4 => some ([0], [])
  | 5 => some ([0], [])
  | 6 => some ([0], [])
  | 7 => some ([], [])
  | _ => none
def f28_C : Fns := noC
theorem f28_Cok : CsOk Tryd.prog (f28_C) := noC_ok
def f28_cx : Cx := mkCx (tabOf rows) (f28_C) md (cmpIn cmps) f28_plan (f28_Cok)
def f28_J1 {X : Type} (k : Nat) (K : Int × Bool → Option X)  (v1 : Unit) : Option X :=
K (0, false)
def f28_T {X : Type} (k : Nat) (K : Int × Bool → Option X)  (x0 : Int) : Option X :=
(bif (decide (x0 ≥ 48)) then
(bif (decide (x0 ≤ 57)) then
K ((IntKind.wrap .u8 (IntKind.wrap .i32 (x0 - 48))), true)
else
(bif (decide (x0 ≥ 97)) then
(bif (decide (x0 ≤ 102)) then
K ((IntKind.wrap .u8 ((IntKind.wrap .u8 (IntKind.wrap .i32 (x0 - 97))) + 10)), true)
else
(bif (decide (x0 ≥ 65)) then
(bif (decide (x0 ≤ 70)) then
K ((IntKind.wrap .u8 ((IntKind.wrap .u8 (IntKind.wrap .i32 (x0 - 65))) + 10)), true)
else
f28_J1 k K (()))
else
f28_J1 k K (())))
else
(bif (decide (x0 ≥ 65)) then
(bif (decide (x0 ≤ 70)) then
K ((IntKind.wrap .u8 ((IntKind.wrap .u8 (IntKind.wrap .i32 (x0 - 65))) + 10)), true)
else
f28_J1 k K (()))
else
f28_J1 k K (()))))
else
(bif (decide (x0 ≥ 97)) then
(bif (decide (x0 ≤ 102)) then
K ((IntKind.wrap .u8 ((IntKind.wrap .u8 (IntKind.wrap .i32 (x0 - 97))) + 10)), true)
else
(bif (decide (x0 ≥ 65)) then
(bif (decide (x0 ≤ 70)) then
K ((IntKind.wrap .u8 ((IntKind.wrap .u8 (IntKind.wrap .i32 (x0 - 65))) + 10)), true)
else
f28_J1 k K (()))
else
f28_J1 k K (())))
else
(bif (decide (x0 ≥ 65)) then
(bif (decide (x0 ≤ 70)) then
K ((IntKind.wrap .u8 ((IntKind.wrap .u8 (IntKind.wrap .i32 (x0 - 65))) + 10)), true)
else
f28_J1 k K (()))
else
f28_J1 k K (()))))
/-- "outpost/sha.digit" -/
def f28_A (k : Nat) : f28_R := fun X K x0 => f28_T k K  x0
set_option maxRecDepth 100000 in
theorem f28_ev' {X : Type} (k : Nat) (K : Out → Option X) (x0 : Int) : evFnK (f28_cx) [] k Tryd.f28.ntmps Tryd.f28.results.toList (Tryd.f28.body.getD .skip) [(.v (CV.int .i32 x0))] [] K = f28_T k (fun u => K (f28_out u)) x0 := by kernel_rfl
theorem f28_ev {X : Type} (k : Nat) (K : Out → Option X) (x0 : Int) : evFnK (f28_cx) [] k Tryd.f28.ntmps Tryd.f28.results.toList (Tryd.f28.body.getD .skip) [(.v (CV.int .i32 x0))] [] K = f28_A k X (fun u => K (f28_out u)) x0 := (f28_ev' k K x0).trans rfl
theorem f28_okA (k : Nat) : AnsOk Tryd.prog 28 (f28_cOf (f28_A k)) := by
  intro X xs ns K x h
  unfold f28_cOf at h ⊢
  split at h
  · exact ans_main S (f28_Cok) Tryd.func28 (ent_of Tryd.func28 (by kernel_rfl) rfl) rfl (fun X K => f28_ev k K _) h
  · cases h
/-- "outpost/sha.digit" -/
def f28 {X : Type} (k : Nat) (K : Int × Bool → Option X) (x0 : Int) : Option X := f28_A k X K x0
theorem f28_ok (k : Nat) : AnsOk Tryd.prog 28 (f28_cOf (fun X => @f28 X k)) := f28_okA k
abbrev f18_R : Type 1 := (X : Type) → ((List CV) × Int → Option X) → ByteArray → Option X
def f18_out (u : (List CV) × Int) : Out := ⟨(.tup [(.v (CV.agg u.1)), (.v (CV.int .i64 u.2))]), []⟩
def f18_cOf (R : f18_R) : FnC := fun X xs ns K => match xs, ns with
  | [(.v (CV.str x0))], [] => R X (fun u => K (f18_out u)) x0
  | _, _ => none
def f18_plan : Nat → Option (List Nat × List Wk)
  | 0 => some ([0], [])
  | 1 => some ([0, 2], [])
  | 2 => some ([0, 2, 4], [])
  | 3 => some ([2, 4], [])
  | 4 => some ([0, 2, 4], [])
  | 5 => some ([2, 4, 14], [])
  | 6 => some ([2, 4, 14, 15], [])
  | 7 => some ([2, 4, 5, 6, 14], [])
  | 8 => some ([2, 4, 5, 7, 8, 14], [])
  | 9 => some ([2], [])
  | 10 => some ([2, 4, 5, 7, 14], [])
  | 11 => some ([2, 4], [])
  | _ => none
def f18_C (R_f28 : f28_R) : Fns := (orC 28 (f28_cOf R_f28) noC)
theorem f18_Cok (R_f28 : f28_R) (hR_f28 : AnsOk Tryd.prog 28 (f28_cOf R_f28)) : CsOk Tryd.prog (f18_C R_f28) := (orC_ok hR_f28 noC_ok)
def f18_cx (R_f28 : f28_R) (hR_f28 : AnsOk Tryd.prog 28 (f28_cOf R_f28)) : Cx := mkCx (tabOf rows) (f18_C R_f28) md (cmpIn cmps) f18_plan (f18_Cok R_f28 hR_f28)
def f18_S1 (v : (List CV) × ByteArray × Nat) : St := ⟨[.undef, .undef, (.ptr [2] 1 0 0), .undef, (.ptr [4] 1 0 0), .undef, .undef, .undef, .undef, .undef, .undef, .undef, .undef, .undef, (.ptr [14] 0 0 0), .undef, .undef, .undef, .undef, .undef, .undef, .undef, .undef, .undef, .undef, .undef, .undef, .undef, .undef, .undef, .undef, .undef, .undef, .undef, .undef, .undef, .undef, .undef], [([2], (.row false none (List.replicate 32 (CV.int .u8 0)))), ([4], (.row false none v.1)), ([14], (.iter v.2.1 v.2.2))]⟩
def f18_T1 {X : Type} (R_f28 : f28_R) (k : Nat) (K : (List CV) × Int → Option X)   (rec1 : (List CV) × ByteArray × Nat → Option X) (v6_0 : (List CV) × ByteArray × Nat) : Option X :=
(bif (decide (v6_0.2.2 < ByteArray.size v6_0.2.1)) then
R_f28 _ (fun u4 =>
(bif (!u4.2) then
grd (decide (32 ≤ 32)) <|
grd (decide (32 ≤ (List.length ((List.take 0 (List.replicate 32 (CV.int .u8 0))) ++ (List.replicate 32 (CV.int .u8 0)) ++ (List.drop 32 (List.replicate 32 (CV.int .u8 0))))))) <|
K ((List.take 32 (List.drop 0 ((List.take 0 (List.replicate 32 (CV.int .u8 0))) ++ (List.replicate 32 (CV.int .u8 0)) ++ (List.drop 32 (List.replicate 32 (CV.int .u8 0)))))), 20)
else
grd (decide (0 ≤ (IntKind.wrap .i64 (Int.tdiv (Nat.cast (v6_0.2.2) : Int) 2)))) <|
grd (decide ((IntKind.wrap .i64 (Int.tdiv (Nat.cast (v6_0.2.2) : Int) 2)) < 32)) <|
Option.bind (v6_0.1)[(0 + (0 + ((Int.toNat (IntKind.wrap .i64 (Int.tdiv (Nat.cast (v6_0.2.2) : Int) 2))) * 1)))]? fun e5 =>
grd (CV.isI .u8 e5) <|
grd (decide (0 ≤ (IntKind.wrap .i64 (Int.tdiv (Nat.cast (v6_0.2.2) : Int) 2)))) <|
grd (decide ((IntKind.wrap .i64 (Int.tdiv (Nat.cast (v6_0.2.2) : Int) 2)) < 32)) <|
grd (decide ((0 + (0 + ((Int.toNat (IntKind.wrap .i64 (Int.tdiv (Nat.cast (v6_0.2.2) : Int) 2))) * 1))) < (List.length v6_0.1))) <|
rec1 ((List.set v6_0.1 (0 + (0 + ((Int.toNat (IntKind.wrap .i64 (Int.tdiv (Nat.cast (v6_0.2.2) : Int) 2))) * 1))) (CV.int .u8 (bop .or .u8 (IntKind.wrap .u8 ((CV.toI e5) * 2 ^ 4)) u4.1))), v6_0.2.1, (v6_0.2.2 + (Utf8.decode v6_0.2.1 v6_0.2.2).2)))) ((Nat.cast ((Utf8.decode v6_0.2.1 v6_0.2.2).1) : Int))
else
grd (decide (32 ≤ (List.length v6_0.1))) <|
grd (Nat.beq (List.length (List.take 32 (List.drop 0 v6_0.1))) 32) <|
grd (decide (32 ≤ 32)) <|
grd (decide (32 ≤ (List.length ((List.take 0 (List.replicate 32 (CV.int .u8 0))) ++ (List.take 32 (List.drop 0 v6_0.1)) ++ (List.drop 32 (List.replicate 32 (CV.int .u8 0))))))) <|
K ((List.take 32 (List.drop 0 ((List.take 0 (List.replicate 32 (CV.int .u8 0))) ++ (List.take 32 (List.drop 0 v6_0.1)) ++ (List.drop 32 (List.replicate 32 (CV.int .u8 0)))))), 0))
def f18_L1 {X : Type} (R_f28 : f28_R) (k : Nat) (K : (List CV) × Int → Option X)  (rec1 : (List CV) × ByteArray × Nat → Option X) (v : (List CV) × ByteArray × Nat) : Option X := f18_T1 R_f28 k K   rec1 v
set_option maxRecDepth 100000 in
theorem f18_L1_ev {X : Type} (R_f28 : f28_R) (hR_f28 : AnsOk Tryd.prog 28 (f28_cOf R_f28)) (k : Nat) (K : Out → Option X)  (r1 : St → Option X) (v : (List CV) × ByteArray × Nat) : loopB (f18_cx R_f28 hR_f28) k [.r, .r, .r, .l, .r, .b] (Tryd.f18.body.getD .skip) (retK (f18_cx R_f28 hR_f28) [] Tryd.f18.results.toList K) [] r1 (f18_S1 v) = f18_T1 R_f28 k (fun u => K (f18_out u))   (fun v => r1 (f18_S1 v)) v := by kernel_rfl
theorem f18_L1_it {X : Type} (R_f28 : f28_R) (hR_f28 : AnsOk Tryd.prog 28 (f28_cOf R_f28)) (k : Nat) (K : Out → Option X)  : (fun v => iter (loopB (f18_cx R_f28 hR_f28) k [.r, .r, .r, .l, .r, .b] (Tryd.f18.body.getD .skip) (retK (f18_cx R_f28 hR_f28) [] Tryd.f18.results.toList K) []) k (f18_S1 v)) = iterV (f18_L1 R_f28 k (fun u => K (f18_out u)) ) k :=
  iter_map (fun r1 v => (f18_L1_ev R_f28 hR_f28 k K  r1 v).trans rfl) k
def f18_T {X : Type} (R_f28 : f28_R) (k : Nat) (K : (List CV) × Int → Option X) (loop1 : (List CV) × ByteArray × Nat → Option X) (x0 : ByteArray) : Option X :=
(bif ((Nat.cast ((ByteArray.size x0)) : Int) != 64) then
grd (decide (32 ≤ 32)) <|
grd (Nat.beq (List.length (List.take 32 (List.drop 0 (List.replicate 32 (CV.int .u8 0))))) 32) <|
grd (decide (32 ≤ 32)) <|
grd (decide (32 ≤ (List.length ((List.take 0 (List.replicate 32 (CV.int .u8 0))) ++ (List.take 32 (List.drop 0 (List.replicate 32 (CV.int .u8 0)))) ++ (List.drop 32 (List.replicate 32 (CV.int .u8 0))))))) <|
K ((List.take 32 (List.drop 0 ((List.take 0 (List.replicate 32 (CV.int .u8 0))) ++ (List.take 32 (List.drop 0 (List.replicate 32 (CV.int .u8 0)))) ++ (List.drop 32 (List.replicate 32 (CV.int .u8 0)))))), 20)
else
loop1 ((List.replicate 32 (CV.int .u8 0)), x0, 0))
/-- "outpost/sha.Parse" -/
def f18_A (R_f28 : f28_R) (k : Nat) : f18_R := fun X K x0 => f18_T R_f28 k K (iterV (f18_L1 R_f28 k K) k) x0
set_option maxRecDepth 100000 in
theorem f18_ev' {X : Type} (R_f28 : f28_R) (hR_f28 : AnsOk Tryd.prog 28 (f28_cOf R_f28)) (k : Nat) (K : Out → Option X) (x0 : ByteArray) : evFnK (f18_cx R_f28 hR_f28) [] k Tryd.f18.ntmps Tryd.f18.results.toList (Tryd.f18.body.getD .skip) [(.v (CV.str x0))] [] K = f18_T R_f28 k (fun u => K (f18_out u)) (fun v => iter (loopB (f18_cx R_f28 hR_f28) k [.r, .r, .r, .l, .r, .b] (Tryd.f18.body.getD .skip) (retK (f18_cx R_f28 hR_f28) [] Tryd.f18.results.toList K) []) k (f18_S1 v)) x0 := by kernel_rfl
theorem f18_ev {X : Type} (R_f28 : f28_R) (hR_f28 : AnsOk Tryd.prog 28 (f28_cOf R_f28)) (k : Nat) (K : Out → Option X) (x0 : ByteArray) : evFnK (f18_cx R_f28 hR_f28) [] k Tryd.f18.ntmps Tryd.f18.results.toList (Tryd.f18.body.getD .skip) [(.v (CV.str x0))] [] K = f18_A R_f28 k X (fun u => K (f18_out u)) x0 := (f18_ev' R_f28 hR_f28 k K x0).trans (by rw [f18_L1_it R_f28 hR_f28 k K]; rfl)
theorem f18_okA (R_f28 : f28_R) (hR_f28 : AnsOk Tryd.prog 28 (f28_cOf R_f28)) (k : Nat) : AnsOk Tryd.prog 18 (f18_cOf (f18_A R_f28 k)) := by
  intro X xs ns K x h
  unfold f18_cOf at h ⊢
  split at h
  · exact ans_main S (f18_Cok R_f28 hR_f28) Tryd.func18 (ent_of Tryd.func18 (by kernel_rfl) rfl) rfl (fun X K => f18_ev R_f28 hR_f28 k K _) h
  · cases h
/-- "outpost/sha.Parse" -/
def f18 {X : Type} (k : Nat) (K : (List CV) × Int → Option X) (x0 : ByteArray) : Option X := f18_A (fun X => @f28 X k) k X K x0
theorem f18_ok (k : Nat) : AnsOk Tryd.prog 18 (f18_cOf (fun X => @f18 X k)) := f18_okA (fun X => @f28 X k) (f28_ok k) k
abbrev f15_R : Type 1 := (X : Type) → ((List CV) → Option X) → (List CV) → Option X
def f15_out (u : (List CV)) : Out := ⟨(.v (CV.agg u)), []⟩
def f15_cOf (R : f15_R) : FnC := fun X xs ns K => match xs, ns with
  | [(.sl false none x0)], [] => R X (fun u => K (f15_out u)) x0
  | _, _ => none
def f15_plan : Nat → Option (List Nat × List Wk)
  | 0 => some ([0], [])
  | 1 => some ([0, 2], [])
  | 2 => some ([0, 2, 3], [])
  | 3 => some ([2, 3, 7, 8, 9], [])
  | 4 => some ([2, 3, 7, 8, 9], [])
  | 5 => some ([2, 3, 5, 7, 8, 9], [])
  | 6 => some ([2, 3, 7, 8, 9], [])
  | 7 => some ([2, 3], [])
  | _ => none
def f15_C (R_f13 : f13_R) (R_f14 : f14_R) (R_f16 : f16_R) : Fns := (orC 13 (f13_cOf R_f13) (orC 14 (f14_cOf R_f14) (orC 16 (f16_cOf R_f16) noC)))
theorem f15_Cok (R_f13 : f13_R) (R_f14 : f14_R) (R_f16 : f16_R) (hR_f13 : AnsOk Tryd.prog 13 (f13_cOf R_f13)) (hR_f14 : AnsOk Tryd.prog 14 (f14_cOf R_f14)) (hR_f16 : AnsOk Tryd.prog 16 (f16_cOf R_f16)) : CsOk Tryd.prog (f15_C R_f13 R_f14 R_f16) := (orC_ok hR_f13 (orC_ok hR_f14 (orC_ok hR_f16 noC_ok)))
def f15_cx (R_f13 : f13_R) (R_f14 : f14_R) (R_f16 : f16_R) (hR_f13 : AnsOk Tryd.prog 13 (f13_cOf R_f13)) (hR_f14 : AnsOk Tryd.prog 14 (f14_cOf R_f14)) (hR_f16 : AnsOk Tryd.prog 16 (f16_cOf R_f16)) : Cx := mkCx (tabOf rows) (f15_C R_f13 R_f14 R_f16) md (cmpIn cmps) f15_plan (f15_Cok R_f13 R_f14 R_f16 hR_f13 hR_f14 hR_f16)
def f15_S1 (v : (List CV) × Int × Int × (List CV)) : St := ⟨[.undef, .undef, (.ptr [2] 1 0 0), (.ptr [6] 1 0 0), .undef, .undef, .undef, (.sl false none v.1), (.v (CV.int .i64 v.2.1)), (.v (CV.int .i64 v.2.2.1)), .undef, .undef, .undef, .undef, .undef, .undef, .undef, .undef, .undef], [([2], (.row false none (List.replicate 32 (CV.int .u8 0)))), ([6], (.row false none v.2.2.2))]⟩
def f15_T1 {X : Type} (R_f13 : f13_R) (R_f14 : f14_R) (R_f16 : f16_R) (k : Nat) (K : (List CV) → Option X)   (rec1 : (List CV) × Int × Int × (List CV) → Option X) (v5_1 : (List CV) × Int × Int × (List CV)) : Option X :=
(bif (decide (v5_1.2.2.1 < v5_1.2.1)) then
grd (decide (0 ≤ v5_1.2.2.1)) <|
Option.bind (v5_1.1)[(Int.toNat v5_1.2.2.1)]? fun e9 =>
grd (CV.isL none e9) <|
R_f14 _ (fun u10 =>
rec1 (v5_1.1, v5_1.2.1, (IntKind.wrap .i64 (v5_1.2.2.1 + 1)), u10)) ((CV.toL e9)) (v5_1.2.2.2)
else
R_f16 _ (fun u11 =>
grd (Nat.beq (List.length u11.1) 32) <|
grd (decide (32 ≤ 32)) <|
grd (decide (32 ≤ (List.length ((List.take 0 (List.replicate 32 (CV.int .u8 0))) ++ u11.1 ++ (List.drop 32 (List.replicate 32 (CV.int .u8 0))))))) <|
K ((List.take 32 (List.drop 0 ((List.take 0 (List.replicate 32 (CV.int .u8 0))) ++ u11.1 ++ (List.drop 32 (List.replicate 32 (CV.int .u8 0)))))))) (v5_1.2.2.2))
def f15_L1 {X : Type} (R_f13 : f13_R) (R_f14 : f14_R) (R_f16 : f16_R) (k : Nat) (K : (List CV) → Option X)  (rec1 : (List CV) × Int × Int × (List CV) → Option X) (v : (List CV) × Int × Int × (List CV)) : Option X := f15_T1 R_f13 R_f14 R_f16 k K   rec1 v
set_option maxRecDepth 100000 in
theorem f15_L1_ev {X : Type} (R_f13 : f13_R) (R_f14 : f14_R) (R_f16 : f16_R) (hR_f13 : AnsOk Tryd.prog 13 (f13_cOf R_f13)) (hR_f14 : AnsOk Tryd.prog 14 (f14_cOf R_f14)) (hR_f16 : AnsOk Tryd.prog 16 (f16_cOf R_f16)) (k : Nat) (K : Out → Option X)  (r1 : St → Option X) (v : (List CV) × Int × Int × (List CV)) : loopB (f15_cx R_f13 R_f14 R_f16 hR_f13 hR_f14 hR_f16) k [.r, .r, .l, .r, .b] (Tryd.f15.body.getD .skip) (retK (f15_cx R_f13 R_f14 R_f16 hR_f13 hR_f14 hR_f16) [] Tryd.f15.results.toList K) [] r1 (f15_S1 v) = f15_T1 R_f13 R_f14 R_f16 k (fun u => K (f15_out u))   (fun v => r1 (f15_S1 v)) v := by kernel_rfl
theorem f15_L1_it {X : Type} (R_f13 : f13_R) (R_f14 : f14_R) (R_f16 : f16_R) (hR_f13 : AnsOk Tryd.prog 13 (f13_cOf R_f13)) (hR_f14 : AnsOk Tryd.prog 14 (f14_cOf R_f14)) (hR_f16 : AnsOk Tryd.prog 16 (f16_cOf R_f16)) (k : Nat) (K : Out → Option X)  : (fun v => iter (loopB (f15_cx R_f13 R_f14 R_f16 hR_f13 hR_f14 hR_f16) k [.r, .r, .l, .r, .b] (Tryd.f15.body.getD .skip) (retK (f15_cx R_f13 R_f14 R_f16 hR_f13 hR_f14 hR_f16) [] Tryd.f15.results.toList K) []) k (f15_S1 v)) = iterV (f15_L1 R_f13 R_f14 R_f16 k (fun u => K (f15_out u)) ) k :=
  iter_map (fun r1 v => (f15_L1_ev R_f13 R_f14 R_f16 hR_f13 hR_f14 hR_f16 k K  r1 v).trans rfl) k
def f15_T {X : Type} (R_f13 : f13_R) (R_f14 : f14_R) (R_f16 : f16_R) (k : Nat) (K : (List CV) → Option X) (loop1 : (List CV) × Int × Int × (List CV) → Option X) (x0 : List CV) : Option X :=
R_f13 _ (fun u1 =>
loop1 (x0, (Nat.cast ((List.length x0)) : Int), 0, u1)) 
/-- "outpost/sha.Sum" -/
def f15_A (R_f13 : f13_R) (R_f14 : f14_R) (R_f16 : f16_R) (k : Nat) : f15_R := fun X K x0 => f15_T R_f13 R_f14 R_f16 k K (iterV (f15_L1 R_f13 R_f14 R_f16 k K) k) x0
set_option maxRecDepth 100000 in
theorem f15_ev' {X : Type} (R_f13 : f13_R) (R_f14 : f14_R) (R_f16 : f16_R) (hR_f13 : AnsOk Tryd.prog 13 (f13_cOf R_f13)) (hR_f14 : AnsOk Tryd.prog 14 (f14_cOf R_f14)) (hR_f16 : AnsOk Tryd.prog 16 (f16_cOf R_f16)) (k : Nat) (K : Out → Option X) (x0 : List CV) : evFnK (f15_cx R_f13 R_f14 R_f16 hR_f13 hR_f14 hR_f16) [] k Tryd.f15.ntmps Tryd.f15.results.toList (Tryd.f15.body.getD .skip) [(.sl false none x0)] [] K = f15_T R_f13 R_f14 R_f16 k (fun u => K (f15_out u)) (fun v => iter (loopB (f15_cx R_f13 R_f14 R_f16 hR_f13 hR_f14 hR_f16) k [.r, .r, .l, .r, .b] (Tryd.f15.body.getD .skip) (retK (f15_cx R_f13 R_f14 R_f16 hR_f13 hR_f14 hR_f16) [] Tryd.f15.results.toList K) []) k (f15_S1 v)) x0 := by kernel_rfl
theorem f15_ev {X : Type} (R_f13 : f13_R) (R_f14 : f14_R) (R_f16 : f16_R) (hR_f13 : AnsOk Tryd.prog 13 (f13_cOf R_f13)) (hR_f14 : AnsOk Tryd.prog 14 (f14_cOf R_f14)) (hR_f16 : AnsOk Tryd.prog 16 (f16_cOf R_f16)) (k : Nat) (K : Out → Option X) (x0 : List CV) : evFnK (f15_cx R_f13 R_f14 R_f16 hR_f13 hR_f14 hR_f16) [] k Tryd.f15.ntmps Tryd.f15.results.toList (Tryd.f15.body.getD .skip) [(.sl false none x0)] [] K = f15_A R_f13 R_f14 R_f16 k X (fun u => K (f15_out u)) x0 := (f15_ev' R_f13 R_f14 R_f16 hR_f13 hR_f14 hR_f16 k K x0).trans (by rw [f15_L1_it R_f13 R_f14 R_f16 hR_f13 hR_f14 hR_f16 k K]; rfl)
theorem f15_okA (R_f13 : f13_R) (R_f14 : f14_R) (R_f16 : f16_R) (hR_f13 : AnsOk Tryd.prog 13 (f13_cOf R_f13)) (hR_f14 : AnsOk Tryd.prog 14 (f14_cOf R_f14)) (hR_f16 : AnsOk Tryd.prog 16 (f16_cOf R_f16)) (k : Nat) : AnsOk Tryd.prog 15 (f15_cOf (f15_A R_f13 R_f14 R_f16 k)) := by
  intro X xs ns K x h
  unfold f15_cOf at h ⊢
  split at h
  · exact ans_main S (f15_Cok R_f13 R_f14 R_f16 hR_f13 hR_f14 hR_f16) Tryd.func15 (ent_of Tryd.func15 (by kernel_rfl) rfl) rfl (fun X K => f15_ev R_f13 R_f14 R_f16 hR_f13 hR_f14 hR_f16 k K _) h
  · cases h
/-- "outpost/sha.Sum" -/
def f15 {X : Type} (k : Nat) (K : (List CV) → Option X) (x0 : List CV) : Option X := f15_A (fun X => @f13 X k) (fun X => @f14 X k) (fun X => @f16 X k) k X K x0
theorem f15_ok (k : Nat) : AnsOk Tryd.prog 15 (f15_cOf (fun X => @f15 X k)) := f15_okA (fun X => @f13 X k) (fun X => @f14 X k) (fun X => @f16 X k) (f13_ok k) (f14_ok k) (f16_ok k) k
abbrev f17_R : Type 1 := (X : Type) → (Int × (List CV) → Option X) → (List CV) → Option X
def f17_out (u : Int × (List CV)) : Out := ⟨(.v (CV.int .i64 u.1)), [([1000], (.row false none u.2))]⟩
def f17_cOf (R : f17_R) : FnC := fun X xs ns K => match xs, ns with
  | [(.ptr [1000] 1 0 0)], [([1000], (.row false none x0))] => R X (fun u => K (f17_out u)) x0
  | _, _ => none
def f17_plan : Nat → Option (List Nat × List Wk)
  | 0 => some ([0], [])
  | 1 => some ([0], [])
  | _ => none
def f17_C : Fns := noC
theorem f17_Cok : CsOk Tryd.prog (f17_C) := noC_ok
def f17_cx : Cx := mkCx (tabOf rows) (f17_C) md (cmpIn cmps) f17_plan (f17_Cok)
def f17_T {X : Type} (k : Nat) (K : Int × (List CV) → Option X)  (x0 : List CV) : Option X :=
Option.bind (x0)[72]? fun e1 =>
grd (CV.isI .i64 e1) <|
K ((CV.toI e1), x0)
/-- "(*outpost/sha.Hash).Len" -/
def f17_A (k : Nat) : f17_R := fun X K x0 => f17_T k K  x0
set_option maxRecDepth 100000 in
theorem f17_ev' {X : Type} (k : Nat) (K : Out → Option X) (x0 : List CV) : evFnK (f17_cx) [] k Tryd.f17.ntmps Tryd.f17.results.toList (Tryd.f17.body.getD .skip) [(.ptr [1000] 1 0 0)] [([1000], (.row false none x0))] K = f17_T k (fun u => K (f17_out u)) x0 := by kernel_rfl
theorem f17_ev {X : Type} (k : Nat) (K : Out → Option X) (x0 : List CV) : evFnK (f17_cx) [] k Tryd.f17.ntmps Tryd.f17.results.toList (Tryd.f17.body.getD .skip) [(.ptr [1000] 1 0 0)] [([1000], (.row false none x0))] K = f17_A k X (fun u => K (f17_out u)) x0 := (f17_ev' k K x0).trans rfl
theorem f17_okA (k : Nat) : AnsOk Tryd.prog 17 (f17_cOf (f17_A k)) := by
  intro X xs ns K x h
  unfold f17_cOf at h ⊢
  split at h
  · exact ans_main S (f17_Cok) Tryd.func17 (ent_of Tryd.func17 (by kernel_rfl) rfl) rfl (fun X K => f17_ev k K _) h
  · cases h
/-- "(*outpost/sha.Hash).Len" -/
def f17 {X : Type} (k : Nat) (K : Int × (List CV) → Option X) (x0 : List CV) : Option X := f17_A k X K x0
theorem f17_ok (k : Nat) : AnsOk Tryd.prog 17 (f17_cOf (fun X => @f17 X k)) := f17_okA k
abbrev f9_R : Type 1 := (X : Type) → (Bool → Option X) → Option X
def f9_out (u : Bool) : Out := ⟨(.v (CV.bool u)), []⟩
def f9_cOf (R : f9_R) : FnC := fun X xs ns K => match xs, ns with
  | [], [] => R X (fun u => K (f9_out u)) 
  | _, _ => none
def f9_plan : Nat → Option (List Nat × List Wk)
  | 0 => some ([], [])
  | 1 => some ([], [])
  | 2 => some ([1], [])
  | 3 => some ([1], [])
  | 4 => some ([1, 2], [])
  | 5 => some ([1, 2], [])
  | 6 => some ([1, 2, 3, 4], [])
  | 7 => some ([1, 2, 3, 4, 6], [])
  | _ => none
def f9_C (R_f13 : f13_R) (R_f14 : f14_R) (R_f22 : f22_R) (R_f16 : f16_R) (R_f20 : f20_R) (R_f18 : f18_R) (R_f15 : f15_R) (R_f17 : f17_R) : Fns := (orC 13 (f13_cOf R_f13) (orC 14 (f14_cOf R_f14) (orC 15 (f15_cOf R_f15) (orC 16 (f16_cOf R_f16) (orC 17 (f17_cOf R_f17) (orC 18 (f18_cOf R_f18) (orC 20 (f20_cOf R_f20) (orC 22 (f22_cOf R_f22) noC))))))))
theorem f9_Cok (R_f13 : f13_R) (R_f14 : f14_R) (R_f22 : f22_R) (R_f16 : f16_R) (R_f20 : f20_R) (R_f18 : f18_R) (R_f15 : f15_R) (R_f17 : f17_R) (hR_f13 : AnsOk Tryd.prog 13 (f13_cOf R_f13)) (hR_f14 : AnsOk Tryd.prog 14 (f14_cOf R_f14)) (hR_f22 : AnsOk Tryd.prog 22 (f22_cOf R_f22)) (hR_f16 : AnsOk Tryd.prog 16 (f16_cOf R_f16)) (hR_f20 : AnsOk Tryd.prog 20 (f20_cOf R_f20)) (hR_f18 : AnsOk Tryd.prog 18 (f18_cOf R_f18)) (hR_f15 : AnsOk Tryd.prog 15 (f15_cOf R_f15)) (hR_f17 : AnsOk Tryd.prog 17 (f17_cOf R_f17)) : CsOk Tryd.prog (f9_C R_f13 R_f14 R_f22 R_f16 R_f20 R_f18 R_f15 R_f17) := (orC_ok hR_f13 (orC_ok hR_f14 (orC_ok hR_f15 (orC_ok hR_f16 (orC_ok hR_f17 (orC_ok hR_f18 (orC_ok hR_f20 (orC_ok hR_f22 noC_ok))))))))
def f9_cx (R_f13 : f13_R) (R_f14 : f14_R) (R_f22 : f22_R) (R_f16 : f16_R) (R_f20 : f20_R) (R_f18 : f18_R) (R_f15 : f15_R) (R_f17 : f17_R) (hR_f13 : AnsOk Tryd.prog 13 (f13_cOf R_f13)) (hR_f14 : AnsOk Tryd.prog 14 (f14_cOf R_f14)) (hR_f22 : AnsOk Tryd.prog 22 (f22_cOf R_f22)) (hR_f16 : AnsOk Tryd.prog 16 (f16_cOf R_f16)) (hR_f20 : AnsOk Tryd.prog 20 (f20_cOf R_f20)) (hR_f18 : AnsOk Tryd.prog 18 (f18_cOf R_f18)) (hR_f15 : AnsOk Tryd.prog 15 (f15_cOf R_f15)) (hR_f17 : AnsOk Tryd.prog 17 (f17_cOf R_f17)) : Cx := mkCx (tabOf rows) (f9_C R_f13 R_f14 R_f22 R_f16 R_f20 R_f18 R_f15 R_f17) md (cmpIn cmps) f9_plan (f9_Cok R_f13 R_f14 R_f22 R_f16 R_f20 R_f18 R_f15 R_f17 hR_f13 hR_f14 hR_f22 hR_f16 hR_f20 hR_f18 hR_f15 hR_f17)
def f9_T {X : Type} (R_f13 : f13_R) (R_f14 : f14_R) (R_f22 : f22_R) (R_f16 : f16_R) (R_f20 : f20_R) (R_f18 : f18_R) (R_f15 : f15_R) (R_f17 : f17_R) (k : Nat) (K : Bool → Option X)   : Option X :=
R_f13 _ (fun u1 =>
R_f14 _ (fun u2 =>
R_f22 _ (fun u3 =>
R_f14 _ (fun u4 =>
R_f16 _ (fun u5 =>
R_f20 _ (fun u6 =>
R_f18 _ (fun u7 =>
grd (Nat.beq (List.length u7.1) 32) <|
grd (decide (32 ≤ 32)) <|
R_f18 _ (fun u8 =>
grd (Nat.beq (List.length u8.1) 32) <|
grd (decide (32 ≤ 32)) <|
R_f15 _ (fun u9 =>
R_f20 _ (fun u10 =>
(bif (u10.toList == (⟨#[101, 51, 98, 48, 99, 52, 52, 50, 57, 56, 102, 99, 49, 99, 49, 52, 57, 97, 102, 98, 102, 52, 99, 56, 57, 57, 54, 102, 98, 57, 50, 52, 50, 55, 97, 101, 52, 49, 101, 52, 54, 52, 57, 98, 57, 51, 52, 99, 97, 52, 57, 53, 57, 57, 49, 98, 55, 56, 53, 50, 98, 56, 53, 53]⟩ : ByteArray).toList) then
R_f15 _ (fun u11 =>
R_f20 _ (fun u12 =>
(bif (u12.toList == (⟨#[98, 97, 55, 56, 49, 54, 98, 102, 56, 102, 48, 49, 99, 102, 101, 97, 52, 49, 52, 49, 52, 48, 100, 101, 53, 100, 97, 101, 50, 50, 50, 51, 98, 48, 48, 51, 54, 49, 97, 51, 57, 54, 49, 55, 55, 97, 57, 99, 98, 52, 49, 48, 102, 102, 54, 49, 102, 50, 48, 48, 49, 53, 97, 100]⟩ : ByteArray).toList) then
R_f16 _ (fun u13 =>
R_f15 _ (fun u14 =>
grd (numsAre .u8 32 u13.1 && numsAre .u8 32 u14) <|
(bif (intsOf u13.1 == intsOf u14) then
R_f17 _ (fun u15 =>
(bif (u15.1 == 3) then
R_f17 _ (fun u16 =>
(bif (u16.1 == 2) then
(bif (u7.2 == 0) then
grd (decide (32 ≤ (List.length ((List.take 0 (List.replicate 32 (CV.int .u8 0))) ++ u7.1 ++ (List.drop 32 (List.replicate 32 (CV.int .u8 0))))))) <|
R_f16 _ (fun u17 =>
grd (numsAre .u8 32 (List.take 32 (List.drop 0 ((List.take 0 (List.replicate 32 (CV.int .u8 0))) ++ u7.1 ++ (List.drop 32 (List.replicate 32 (CV.int .u8 0)))))) && numsAre .u8 32 u17.1) <|
(bif (intsOf (List.take 32 (List.drop 0 ((List.take 0 (List.replicate 32 (CV.int .u8 0))) ++ u7.1 ++ (List.drop 32 (List.replicate 32 (CV.int .u8 0)))))) == intsOf u17.1) then
K ((u8.2 == 20))
else
K (false))) (u15.2)
else
K (false))
else
K (false))) (u3.2)
else
K (false))) (u13.2)
else
K (false))) ((List.take 1 (List.drop 0 [(CV.slc none (List.take 3 (List.drop 0 [(CV.int .u8 97), (CV.int .u8 98), (CV.int .u8 99)])))])))) (u5.2)
else
K (false))) (u11)) ((List.take 2 (List.drop 0 [(CV.slc none (List.take 1 (List.drop 0 [(CV.int .u8 97)]))), (CV.slc none (List.take 2 (List.drop 0 [(CV.int .u8 98), (CV.int .u8 99)])))])))
else
K (false))) (u9)) ([])) (⟨#[120]⟩)) (u6)) (u5.1)) (u4)) ((List.take 1 (List.drop 0 [(CV.int .u8 99)]))) (u3.1)) (u2)) ((List.take 2 (List.drop 0 [(CV.int .u8 97), (CV.int .u8 98)]))) (u1)) 
/-- "outpost/outpostlaw01.alive" -/
def f9_A (R_f13 : f13_R) (R_f14 : f14_R) (R_f22 : f22_R) (R_f16 : f16_R) (R_f20 : f20_R) (R_f18 : f18_R) (R_f15 : f15_R) (R_f17 : f17_R) (k : Nat) : f9_R := fun X K  => f9_T R_f13 R_f14 R_f22 R_f16 R_f20 R_f18 R_f15 R_f17 k K  
set_option maxRecDepth 100000 in
theorem f9_ev' {X : Type} (R_f13 : f13_R) (R_f14 : f14_R) (R_f22 : f22_R) (R_f16 : f16_R) (R_f20 : f20_R) (R_f18 : f18_R) (R_f15 : f15_R) (R_f17 : f17_R) (hR_f13 : AnsOk Tryd.prog 13 (f13_cOf R_f13)) (hR_f14 : AnsOk Tryd.prog 14 (f14_cOf R_f14)) (hR_f22 : AnsOk Tryd.prog 22 (f22_cOf R_f22)) (hR_f16 : AnsOk Tryd.prog 16 (f16_cOf R_f16)) (hR_f20 : AnsOk Tryd.prog 20 (f20_cOf R_f20)) (hR_f18 : AnsOk Tryd.prog 18 (f18_cOf R_f18)) (hR_f15 : AnsOk Tryd.prog 15 (f15_cOf R_f15)) (hR_f17 : AnsOk Tryd.prog 17 (f17_cOf R_f17)) (k : Nat) (K : Out → Option X)  : evFnK (f9_cx R_f13 R_f14 R_f22 R_f16 R_f20 R_f18 R_f15 R_f17 hR_f13 hR_f14 hR_f22 hR_f16 hR_f20 hR_f18 hR_f15 hR_f17) [] k Tryd.f9.ntmps Tryd.f9.results.toList (Tryd.f9.body.getD .skip) [] [] K = f9_T R_f13 R_f14 R_f22 R_f16 R_f20 R_f18 R_f15 R_f17 k (fun u => K (f9_out u))  := by kernel_rfl
theorem f9_ev {X : Type} (R_f13 : f13_R) (R_f14 : f14_R) (R_f22 : f22_R) (R_f16 : f16_R) (R_f20 : f20_R) (R_f18 : f18_R) (R_f15 : f15_R) (R_f17 : f17_R) (hR_f13 : AnsOk Tryd.prog 13 (f13_cOf R_f13)) (hR_f14 : AnsOk Tryd.prog 14 (f14_cOf R_f14)) (hR_f22 : AnsOk Tryd.prog 22 (f22_cOf R_f22)) (hR_f16 : AnsOk Tryd.prog 16 (f16_cOf R_f16)) (hR_f20 : AnsOk Tryd.prog 20 (f20_cOf R_f20)) (hR_f18 : AnsOk Tryd.prog 18 (f18_cOf R_f18)) (hR_f15 : AnsOk Tryd.prog 15 (f15_cOf R_f15)) (hR_f17 : AnsOk Tryd.prog 17 (f17_cOf R_f17)) (k : Nat) (K : Out → Option X)  : evFnK (f9_cx R_f13 R_f14 R_f22 R_f16 R_f20 R_f18 R_f15 R_f17 hR_f13 hR_f14 hR_f22 hR_f16 hR_f20 hR_f18 hR_f15 hR_f17) [] k Tryd.f9.ntmps Tryd.f9.results.toList (Tryd.f9.body.getD .skip) [] [] K = f9_A R_f13 R_f14 R_f22 R_f16 R_f20 R_f18 R_f15 R_f17 k X (fun u => K (f9_out u))  := (f9_ev' R_f13 R_f14 R_f22 R_f16 R_f20 R_f18 R_f15 R_f17 hR_f13 hR_f14 hR_f22 hR_f16 hR_f20 hR_f18 hR_f15 hR_f17 k K ).trans rfl
theorem f9_okA (R_f13 : f13_R) (R_f14 : f14_R) (R_f22 : f22_R) (R_f16 : f16_R) (R_f20 : f20_R) (R_f18 : f18_R) (R_f15 : f15_R) (R_f17 : f17_R) (hR_f13 : AnsOk Tryd.prog 13 (f13_cOf R_f13)) (hR_f14 : AnsOk Tryd.prog 14 (f14_cOf R_f14)) (hR_f22 : AnsOk Tryd.prog 22 (f22_cOf R_f22)) (hR_f16 : AnsOk Tryd.prog 16 (f16_cOf R_f16)) (hR_f20 : AnsOk Tryd.prog 20 (f20_cOf R_f20)) (hR_f18 : AnsOk Tryd.prog 18 (f18_cOf R_f18)) (hR_f15 : AnsOk Tryd.prog 15 (f15_cOf R_f15)) (hR_f17 : AnsOk Tryd.prog 17 (f17_cOf R_f17)) (k : Nat) : AnsOk Tryd.prog 9 (f9_cOf (f9_A R_f13 R_f14 R_f22 R_f16 R_f20 R_f18 R_f15 R_f17 k)) := by
  intro X xs ns K x h
  unfold f9_cOf at h ⊢
  split at h
  · exact ans_main S (f9_Cok R_f13 R_f14 R_f22 R_f16 R_f20 R_f18 R_f15 R_f17 hR_f13 hR_f14 hR_f22 hR_f16 hR_f20 hR_f18 hR_f15 hR_f17) Tryd.func9 (ent_of Tryd.func9 (by kernel_rfl) rfl) rfl (fun X K => f9_ev R_f13 R_f14 R_f22 R_f16 R_f20 R_f18 R_f15 R_f17 hR_f13 hR_f14 hR_f22 hR_f16 hR_f20 hR_f18 hR_f15 hR_f17 k K ) h
  · cases h
/-- "outpost/outpostlaw01.alive" -/
def f9 {X : Type} (k : Nat) (K : Bool → Option X)  : Option X := f9_A (fun X => @f13 X k) (fun X => @f14 X k) (fun X => @f22 X k) (fun X => @f16 X k) (fun X => @f20 X k) (fun X => @f18 X k) (fun X => @f15 X k) (fun X => @f17 X k) k X K 
theorem f9_ok (k : Nat) : AnsOk Tryd.prog 9 (f9_cOf (fun X => @f9 X k)) := f9_okA (fun X => @f13 X k) (fun X => @f14 X k) (fun X => @f22 X k) (fun X => @f16 X k) (fun X => @f20 X k) (fun X => @f18 X k) (fun X => @f15 X k) (fun X => @f17 X k) (f13_ok k) (f14_ok k) (f22_ok k) (f16_ok k) (f20_ok k) (f18_ok k) (f15_ok k) (f17_ok k) k
abbrev f19_R : Type 1 := (X : Type) → ((List CV) × Int → Option X) → ByteArray → Option X
def f19_out (u : (List CV) × Int) : Out := ⟨(.tup [(.v (CV.agg u.1)), (.v (CV.int .i64 u.2))]), []⟩
def f19_cOf (R : f19_R) : FnC := fun X xs ns K => match xs, ns with
  | [(.v (CV.str x0))], [] => R X (fun u => K (f19_out u)) x0
  | _, _ => none
def f19_plan : Nat → Option (List Nat × List Wk)
  | 0 => some ([0], [])
  | 1 => some ([0, 2], [])
  | 2 => some ([0, 2, 4], [])
  | 3 => some ([2, 4], [])
  | 4 => some ([0, 2, 4], [])
  | 5 => some ([0, 2, 4, 5], [])
  | 6 => some ([0, 2, 4, 5], [])
  | 7 => some ([0, 2, 4, 5], [])
  | 8 => some ([0, 2, 4, 5, 6], [])
  | 9 => some ([0, 2, 4, 5, 6], [])
  | 10 => some ([0, 2, 4, 5, 6], [])
  | 11 => some ([0, 2, 4, 5, 6], [])
  | 12 => some ([0, 2, 4, 5, 6], [])
  | 13 => some ([0, 2, 4, 5, 6], [])
  | 14 => some ([0, 2, 4, 5, 6], [])
  | 15 => some ([2], [])
  | 16 => some ([0, 2, 4, 5, 7], [])
  | 17 => some ([2, 4], [])
  | _ => none
def f19_C : Fns := noC
theorem f19_Cok : CsOk Tryd.prog (f19_C) := noC_ok
def f19_cx : Cx := mkCx (tabOf rows) (f19_C) md (cmpIn cmps) f19_plan (f19_Cok)
def f19_S1 (v : ByteArray × Int × (List CV) × (List CV)) : St := ⟨[(.v (CV.str v.1)), .undef, (.ptr [2] 1 0 0), .undef, (.ptr [4] 1 0 0), (.v (CV.int .i64 v.2.1)), .undef, .undef, .undef, .undef, .undef, .undef, .undef, .undef, .undef, .undef, .undef, .undef, .undef, .undef, .undef, .undef, .undef, .undef, .undef, .undef, .undef, .undef, .undef, .undef, .undef, .undef, .undef, .undef, .undef, .undef, .undef, .undef, .undef, .undef, .undef, .undef, .undef, .undef, .undef, .undef, .undef, .undef, .undef, .undef, .undef, .undef, .undef, .undef, .undef, .undef, .undef, .undef], [([2], (.row false none v.2.2.1)), ([4], (.row false none v.2.2.2))]⟩
def f19_J1 {X : Type} (k : Nat) (K : (List CV) × Int → Option X) (rec1 : ByteArray × Int × (List CV) × (List CV) → Option X) (v6_0 : ByteArray × Int × (List CV) × (List CV)) (v9 : Int) : Option X :=
grd (decide (0 ≤ (IntKind.wrap .i64 (Int.tdiv v6_0.2.1 2)))) <|
grd (decide ((IntKind.wrap .i64 (Int.tdiv v6_0.2.1 2)) < 32)) <|
Option.bind (v6_0.2.2.2)[(0 + (0 + ((Int.toNat (IntKind.wrap .i64 (Int.tdiv v6_0.2.1 2))) * 1)))]? fun e10 =>
grd (CV.isI .u8 e10) <|
grd (decide (0 ≤ (IntKind.wrap .i64 (Int.tdiv v6_0.2.1 2)))) <|
grd (decide ((IntKind.wrap .i64 (Int.tdiv v6_0.2.1 2)) < 32)) <|
grd (decide ((0 + (0 + ((Int.toNat (IntKind.wrap .i64 (Int.tdiv v6_0.2.1 2))) * 1))) < (List.length v6_0.2.2.2))) <|
rec1 (v6_0.1, (IntKind.wrap .i64 (v6_0.2.1 + 1)), v6_0.2.2.1, (List.set v6_0.2.2.2 (0 + (0 + ((Int.toNat (IntKind.wrap .i64 (Int.tdiv v6_0.2.1 2))) * 1))) (CV.int .u8 (IntKind.wrap .u8 ((IntKind.wrap .u8 ((CV.toI e10) * 16)) + v9)))))
def f19_T1 {X : Type} (k : Nat) (K : (List CV) × Int → Option X)   (rec1 : ByteArray × Int × (List CV) × (List CV) → Option X) (v6_0 : ByteArray × Int × (List CV) × (List CV)) : Option X :=
(bif (decide (v6_0.2.1 < 64)) then
grd (decide (0 ≤ v6_0.2.1)) <|
Option.bind (ByteArray.data v6_0.1)[(Int.toNat v6_0.2.1)]? fun b8 =>
(bif (decide ((Nat.cast ((UInt8.toNat b8)) : Int) ≥ 48)) then
(bif (decide ((Nat.cast ((UInt8.toNat b8)) : Int) ≤ 57)) then
f19_J1 k K rec1 v6_0 ((IntKind.wrap .u8 ((Nat.cast ((UInt8.toNat b8)) : Int) - 48)))
else
(bif (decide ((Nat.cast ((UInt8.toNat b8)) : Int) ≥ 97)) then
(bif (decide ((Nat.cast ((UInt8.toNat b8)) : Int) ≤ 102)) then
f19_J1 k K rec1 v6_0 ((IntKind.wrap .u8 ((IntKind.wrap .u8 ((Nat.cast ((UInt8.toNat b8)) : Int) - 97)) + 10)))
else
(bif (decide ((Nat.cast ((UInt8.toNat b8)) : Int) ≥ 65)) then
(bif (decide ((Nat.cast ((UInt8.toNat b8)) : Int) ≤ 70)) then
f19_J1 k K rec1 v6_0 ((IntKind.wrap .u8 ((IntKind.wrap .u8 ((Nat.cast ((UInt8.toNat b8)) : Int) - 65)) + 10)))
else
grd (decide (32 ≤ (List.length v6_0.2.2.1))) <|
grd (decide (32 ≤ (List.length ((List.take 0 v6_0.2.2.1) ++ (List.replicate 32 (CV.int .u8 0)) ++ (List.drop 32 v6_0.2.2.1))))) <|
K ((List.take 32 (List.drop 0 ((List.take 0 v6_0.2.2.1) ++ (List.replicate 32 (CV.int .u8 0)) ++ (List.drop 32 v6_0.2.2.1)))), 20))
else
grd (decide (32 ≤ (List.length v6_0.2.2.1))) <|
grd (decide (32 ≤ (List.length ((List.take 0 v6_0.2.2.1) ++ (List.replicate 32 (CV.int .u8 0)) ++ (List.drop 32 v6_0.2.2.1))))) <|
K ((List.take 32 (List.drop 0 ((List.take 0 v6_0.2.2.1) ++ (List.replicate 32 (CV.int .u8 0)) ++ (List.drop 32 v6_0.2.2.1)))), 20)))
else
(bif (decide ((Nat.cast ((UInt8.toNat b8)) : Int) ≥ 65)) then
(bif (decide ((Nat.cast ((UInt8.toNat b8)) : Int) ≤ 70)) then
f19_J1 k K rec1 v6_0 ((IntKind.wrap .u8 ((IntKind.wrap .u8 ((Nat.cast ((UInt8.toNat b8)) : Int) - 65)) + 10)))
else
grd (decide (32 ≤ (List.length v6_0.2.2.1))) <|
grd (decide (32 ≤ (List.length ((List.take 0 v6_0.2.2.1) ++ (List.replicate 32 (CV.int .u8 0)) ++ (List.drop 32 v6_0.2.2.1))))) <|
K ((List.take 32 (List.drop 0 ((List.take 0 v6_0.2.2.1) ++ (List.replicate 32 (CV.int .u8 0)) ++ (List.drop 32 v6_0.2.2.1)))), 20))
else
grd (decide (32 ≤ (List.length v6_0.2.2.1))) <|
grd (decide (32 ≤ (List.length ((List.take 0 v6_0.2.2.1) ++ (List.replicate 32 (CV.int .u8 0)) ++ (List.drop 32 v6_0.2.2.1))))) <|
K ((List.take 32 (List.drop 0 ((List.take 0 v6_0.2.2.1) ++ (List.replicate 32 (CV.int .u8 0)) ++ (List.drop 32 v6_0.2.2.1)))), 20))))
else
(bif (decide ((Nat.cast ((UInt8.toNat b8)) : Int) ≥ 97)) then
(bif (decide ((Nat.cast ((UInt8.toNat b8)) : Int) ≤ 102)) then
f19_J1 k K rec1 v6_0 ((IntKind.wrap .u8 ((IntKind.wrap .u8 ((Nat.cast ((UInt8.toNat b8)) : Int) - 97)) + 10)))
else
(bif (decide ((Nat.cast ((UInt8.toNat b8)) : Int) ≥ 65)) then
(bif (decide ((Nat.cast ((UInt8.toNat b8)) : Int) ≤ 70)) then
f19_J1 k K rec1 v6_0 ((IntKind.wrap .u8 ((IntKind.wrap .u8 ((Nat.cast ((UInt8.toNat b8)) : Int) - 65)) + 10)))
else
grd (decide (32 ≤ (List.length v6_0.2.2.1))) <|
grd (decide (32 ≤ (List.length ((List.take 0 v6_0.2.2.1) ++ (List.replicate 32 (CV.int .u8 0)) ++ (List.drop 32 v6_0.2.2.1))))) <|
K ((List.take 32 (List.drop 0 ((List.take 0 v6_0.2.2.1) ++ (List.replicate 32 (CV.int .u8 0)) ++ (List.drop 32 v6_0.2.2.1)))), 20))
else
grd (decide (32 ≤ (List.length v6_0.2.2.1))) <|
grd (decide (32 ≤ (List.length ((List.take 0 v6_0.2.2.1) ++ (List.replicate 32 (CV.int .u8 0)) ++ (List.drop 32 v6_0.2.2.1))))) <|
K ((List.take 32 (List.drop 0 ((List.take 0 v6_0.2.2.1) ++ (List.replicate 32 (CV.int .u8 0)) ++ (List.drop 32 v6_0.2.2.1)))), 20)))
else
(bif (decide ((Nat.cast ((UInt8.toNat b8)) : Int) ≥ 65)) then
(bif (decide ((Nat.cast ((UInt8.toNat b8)) : Int) ≤ 70)) then
f19_J1 k K rec1 v6_0 ((IntKind.wrap .u8 ((IntKind.wrap .u8 ((Nat.cast ((UInt8.toNat b8)) : Int) - 65)) + 10)))
else
grd (decide (32 ≤ (List.length v6_0.2.2.1))) <|
grd (decide (32 ≤ (List.length ((List.take 0 v6_0.2.2.1) ++ (List.replicate 32 (CV.int .u8 0)) ++ (List.drop 32 v6_0.2.2.1))))) <|
K ((List.take 32 (List.drop 0 ((List.take 0 v6_0.2.2.1) ++ (List.replicate 32 (CV.int .u8 0)) ++ (List.drop 32 v6_0.2.2.1)))), 20))
else
grd (decide (32 ≤ (List.length v6_0.2.2.1))) <|
grd (decide (32 ≤ (List.length ((List.take 0 v6_0.2.2.1) ++ (List.replicate 32 (CV.int .u8 0)) ++ (List.drop 32 v6_0.2.2.1))))) <|
K ((List.take 32 (List.drop 0 ((List.take 0 v6_0.2.2.1) ++ (List.replicate 32 (CV.int .u8 0)) ++ (List.drop 32 v6_0.2.2.1)))), 20))))
else
grd (decide (32 ≤ (List.length v6_0.2.2.2))) <|
grd (Nat.beq (List.length (List.take 32 (List.drop 0 v6_0.2.2.2))) 32) <|
grd (decide (32 ≤ (List.length v6_0.2.2.1))) <|
grd (decide (32 ≤ (List.length ((List.take 0 v6_0.2.2.1) ++ (List.take 32 (List.drop 0 v6_0.2.2.2)) ++ (List.drop 32 v6_0.2.2.1))))) <|
K ((List.take 32 (List.drop 0 ((List.take 0 v6_0.2.2.1) ++ (List.take 32 (List.drop 0 v6_0.2.2.2)) ++ (List.drop 32 v6_0.2.2.1)))), 0))
def f19_L1 {X : Type} (k : Nat) (K : (List CV) × Int → Option X)  (rec1 : ByteArray × Int × (List CV) × (List CV) → Option X) (v : ByteArray × Int × (List CV) × (List CV)) : Option X := f19_T1 k K   rec1 v
set_option maxRecDepth 100000 in
theorem f19_L1_ev {X : Type} (k : Nat) (K : Out → Option X)  (r1 : St → Option X) (v : ByteArray × Int × (List CV) × (List CV)) : loopB (f19_cx) k [.r, .r, .r, .l, .r, .b] (Tryd.f19.body.getD .skip) (retK (f19_cx) [] Tryd.f19.results.toList K) [] r1 (f19_S1 v) = f19_T1 k (fun u => K (f19_out u))   (fun v => r1 (f19_S1 v)) v := by kernel_rfl
theorem f19_L1_it {X : Type} (k : Nat) (K : Out → Option X)  : (fun v => iter (loopB (f19_cx) k [.r, .r, .r, .l, .r, .b] (Tryd.f19.body.getD .skip) (retK (f19_cx) [] Tryd.f19.results.toList K) []) k (f19_S1 v)) = iterV (f19_L1 k (fun u => K (f19_out u)) ) k :=
  iter_map (fun r1 v => (f19_L1_ev k K  r1 v).trans rfl) k
def f19_T {X : Type} (k : Nat) (K : (List CV) × Int → Option X) (loop1 : ByteArray × Int × (List CV) × (List CV) → Option X) (x0 : ByteArray) : Option X :=
grd (decide (32 ≤ 32)) <|
(bif ((Nat.cast ((ByteArray.size x0)) : Int) != 64) then
grd (decide (32 ≤ (List.length ((List.take 0 (List.replicate 32 (CV.int .u8 0))) ++ (List.replicate 32 (CV.int .u8 0)) ++ (List.drop 32 (List.replicate 32 (CV.int .u8 0))))))) <|
grd (Nat.beq (List.length (List.take 32 (List.drop 0 ((List.take 0 (List.replicate 32 (CV.int .u8 0))) ++ (List.replicate 32 (CV.int .u8 0)) ++ (List.drop 32 (List.replicate 32 (CV.int .u8 0))))))) 32) <|
grd (decide (32 ≤ 32)) <|
grd (decide (32 ≤ (List.length ((List.take 0 (List.replicate 32 (CV.int .u8 0))) ++ (List.take 32 (List.drop 0 ((List.take 0 (List.replicate 32 (CV.int .u8 0))) ++ (List.replicate 32 (CV.int .u8 0)) ++ (List.drop 32 (List.replicate 32 (CV.int .u8 0)))))) ++ (List.drop 32 (List.replicate 32 (CV.int .u8 0))))))) <|
K ((List.take 32 (List.drop 0 ((List.take 0 (List.replicate 32 (CV.int .u8 0))) ++ (List.take 32 (List.drop 0 ((List.take 0 (List.replicate 32 (CV.int .u8 0))) ++ (List.replicate 32 (CV.int .u8 0)) ++ (List.drop 32 (List.replicate 32 (CV.int .u8 0)))))) ++ (List.drop 32 (List.replicate 32 (CV.int .u8 0)))))), 20)
else
loop1 (x0, 0, (List.replicate 32 (CV.int .u8 0)), ((List.take 0 (List.replicate 32 (CV.int .u8 0))) ++ (List.replicate 32 (CV.int .u8 0)) ++ (List.drop 32 (List.replicate 32 (CV.int .u8 0))))))
/-- "outpost/outpostref01.Parse" -/
def f19_A (k : Nat) : f19_R := fun X K x0 => f19_T k K (iterV (f19_L1 k K) k) x0
set_option maxRecDepth 100000 in
theorem f19_ev' {X : Type} (k : Nat) (K : Out → Option X) (x0 : ByteArray) : evFnK (f19_cx) [] k Tryd.f19.ntmps Tryd.f19.results.toList (Tryd.f19.body.getD .skip) [(.v (CV.str x0))] [] K = f19_T k (fun u => K (f19_out u)) (fun v => iter (loopB (f19_cx) k [.r, .r, .r, .l, .r, .b] (Tryd.f19.body.getD .skip) (retK (f19_cx) [] Tryd.f19.results.toList K) []) k (f19_S1 v)) x0 := by kernel_rfl
theorem f19_ev {X : Type} (k : Nat) (K : Out → Option X) (x0 : ByteArray) : evFnK (f19_cx) [] k Tryd.f19.ntmps Tryd.f19.results.toList (Tryd.f19.body.getD .skip) [(.v (CV.str x0))] [] K = f19_A k X (fun u => K (f19_out u)) x0 := (f19_ev' k K x0).trans (by rw [f19_L1_it k K]; rfl)
theorem f19_okA (k : Nat) : AnsOk Tryd.prog 19 (f19_cOf (f19_A k)) := by
  intro X xs ns K x h
  unfold f19_cOf at h ⊢
  split at h
  · exact ans_main S (f19_Cok) Tryd.func19 (ent_of Tryd.func19 (by kernel_rfl) rfl) rfl (fun X K => f19_ev k K _) h
  · cases h
/-- "outpost/outpostref01.Parse" -/
def f19 {X : Type} (k : Nat) (K : (List CV) × Int → Option X) (x0 : ByteArray) : Option X := f19_A k X K x0
theorem f19_ok (k : Nat) : AnsOk Tryd.prog 19 (f19_cOf (fun X => @f19 X k)) := f19_okA k
abbrev f21_R : Type 1 := (X : Type) → (ByteArray → Option X) → (List CV) → Option X
def f21_out (u : ByteArray) : Out := ⟨(.v (CV.str u)), []⟩
def f21_cOf (R : f21_R) : FnC := fun X xs ns K => match xs, ns with
  | [(.v (CV.agg x0))], [] => R X (fun u => K (f21_out u)) x0
  | _, _ => none
def f21_plan : Nat → Option (List Nat × List Wk)
  | 0 => some ([0], [])
  | 1 => some ([1], [])
  | 2 => some ([1, 3], [])
  | 3 => some ([1, 3, 4], [])
  | 4 => some ([1, 3, 4], [])
  | 5 => some ([1, 3, 4], [])
  | 6 => some ([1, 3, 4, 20, 21, 22], [])
  | 7 => some ([1, 3, 4, 20, 21, 22], [])
  | 8 => some ([1, 3, 4, 6, 20, 21, 22], [])
  | 9 => some ([1, 3, 4, 6, 20, 21, 22], [])
  | 10 => some ([1, 3, 4, 6, 20, 21, 22], [])
  | 11 => some ([1, 3, 4, 20, 21, 22], [])
  | 12 => some ([3], [])
  | _ => none
def f21_C : Fns := noC
theorem f21_Cok : CsOk Tryd.prog (f21_C) := noC_ok
def f21_cx : Cx := mkCx (tabOf rows) (f21_C) md (cmpIn cmps) f21_plan (f21_Cok)
def f21_S1 (v : Nat × Int × (List CV) × (List CV)) : St := ⟨[.undef, (.ptr [1] 1 0 0), .undef, (.osl [3] none 0 v.1), (.v (CV.int .i64 v.2.1)), .undef, .undef, .undef, .undef, .undef, .undef, .undef, .undef, .undef, .undef, .undef, .undef, .undef, .undef, .undef, .undef, .undef, .undef, .undef, .undef, .undef, .undef, .undef, .undef, .undef, .undef, .undef, .undef, .undef, .undef, .undef, .undef, .undef, .undef, .undef, .undef, .undef], [([1], (.row false none v.2.2.1)), ([3], (.row false none v.2.2.2))]⟩
def f21_S2 (v : Nat × Int × Int × (List CV) × (List CV) × (List CV)) : St := ⟨[.undef, (.ptr [1] 1 0 0), .undef, (.osl [3] none 0 v.1), (.v (CV.int .i64 v.2.1)), .undef, .undef, .undef, .undef, .undef, .undef, .undef, .undef, .undef, .undef, .undef, .undef, .undef, .undef, .undef, (.osl [20] none 0 2), (.v (CV.int .i64 2)), (.v (CV.int .i64 v.2.2.1)), .undef, .undef, .undef, .undef, .undef, .undef, .undef, .undef, .undef, .undef, .undef, .undef, .undef, .undef, .undef, .undef, .undef, .undef, .undef], [([1], (.row false none v.2.2.2.1)), ([3], (.row false none v.2.2.2.2.1)), ([20], (.row false none v.2.2.2.2.2))]⟩
def f21_J1 {X : Type} (k : Nat) (K : ByteArray → Option X) (rec2 : Nat × Int × Int × (List CV) × (List CV) × (List CV) → Option X) (v11_10 : Nat × Int × Int × (List CV) × (List CV) × (List CV)) (v15 : Nat × (List CV)) : Option X :=
rec2 (v15.1, v11_10.2.1, (IntKind.wrap .i64 (v11_10.2.2.1 + 1)), v11_10.2.2.2.1, v15.2, v11_10.2.2.2.2.2)
def f21_T2 {X : Type} (k : Nat) (K : ByteArray → Option X) (rec1 : Nat × Int × (List CV) × (List CV) → Option X)  (rec2 : Nat × Int × Int × (List CV) × (List CV) × (List CV) → Option X) (v11_10 : Nat × Int × Int × (List CV) × (List CV) × (List CV)) : Option X :=
(bif (decide (v11_10.2.2.1 < 2)) then
grd (decide (0 ≤ v11_10.2.2.1)) <|
grd (decide (v11_10.2.2.1 < 2)) <|
Option.bind (v11_10.2.2.2.2.2)[((0 + (Int.toNat v11_10.2.2.1)) + 0)]? fun e16 =>
grd (CV.isI .u8 e16) <|
(bif (decide ((CV.toI e16) < 10)) then
grd (decide ((v11_10.1 + (List.length (List.take 1 (List.drop 0 [(CV.int .u8 (IntKind.wrap .u8 (48 + (CV.toI e16))))])))) * 1 ≤ 140737488355328)) <|
f21_J1 k K rec2 v11_10 ((v11_10.1 + (List.length (List.take 1 (List.drop 0 [(CV.int .u8 (IntKind.wrap .u8 (48 + (CV.toI e16))))])))), ((List.take v11_10.1 v11_10.2.2.2.2.1) ++ (List.take 1 (List.drop 0 [(CV.int .u8 (IntKind.wrap .u8 (48 + (CV.toI e16))))]))))
else
grd (decide ((v11_10.1 + (List.length (List.take 1 (List.drop 0 [(CV.int .u8 (IntKind.wrap .u8 ((IntKind.wrap .u8 (97 + (CV.toI e16))) - 10)))])))) * 1 ≤ 140737488355328)) <|
f21_J1 k K rec2 v11_10 ((v11_10.1 + (List.length (List.take 1 (List.drop 0 [(CV.int .u8 (IntKind.wrap .u8 ((IntKind.wrap .u8 (97 + (CV.toI e16))) - 10)))])))), ((List.take v11_10.1 v11_10.2.2.2.2.1) ++ (List.take 1 (List.drop 0 [(CV.int .u8 (IntKind.wrap .u8 ((IntKind.wrap .u8 (97 + (CV.toI e16))) - 10)))])))))
else
rec1 (v11_10.1, (IntKind.wrap .i64 (v11_10.2.1 + 1)), v11_10.2.2.2.1, v11_10.2.2.2.2.1))
def f21_L2 {X : Type} (k : Nat) (K : ByteArray → Option X) (rec1 : Nat × Int × (List CV) × (List CV) → Option X) (rec2 : Nat × Int × Int × (List CV) × (List CV) × (List CV) → Option X) (v : Nat × Int × Int × (List CV) × (List CV) × (List CV)) : Option X := f21_T2 k K rec1  rec2 v
set_option maxRecDepth 100000 in
theorem f21_L2_ev {X : Type} (k : Nat) (K : Out → Option X) (r1 : St → Option X) (r2 : St → Option X) (v : Nat × Int × Int × (List CV) × (List CV) × (List CV)) : loopB (f21_cx) k [.r, .r, .l, .r, .b, .o, .r, .l, .b, .r, .b] (Tryd.f21.body.getD .skip) (retK (f21_cx) [] Tryd.f21.results.toList K) [r1] r2 (f21_S2 v) = f21_T2 k (fun u => K (f21_out u)) (fun v => r1 (f21_S1 v))  (fun v => r2 (f21_S2 v)) v := by kernel_rfl
theorem f21_L2_it {X : Type} (k : Nat) (K : Out → Option X) (r1 : St → Option X) : (fun v => iter (loopB (f21_cx) k [.r, .r, .l, .r, .b, .o, .r, .l, .b, .r, .b] (Tryd.f21.body.getD .skip) (retK (f21_cx) [] Tryd.f21.results.toList K) [r1]) k (f21_S2 v)) = iterV (f21_L2 k (fun u => K (f21_out u)) (fun v => r1 (f21_S1 v))) k :=
  iter_map (fun r2 v => (f21_L2_ev k K r1 r2 v).trans rfl) k
def f21_T1 {X : Type} (k : Nat) (K : ByteArray → Option X)  (loop2 : Nat × Int × Int × (List CV) × (List CV) × (List CV) → Option X) (rec1 : Nat × Int × (List CV) × (List CV) → Option X) (v5_0 : Nat × Int × (List CV) × (List CV)) : Option X :=
(bif (decide (v5_0.2.1 < 32)) then
grd (decide (0 ≤ v5_0.2.1)) <|
grd (decide (v5_0.2.1 < 32)) <|
Option.bind (v5_0.2.2.1)[(0 + (0 + ((Int.toNat v5_0.2.1) * 1)))]? fun e9 =>
grd (CV.isI .u8 e9) <|
grd (decide (0 ≤ v5_0.2.1)) <|
grd (decide (v5_0.2.1 < 32)) <|
Option.bind (v5_0.2.2.1)[(0 + (0 + ((Int.toNat v5_0.2.1) * 1)))]? fun e10 =>
grd (CV.isI .u8 e10) <|
loop2 (v5_0.1, v5_0.2.1, 0, v5_0.2.2.1, v5_0.2.2.2, [(CV.int .u8 (IntKind.wrap .u8 (Int.tdiv (CV.toI e9) 16))), (CV.int .u8 (Int.tmod (CV.toI e10) 16))])
else
grd (shEq none none && List.all (List.take v5_0.1 (List.drop 0 v5_0.2.2.2)) (CV.isI .u8)) <|
K ((bytesOf (List.take v5_0.1 (List.drop 0 v5_0.2.2.2)))))
def f21_L1 {X : Type} (k : Nat) (K : ByteArray → Option X)  (rec1 : Nat × Int × (List CV) × (List CV) → Option X) (v : Nat × Int × (List CV) × (List CV)) : Option X := f21_T1 k K  (iterV (f21_L2 k K rec1) k) rec1 v
set_option maxRecDepth 100000 in
theorem f21_L1_ev {X : Type} (k : Nat) (K : Out → Option X)  (r1 : St → Option X) (v : Nat × Int × (List CV) × (List CV)) : loopB (f21_cx) k [.r, .r, .l, .r, .b] (Tryd.f21.body.getD .skip) (retK (f21_cx) [] Tryd.f21.results.toList K) [] r1 (f21_S1 v) = f21_T1 k (fun u => K (f21_out u))  (fun v => iter (loopB (f21_cx) k [.r, .r, .l, .r, .b, .o, .r, .l, .b, .r, .b] (Tryd.f21.body.getD .skip) (retK (f21_cx) [] Tryd.f21.results.toList K) [r1]) k (f21_S2 v)) (fun v => r1 (f21_S1 v)) v := by kernel_rfl
theorem f21_L1_it {X : Type} (k : Nat) (K : Out → Option X)  : (fun v => iter (loopB (f21_cx) k [.r, .r, .l, .r, .b] (Tryd.f21.body.getD .skip) (retK (f21_cx) [] Tryd.f21.results.toList K) []) k (f21_S1 v)) = iterV (f21_L1 k (fun u => K (f21_out u)) ) k :=
  iter_map (fun r1 v => (f21_L1_ev k K  r1 v).trans (by rw [f21_L2_it k K r1]; rfl)) k
def f21_T {X : Type} (k : Nat) (K : ByteArray → Option X) (loop1 : Nat × Int × (List CV) × (List CV) → Option X) (x0 : List CV) : Option X :=
grd (Nat.beq (List.length x0) 32) <|
loop1 (0, 0, x0, [])
/-- "outpost/outpostref01.Hex" -/
def f21_A (k : Nat) : f21_R := fun X K x0 => f21_T k K (iterV (f21_L1 k K) k) x0
set_option maxRecDepth 100000 in
theorem f21_ev' {X : Type} (k : Nat) (K : Out → Option X) (x0 : List CV) : evFnK (f21_cx) [] k Tryd.f21.ntmps Tryd.f21.results.toList (Tryd.f21.body.getD .skip) [(.v (CV.agg x0))] [] K = f21_T k (fun u => K (f21_out u)) (fun v => iter (loopB (f21_cx) k [.r, .r, .l, .r, .b] (Tryd.f21.body.getD .skip) (retK (f21_cx) [] Tryd.f21.results.toList K) []) k (f21_S1 v)) x0 := by kernel_rfl
theorem f21_ev {X : Type} (k : Nat) (K : Out → Option X) (x0 : List CV) : evFnK (f21_cx) [] k Tryd.f21.ntmps Tryd.f21.results.toList (Tryd.f21.body.getD .skip) [(.v (CV.agg x0))] [] K = f21_A k X (fun u => K (f21_out u)) x0 := (f21_ev' k K x0).trans (by rw [f21_L1_it k K]; rfl)
theorem f21_okA (k : Nat) : AnsOk Tryd.prog 21 (f21_cOf (f21_A k)) := by
  intro X xs ns K x h
  unfold f21_cOf at h ⊢
  split at h
  · exact ans_main S (f21_Cok) Tryd.func21 (ent_of Tryd.func21 (by kernel_rfl) rfl) rfl (fun X K => f21_ev k K _) h
  · cases h
/-- "outpost/outpostref01.Hex" -/
def f21 {X : Type} (k : Nat) (K : ByteArray → Option X) (x0 : List CV) : Option X := f21_A k X K x0
theorem f21_ok (k : Nat) : AnsOk Tryd.prog 21 (f21_cOf (fun X => @f21 X k)) := f21_okA k
abbrev f4_R : Type 1 := (X : Type) → (Bool → Option X) → (List CV) → ByteArray → Option X
def f4_out (u : Bool) : Out := ⟨(.v (CV.bool u)), []⟩
def f4_cOf (R : f4_R) : FnC := fun X xs ns K => match xs, ns with
  | [(.v (CV.agg x0)), (.v (CV.str x1))], [] => R X (fun u => K (f4_out u)) x0 x1
  | _, _ => none
def f4_plan : Nat → Option (List Nat × List Wk)
  | 0 => some ([0, 1], [])
  | 1 => some ([1, 2], [])
  | 2 => some ([], [])
  | 3 => some ([1, 2], [])
  | 4 => some ([1, 2, 5, 6], [])
  | 5 => some ([2, 5, 6, 7, 8], [])
  | _ => none
def f4_C (R_f9 : f9_R) (R_f18 : f18_R) (R_f19 : f19_R) (R_f20 : f20_R) (R_f21 : f21_R) : Fns := (orC 9 (f9_cOf R_f9) (orC 18 (f18_cOf R_f18) (orC 19 (f19_cOf R_f19) (orC 20 (f20_cOf R_f20) (orC 21 (f21_cOf R_f21) noC)))))
theorem f4_Cok (R_f9 : f9_R) (R_f18 : f18_R) (R_f19 : f19_R) (R_f20 : f20_R) (R_f21 : f21_R) (hR_f9 : AnsOk Tryd.prog 9 (f9_cOf R_f9)) (hR_f18 : AnsOk Tryd.prog 18 (f18_cOf R_f18)) (hR_f19 : AnsOk Tryd.prog 19 (f19_cOf R_f19)) (hR_f20 : AnsOk Tryd.prog 20 (f20_cOf R_f20)) (hR_f21 : AnsOk Tryd.prog 21 (f21_cOf R_f21)) : CsOk Tryd.prog (f4_C R_f9 R_f18 R_f19 R_f20 R_f21) := (orC_ok hR_f9 (orC_ok hR_f18 (orC_ok hR_f19 (orC_ok hR_f20 (orC_ok hR_f21 noC_ok)))))
def f4_cx (R_f9 : f9_R) (R_f18 : f18_R) (R_f19 : f19_R) (R_f20 : f20_R) (R_f21 : f21_R) (hR_f9 : AnsOk Tryd.prog 9 (f9_cOf R_f9)) (hR_f18 : AnsOk Tryd.prog 18 (f18_cOf R_f18)) (hR_f19 : AnsOk Tryd.prog 19 (f19_cOf R_f19)) (hR_f20 : AnsOk Tryd.prog 20 (f20_cOf R_f20)) (hR_f21 : AnsOk Tryd.prog 21 (f21_cOf R_f21)) : Cx := mkCx (tabOf rows) (f4_C R_f9 R_f18 R_f19 R_f20 R_f21) md (cmpIn cmps) f4_plan (f4_Cok R_f9 R_f18 R_f19 R_f20 R_f21 hR_f9 hR_f18 hR_f19 hR_f20 hR_f21)
def f4_T {X : Type} (R_f9 : f9_R) (R_f18 : f18_R) (R_f19 : f19_R) (R_f20 : f20_R) (R_f21 : f21_R) (k : Nat) (K : Bool → Option X)  (x0 : List CV) (x1 : ByteArray) : Option X :=
grd (Nat.beq (List.length x0) 32) <|
R_f9 _ (fun u2 =>
(bif (!u2) then
K (false)
else
R_f18 _ (fun u3 =>
grd (Nat.beq (List.length u3.1) 32) <|
grd (decide (32 ≤ 32)) <|
R_f19 _ (fun u4 =>
grd (Nat.beq (List.length u4.1) 32) <|
grd (decide (32 ≤ 32)) <|
grd (decide (32 ≤ (List.length x0))) <|
R_f20 _ (fun u5 =>
grd (decide (32 ≤ (List.length x0))) <|
R_f21 _ (fun u6 =>
(bif (u5.toList == u6.toList) then
grd (decide (32 ≤ (List.length ((List.take 0 (List.replicate 32 (CV.int .u8 0))) ++ u3.1 ++ (List.drop 32 (List.replicate 32 (CV.int .u8 0))))))) <|
grd (decide (32 ≤ (List.length ((List.take 0 (List.replicate 32 (CV.int .u8 0))) ++ u4.1 ++ (List.drop 32 (List.replicate 32 (CV.int .u8 0))))))) <|
grd (numsAre .u8 32 (List.take 32 (List.drop 0 ((List.take 0 (List.replicate 32 (CV.int .u8 0))) ++ u3.1 ++ (List.drop 32 (List.replicate 32 (CV.int .u8 0)))))) && numsAre .u8 32 (List.take 32 (List.drop 0 ((List.take 0 (List.replicate 32 (CV.int .u8 0))) ++ u4.1 ++ (List.drop 32 (List.replicate 32 (CV.int .u8 0))))))) <|
(bif (intsOf (List.take 32 (List.drop 0 ((List.take 0 (List.replicate 32 (CV.int .u8 0))) ++ u3.1 ++ (List.drop 32 (List.replicate 32 (CV.int .u8 0)))))) == intsOf (List.take 32 (List.drop 0 ((List.take 0 (List.replicate 32 (CV.int .u8 0))) ++ u4.1 ++ (List.drop 32 (List.replicate 32 (CV.int .u8 0))))))) then
K ((u3.2 == u4.2))
else
K (false))
else
K (false))) ((List.take 32 (List.drop 0 x0)))) ((List.take 32 (List.drop 0 x0)))) (x1)) (x1))) 
/-- "outpost/outpostlaw01.ShaHex" -/
def f4_A (R_f9 : f9_R) (R_f18 : f18_R) (R_f19 : f19_R) (R_f20 : f20_R) (R_f21 : f21_R) (k : Nat) : f4_R := fun X K x0 x1 => f4_T R_f9 R_f18 R_f19 R_f20 R_f21 k K  x0 x1
set_option maxRecDepth 100000 in
theorem f4_ev' {X : Type} (R_f9 : f9_R) (R_f18 : f18_R) (R_f19 : f19_R) (R_f20 : f20_R) (R_f21 : f21_R) (hR_f9 : AnsOk Tryd.prog 9 (f9_cOf R_f9)) (hR_f18 : AnsOk Tryd.prog 18 (f18_cOf R_f18)) (hR_f19 : AnsOk Tryd.prog 19 (f19_cOf R_f19)) (hR_f20 : AnsOk Tryd.prog 20 (f20_cOf R_f20)) (hR_f21 : AnsOk Tryd.prog 21 (f21_cOf R_f21)) (k : Nat) (K : Out → Option X) (x0 : List CV) (x1 : ByteArray) : evFnK (f4_cx R_f9 R_f18 R_f19 R_f20 R_f21 hR_f9 hR_f18 hR_f19 hR_f20 hR_f21) [] k Tryd.f4.ntmps Tryd.f4.results.toList (Tryd.f4.body.getD .skip) [(.v (CV.agg x0)), (.v (CV.str x1))] [] K = f4_T R_f9 R_f18 R_f19 R_f20 R_f21 k (fun u => K (f4_out u)) x0 x1 := by kernel_rfl
theorem f4_ev {X : Type} (R_f9 : f9_R) (R_f18 : f18_R) (R_f19 : f19_R) (R_f20 : f20_R) (R_f21 : f21_R) (hR_f9 : AnsOk Tryd.prog 9 (f9_cOf R_f9)) (hR_f18 : AnsOk Tryd.prog 18 (f18_cOf R_f18)) (hR_f19 : AnsOk Tryd.prog 19 (f19_cOf R_f19)) (hR_f20 : AnsOk Tryd.prog 20 (f20_cOf R_f20)) (hR_f21 : AnsOk Tryd.prog 21 (f21_cOf R_f21)) (k : Nat) (K : Out → Option X) (x0 : List CV) (x1 : ByteArray) : evFnK (f4_cx R_f9 R_f18 R_f19 R_f20 R_f21 hR_f9 hR_f18 hR_f19 hR_f20 hR_f21) [] k Tryd.f4.ntmps Tryd.f4.results.toList (Tryd.f4.body.getD .skip) [(.v (CV.agg x0)), (.v (CV.str x1))] [] K = f4_A R_f9 R_f18 R_f19 R_f20 R_f21 k X (fun u => K (f4_out u)) x0 x1 := (f4_ev' R_f9 R_f18 R_f19 R_f20 R_f21 hR_f9 hR_f18 hR_f19 hR_f20 hR_f21 k K x0 x1).trans rfl
theorem f4_okA (R_f9 : f9_R) (R_f18 : f18_R) (R_f19 : f19_R) (R_f20 : f20_R) (R_f21 : f21_R) (hR_f9 : AnsOk Tryd.prog 9 (f9_cOf R_f9)) (hR_f18 : AnsOk Tryd.prog 18 (f18_cOf R_f18)) (hR_f19 : AnsOk Tryd.prog 19 (f19_cOf R_f19)) (hR_f20 : AnsOk Tryd.prog 20 (f20_cOf R_f20)) (hR_f21 : AnsOk Tryd.prog 21 (f21_cOf R_f21)) (k : Nat) : AnsOk Tryd.prog 4 (f4_cOf (f4_A R_f9 R_f18 R_f19 R_f20 R_f21 k)) := by
  intro X xs ns K x h
  unfold f4_cOf at h ⊢
  split at h
  · exact ans_main S (f4_Cok R_f9 R_f18 R_f19 R_f20 R_f21 hR_f9 hR_f18 hR_f19 hR_f20 hR_f21) Tryd.func4 (ent_of Tryd.func4 (by kernel_rfl) rfl) rfl (fun X K => f4_ev R_f9 R_f18 R_f19 R_f20 R_f21 hR_f9 hR_f18 hR_f19 hR_f20 hR_f21 k K _ _) h
  · cases h
/-- "outpost/outpostlaw01.ShaHex" -/
def f4 {X : Type} (k : Nat) (K : Bool → Option X) (x0 : List CV) (x1 : ByteArray) : Option X := f4_A (fun X => @f9 X k) (fun X => @f18 X k) (fun X => @f19 X k) (fun X => @f20 X k) (fun X => @f21 X k) k X K x0 x1
theorem f4_ok (k : Nat) : AnsOk Tryd.prog 4 (f4_cOf (fun X => @f4 X k)) := f4_okA (fun X => @f9 X k) (fun X => @f18 X k) (fun X => @f19 X k) (fun X => @f20 X k) (fun X => @f21 X k) (f9_ok k) (f18_ok k) (f19_ok k) (f20_ok k) (f21_ok k) k
abbrev f5_R : Type 1 := (X : Type) → (Bool → Option X) → (List CV) → Int → Option X
def f5_out (u : Bool) : Out := ⟨(.v (CV.bool u)), []⟩
def f5_cOf (R : f5_R) : FnC := fun X xs ns K => match xs, ns with
  | [(.v (CV.agg x0)), (.v (CV.int .u64 x1))], [] => R X (fun u => K (f5_out u)) x0 x1
  | _, _ => none
def f5_plan : Nat → Option (List Nat × List Wk)
  | 0 => some ([0, 1], [])
  | 1 => some ([1, 2], [])
  | 2 => some ([], [])
  | 3 => some ([1, 2], [])
  | 4 => some ([1, 2, 5], [])
  | 5 => some ([1, 2, 5, 15, 16], [])
  | 6 => some ([1, 2, 5, 15, 16], [])
  | 7 => some ([1, 2, 5, 6, 15, 16], [])
  | 8 => some ([1, 2, 5, 6, 15, 16], [])
  | 9 => some ([1, 2, 5, 15, 16], [])
  | 10 => some ([2, 5], [])
  | 11 => some ([2, 5, 7, 8], [])
  | _ => none
def f5_C (R_f9 : f9_R) (R_f20 : f20_R) (R_f18 : f18_R) : Fns := (orC 9 (f9_cOf R_f9) (orC 18 (f18_cOf R_f18) (orC 20 (f20_cOf R_f20) noC)))
theorem f5_Cok (R_f9 : f9_R) (R_f20 : f20_R) (R_f18 : f18_R) (hR_f9 : AnsOk Tryd.prog 9 (f9_cOf R_f9)) (hR_f20 : AnsOk Tryd.prog 20 (f20_cOf R_f20)) (hR_f18 : AnsOk Tryd.prog 18 (f18_cOf R_f18)) : CsOk Tryd.prog (f5_C R_f9 R_f20 R_f18) := (orC_ok hR_f9 (orC_ok hR_f18 (orC_ok hR_f20 noC_ok)))
def f5_cx (R_f9 : f9_R) (R_f20 : f20_R) (R_f18 : f18_R) (hR_f9 : AnsOk Tryd.prog 9 (f9_cOf R_f9)) (hR_f20 : AnsOk Tryd.prog 20 (f20_cOf R_f20)) (hR_f18 : AnsOk Tryd.prog 18 (f18_cOf R_f18)) : Cx := mkCx (tabOf rows) (f5_C R_f9 R_f20 R_f18) md (cmpIn cmps) f5_plan (f5_Cok R_f9 R_f20 R_f18 hR_f9 hR_f20 hR_f18)
def f5_S1 (v : Int × Nat × Int × Int × (List CV) × (List CV)) : St := ⟨[.undef, (.v (CV.int .u64 v.1)), (.ptr [2] 1 0 0), .undef, .undef, (.osl [5] none 0 v.2.1), .undef, .undef, .undef, .undef, .undef, .undef, .undef, .undef, .undef, (.v (CV.int .i64 v.2.2.1)), (.v (CV.int .i64 v.2.2.2.1)), .undef, .undef, .undef, .undef, .undef, .undef, .undef, .undef, .undef, .undef, .undef, .undef, .undef, .undef, .undef, .undef, .undef, .undef, .undef, .undef, .undef, .undef, .undef, .undef, .undef, .undef, .undef, .undef, .undef, .undef, .undef, .undef, .undef, .undef, .undef, .undef, .undef, .undef, .undef, .undef], [([2], (.row false none v.2.2.2.2.1)), ([5], (.row false none v.2.2.2.2.2))]⟩
def f5_J1 {X : Type} (R_f9 : f9_R) (R_f20 : f20_R) (R_f18 : f18_R) (k : Nat) (K : Bool → Option X) (rec1 : Int × Nat × Int × Int × (List CV) × (List CV) → Option X) (v6_3 : Int × Nat × Int × Int × (List CV) × (List CV)) (v11 : (List CV)) : Option X :=
rec1 (v6_3.1, v6_3.2.1, v6_3.2.2.1, (IntKind.wrap .i64 (v6_3.2.2.2.1 + 1)), v6_3.2.2.2.2.1, v11)
def f5_T1 {X : Type} (R_f9 : f9_R) (R_f20 : f20_R) (R_f18 : f18_R) (k : Nat) (K : Bool → Option X)   (rec1 : Int × Nat × Int × Int × (List CV) × (List CV) → Option X) (v6_3 : Int × Nat × Int × Int × (List CV) × (List CV)) : Option X :=
(bif (decide (v6_3.2.2.2.1 < v6_3.2.2.1)) then
grd (decide (0 ≤ v6_3.2.2.2.1)) <|
grd (decide (v6_3.2.2.2.1 < (Nat.cast (v6_3.2.1) : Int))) <|
Option.bind (v6_3.2.2.2.2.2)[((0 + (Int.toNat v6_3.2.2.2.1)) + 0)]? fun e12 =>
grd (CV.isI .u8 e12) <|
(bif (decide ((CV.toI e12) ≥ 97)) then
grd (decide (0 ≤ (bop .and .i64 v6_3.2.2.2.1 63))) <|
(bif ((bop .and .u64 (Int.fdiv v6_3.1 (2 ^ (min (Int.toNat (bop .and .i64 v6_3.2.2.2.1 63)) 64))) 1) == 1) then
grd (decide (0 ≤ v6_3.2.2.2.1)) <|
grd (decide (v6_3.2.2.2.1 < (Nat.cast (v6_3.2.1) : Int))) <|
Option.bind (v6_3.2.2.2.2.2)[((0 + (Int.toNat v6_3.2.2.2.1)) + 0)]? fun e13 =>
grd (CV.isI .u8 e13) <|
grd (decide (0 ≤ v6_3.2.2.2.1)) <|
grd (decide (v6_3.2.2.2.1 < (Nat.cast (v6_3.2.1) : Int))) <|
grd (decide (((0 + (Int.toNat v6_3.2.2.2.1)) + 0) < (List.length v6_3.2.2.2.2.2))) <|
f5_J1 R_f9 R_f20 R_f18 k K rec1 v6_3 ((List.set v6_3.2.2.2.2.2 ((0 + (Int.toNat v6_3.2.2.2.1)) + 0) (CV.int .u8 (IntKind.wrap .u8 ((CV.toI e13) - 32)))))
else
f5_J1 R_f9 R_f20 R_f18 k K rec1 v6_3 (v6_3.2.2.2.2.2))
else
f5_J1 R_f9 R_f20 R_f18 k K rec1 v6_3 (v6_3.2.2.2.2.2))
else
grd (shEq none none && List.all (List.take v6_3.2.1 (List.drop 0 v6_3.2.2.2.2.2)) (CV.isI .u8)) <|
R_f18 _ (fun u14 =>
grd (Nat.beq (List.length u14.1) 32) <|
grd (decide (32 ≤ 32)) <|
(bif (u14.2 == 0) then
grd (decide (32 ≤ (List.length ((List.take 0 (List.replicate 32 (CV.int .u8 0))) ++ u14.1 ++ (List.drop 32 (List.replicate 32 (CV.int .u8 0))))))) <|
grd (decide (32 ≤ (List.length v6_3.2.2.2.2.1))) <|
grd (numsAre .u8 32 (List.take 32 (List.drop 0 ((List.take 0 (List.replicate 32 (CV.int .u8 0))) ++ u14.1 ++ (List.drop 32 (List.replicate 32 (CV.int .u8 0)))))) && numsAre .u8 32 (List.take 32 (List.drop 0 v6_3.2.2.2.2.1))) <|
(bif (intsOf (List.take 32 (List.drop 0 ((List.take 0 (List.replicate 32 (CV.int .u8 0))) ++ u14.1 ++ (List.drop 32 (List.replicate 32 (CV.int .u8 0)))))) == intsOf (List.take 32 (List.drop 0 v6_3.2.2.2.2.1))) then
K (((Nat.cast (v6_3.2.1) : Int) == 64))
else
K (false))
else
K (false))) ((bytesOf (List.take v6_3.2.1 (List.drop 0 v6_3.2.2.2.2.2)))))
def f5_L1 {X : Type} (R_f9 : f9_R) (R_f20 : f20_R) (R_f18 : f18_R) (k : Nat) (K : Bool → Option X)  (rec1 : Int × Nat × Int × Int × (List CV) × (List CV) → Option X) (v : Int × Nat × Int × Int × (List CV) × (List CV)) : Option X := f5_T1 R_f9 R_f20 R_f18 k K   rec1 v
set_option maxRecDepth 100000 in
theorem f5_L1_ev {X : Type} (R_f9 : f9_R) (R_f20 : f20_R) (R_f18 : f18_R) (hR_f9 : AnsOk Tryd.prog 9 (f9_cOf R_f9)) (hR_f20 : AnsOk Tryd.prog 20 (f20_cOf R_f20)) (hR_f18 : AnsOk Tryd.prog 18 (f18_cOf R_f18)) (k : Nat) (K : Out → Option X)  (r1 : St → Option X) (v : Int × Nat × Int × Int × (List CV) × (List CV)) : loopB (f5_cx R_f9 R_f20 R_f18 hR_f9 hR_f20 hR_f18) k [.r, .r, .r, .l, .r, .b] (Tryd.f5.body.getD .skip) (retK (f5_cx R_f9 R_f20 R_f18 hR_f9 hR_f20 hR_f18) [] Tryd.f5.results.toList K) [] r1 (f5_S1 v) = f5_T1 R_f9 R_f20 R_f18 k (fun u => K (f5_out u))   (fun v => r1 (f5_S1 v)) v := by kernel_rfl
theorem f5_L1_it {X : Type} (R_f9 : f9_R) (R_f20 : f20_R) (R_f18 : f18_R) (hR_f9 : AnsOk Tryd.prog 9 (f9_cOf R_f9)) (hR_f20 : AnsOk Tryd.prog 20 (f20_cOf R_f20)) (hR_f18 : AnsOk Tryd.prog 18 (f18_cOf R_f18)) (k : Nat) (K : Out → Option X)  : (fun v => iter (loopB (f5_cx R_f9 R_f20 R_f18 hR_f9 hR_f20 hR_f18) k [.r, .r, .r, .l, .r, .b] (Tryd.f5.body.getD .skip) (retK (f5_cx R_f9 R_f20 R_f18 hR_f9 hR_f20 hR_f18) [] Tryd.f5.results.toList K) []) k (f5_S1 v)) = iterV (f5_L1 R_f9 R_f20 R_f18 k (fun u => K (f5_out u)) ) k :=
  iter_map (fun r1 v => (f5_L1_ev R_f9 R_f20 R_f18 hR_f9 hR_f20 hR_f18 k K  r1 v).trans rfl) k
def f5_T {X : Type} (R_f9 : f9_R) (R_f20 : f20_R) (R_f18 : f18_R) (k : Nat) (K : Bool → Option X) (loop1 : Int × Nat × Int × Int × (List CV) × (List CV) → Option X) (x0 : List CV) (x1 : Int) : Option X :=
grd (Nat.beq (List.length x0) 32) <|
R_f9 _ (fun u2 =>
(bif (!u2) then
K (false)
else
grd (decide (32 ≤ (List.length x0))) <|
R_f20 _ (fun u3 =>
grd (decide (0 < ByteArray.size u3)) <|
loop1 (x1, (ByteArray.size u3), (Nat.cast ((ByteArray.size u3)) : Int), 0, x0, (strCV u3))) ((List.take 32 (List.drop 0 x0))))) 
/-- "outpost/outpostlaw01.ShaBack" -/
def f5_A (R_f9 : f9_R) (R_f20 : f20_R) (R_f18 : f18_R) (k : Nat) : f5_R := fun X K x0 x1 => f5_T R_f9 R_f20 R_f18 k K (iterV (f5_L1 R_f9 R_f20 R_f18 k K) k) x0 x1
set_option maxRecDepth 100000 in
theorem f5_ev' {X : Type} (R_f9 : f9_R) (R_f20 : f20_R) (R_f18 : f18_R) (hR_f9 : AnsOk Tryd.prog 9 (f9_cOf R_f9)) (hR_f20 : AnsOk Tryd.prog 20 (f20_cOf R_f20)) (hR_f18 : AnsOk Tryd.prog 18 (f18_cOf R_f18)) (k : Nat) (K : Out → Option X) (x0 : List CV) (x1 : Int) : evFnK (f5_cx R_f9 R_f20 R_f18 hR_f9 hR_f20 hR_f18) [] k Tryd.f5.ntmps Tryd.f5.results.toList (Tryd.f5.body.getD .skip) [(.v (CV.agg x0)), (.v (CV.int .u64 x1))] [] K = f5_T R_f9 R_f20 R_f18 k (fun u => K (f5_out u)) (fun v => iter (loopB (f5_cx R_f9 R_f20 R_f18 hR_f9 hR_f20 hR_f18) k [.r, .r, .r, .l, .r, .b] (Tryd.f5.body.getD .skip) (retK (f5_cx R_f9 R_f20 R_f18 hR_f9 hR_f20 hR_f18) [] Tryd.f5.results.toList K) []) k (f5_S1 v)) x0 x1 := by kernel_rfl
theorem f5_ev {X : Type} (R_f9 : f9_R) (R_f20 : f20_R) (R_f18 : f18_R) (hR_f9 : AnsOk Tryd.prog 9 (f9_cOf R_f9)) (hR_f20 : AnsOk Tryd.prog 20 (f20_cOf R_f20)) (hR_f18 : AnsOk Tryd.prog 18 (f18_cOf R_f18)) (k : Nat) (K : Out → Option X) (x0 : List CV) (x1 : Int) : evFnK (f5_cx R_f9 R_f20 R_f18 hR_f9 hR_f20 hR_f18) [] k Tryd.f5.ntmps Tryd.f5.results.toList (Tryd.f5.body.getD .skip) [(.v (CV.agg x0)), (.v (CV.int .u64 x1))] [] K = f5_A R_f9 R_f20 R_f18 k X (fun u => K (f5_out u)) x0 x1 := (f5_ev' R_f9 R_f20 R_f18 hR_f9 hR_f20 hR_f18 k K x0 x1).trans (by rw [f5_L1_it R_f9 R_f20 R_f18 hR_f9 hR_f20 hR_f18 k K]; rfl)
theorem f5_okA (R_f9 : f9_R) (R_f20 : f20_R) (R_f18 : f18_R) (hR_f9 : AnsOk Tryd.prog 9 (f9_cOf R_f9)) (hR_f20 : AnsOk Tryd.prog 20 (f20_cOf R_f20)) (hR_f18 : AnsOk Tryd.prog 18 (f18_cOf R_f18)) (k : Nat) : AnsOk Tryd.prog 5 (f5_cOf (f5_A R_f9 R_f20 R_f18 k)) := by
  intro X xs ns K x h
  unfold f5_cOf at h ⊢
  split at h
  · exact ans_main S (f5_Cok R_f9 R_f20 R_f18 hR_f9 hR_f20 hR_f18) Tryd.func5 (ent_of Tryd.func5 (by kernel_rfl) rfl) rfl (fun X K => f5_ev R_f9 R_f20 R_f18 hR_f9 hR_f20 hR_f18 k K _ _) h
  · cases h
/-- "outpost/outpostlaw01.ShaBack" -/
def f5 {X : Type} (k : Nat) (K : Bool → Option X) (x0 : List CV) (x1 : Int) : Option X := f5_A (fun X => @f9 X k) (fun X => @f20 X k) (fun X => @f18 X k) k X K x0 x1
theorem f5_ok (k : Nat) : AnsOk Tryd.prog 5 (f5_cOf (fun X => @f5 X k)) := f5_okA (fun X => @f9 X k) (fun X => @f20 X k) (fun X => @f18 X k) (f9_ok k) (f20_ok k) (f18_ok k) k
end Go.Proofs.YtlaojkheenobaaaDoorD
