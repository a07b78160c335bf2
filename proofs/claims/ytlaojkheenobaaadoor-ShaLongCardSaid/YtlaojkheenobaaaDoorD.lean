/- Functions of the program, as plain Lean functions: each with the proof that the evaluator computes it. (Printed by wip/dec/dec.py.) -/
import Derived.Test.YtlaojkheenobaaaDoorTN
import Derived.Test.YtlaojkheenobaaaDoorTO
import Derived.Test.YtlaojkheenobaaaDoorTR
import Derived.Test.YtlaojkheenobaaaDoorProg
import Derived.Test.YtlaojkheenobaaaDoorChecked
import Derived.Test.YtlaojkheenobaaaDoorHx
namespace Go.Proofs.YtlaojkheenobaaaDoorD
open Go Go.Proofs.YtlaojkheenobaaaDoorS Go.Proofs
set_option linter.unusedVariables false
set_option linter.unusedSimpArgs false
def rows : List (Nat × TI) := [
  (2, ⟨(.int .i64), 1, 8, .v (.int .i64 0)⟩),
  (3, ⟨(.int .i64), 1, 8, .v (.int .i64 0)⟩),
  (4, ⟨.bool, 1, 1, .v (.bool false)⟩),
  (5, ⟨(.int .u8), 1, 1, .v (.int .u8 0)⟩),
  (9, ⟨.str, 1, 16, .v (.str ⟨#[]⟩)⟩),
  (21, ⟨(.int .i32), 1, 4, .v (.int .i32 0)⟩),
  (22, ⟨(.slice 27), 1, 24, .nil0 none⟩),
  (25, ⟨(.arr 32 5), 32, 32, .v (.agg [(.int .u8 0), (.int .u8 0), (.int .u8 0), (.int .u8 0), (.int .u8 0), (.int .u8 0), (.int .u8 0), (.int .u8 0), (.int .u8 0), (.int .u8 0), (.int .u8 0), (.int .u8 0), (.int .u8 0), (.int .u8 0), (.int .u8 0), (.int .u8 0), (.int .u8 0), (.int .u8 0), (.int .u8 0), (.int .u8 0), (.int .u8 0), (.int .u8 0), (.int .u8 0), (.int .u8 0), (.int .u8 0), (.int .u8 0), (.int .u8 0), (.int .u8 0), (.int .u8 0), (.int .u8 0), (.int .u8 0), (.int .u8 0)])⟩),
  (27, ⟨(.slice 5), 1, 24, .nil0 none⟩),
  (29, ⟨(.ptr 58), 1, 8, .v .nilp⟩),
  (36, ⟨(.int .i64), 1, 8, .v (.int .i64 0)⟩),
  (43, ⟨(.int .u64), 1, 8, .v (.int .u64 0)⟩),
  (50, ⟨(.int .u32), 1, 4, .v (.int .u32 0)⟩),
  (51, ⟨(.arr 8 50), 8, 32, .v (.agg [(.int .u32 0), (.int .u32 0), (.int .u32 0), (.int .u32 0), (.int .u32 0), (.int .u32 0), (.int .u32 0), (.int .u32 0)])⟩),
  (52, ⟨(.arr 64 50), 64, 256, .v (.agg [(.int .u32 0), (.int .u32 0), (.int .u32 0), (.int .u32 0), (.int .u32 0), (.int .u32 0), (.int .u32 0), (.int .u32 0), (.int .u32 0), (.int .u32 0), (.int .u32 0), (.int .u32 0), (.int .u32 0), (.int .u32 0), (.int .u32 0), (.int .u32 0), (.int .u32 0), (.int .u32 0), (.int .u32 0), (.int .u32 0), (.int .u32 0), (.int .u32 0), (.int .u32 0), (.int .u32 0), (.int .u32 0), (.int .u32 0), (.int .u32 0), (.int .u32 0), (.int .u32 0), (.int .u32 0), (.int .u32 0), (.int .u32 0), (.int .u32 0), (.int .u32 0), (.int .u32 0), (.int .u32 0), (.int .u32 0), (.int .u32 0), (.int .u32 0), (.int .u32 0), (.int .u32 0), (.int .u32 0), (.int .u32 0), (.int .u32 0), (.int .u32 0), (.int .u32 0), (.int .u32 0), (.int .u32 0), (.int .u32 0), (.int .u32 0), (.int .u32 0), (.int .u32 0), (.int .u32 0), (.int .u32 0), (.int .u32 0), (.int .u32 0), (.int .u32 0), (.int .u32 0), (.int .u32 0), (.int .u32 0), (.int .u32 0), (.int .u32 0), (.int .u32 0), (.int .u32 0)])⟩),
  (54, ⟨(.int .u64), 1, 8, .v (.int .u64 0)⟩),
  (56, ⟨(.arr 64 5), 64, 64, .v (.agg [(.int .u8 0), (.int .u8 0), (.int .u8 0), (.int .u8 0), (.int .u8 0), (.int .u8 0), (.int .u8 0), (.int .u8 0), (.int .u8 0), (.int .u8 0), (.int .u8 0), (.int .u8 0), (.int .u8 0), (.int .u8 0), (.int .u8 0), (.int .u8 0), (.int .u8 0), (.int .u8 0), (.int .u8 0), (.int .u8 0), (.int .u8 0), (.int .u8 0), (.int .u8 0), (.int .u8 0), (.int .u8 0), (.int .u8 0), (.int .u8 0), (.int .u8 0), (.int .u8 0), (.int .u8 0), (.int .u8 0), (.int .u8 0), (.int .u8 0), (.int .u8 0), (.int .u8 0), (.int .u8 0), (.int .u8 0), (.int .u8 0), (.int .u8 0), (.int .u8 0), (.int .u8 0), (.int .u8 0), (.int .u8 0), (.int .u8 0), (.int .u8 0), (.int .u8 0), (.int .u8 0), (.int .u8 0), (.int .u8 0), (.int .u8 0), (.int .u8 0), (.int .u8 0), (.int .u8 0), (.int .u8 0), (.int .u8 0), (.int .u8 0), (.int .u8 0), (.int .u8 0), (.int .u8 0), (.int .u8 0), (.int .u8 0), (.int .u8 0), (.int .u8 0), (.int .u8 0)])⟩),
  (58, ⟨(.struct [(0, 51), (8, 56), (72, 2)]), 73, 104, .v (.agg [(.int .u32 0), (.int .u32 0), (.int .u32 0), (.int .u32 0), (.int .u32 0), (.int .u32 0), (.int .u32 0), (.int .u32 0), (.int .u8 0), (.int .u8 0), (.int .u8 0), (.int .u8 0), (.int .u8 0), (.int .u8 0), (.int .u8 0), (.int .u8 0), (.int .u8 0), (.int .u8 0), (.int .u8 0), (.int .u8 0), (.int .u8 0), (.int .u8 0), (.int .u8 0), (.int .u8 0), (.int .u8 0), (.int .u8 0), (.int .u8 0), (.int .u8 0), (.int .u8 0), (.int .u8 0), (.int .u8 0), (.int .u8 0), (.int .u8 0), (.int .u8 0), (.int .u8 0), (.int .u8 0), (.int .u8 0), (.int .u8 0), (.int .u8 0), (.int .u8 0), (.int .u8 0), (.int .u8 0), (.int .u8 0), (.int .u8 0), (.int .u8 0), (.int .u8 0), (.int .u8 0), (.int .u8 0), (.int .u8 0), (.int .u8 0), (.int .u8 0), (.int .u8 0), (.int .u8 0), (.int .u8 0), (.int .u8 0), (.int .u8 0), (.int .u8 0), (.int .u8 0), (.int .u8 0), (.int .u8 0), (.int .u8 0), (.int .u8 0), (.int .u8 0), (.int .u8 0), (.int .u8 0), (.int .u8 0), (.int .u8 0), (.int .u8 0), (.int .u8 0), (.int .u8 0), (.int .u8 0), (.int .u8 0), (.int .i64 0)])⟩),
  (70, ⟨(.ptr 56), 1, 8, .v .nilp⟩),
  (71, ⟨(.slice 50), 1, 24, .nil0 none⟩)]
set_option maxRecDepth 100000 in
theorem rows_ok : rowsAre Tryd.prog rows = true := by kernel_rfl
def cmps : List Nat := [25]
theorem cmps_ok : cmpsAre Tryd.prog cmps = true := by kernel_rfl
def S : Seat Tryd.prog := ⟨rows, rows_ok, Tryd.checked.mixed, cmps, cmps_ok⟩
def md (g : FuncId) (i : Nat) : Nat := 0
def setRun {X : Type} (e : CV) (j n : Nat) (cs : List CV) (K : CV → Option X) : Option X := match e with
  | .agg ds => grd (Nat.ble (j + n) ds.length) (K (.agg (putRun ds j cs)))
  | _ => none
def setCell {X : Type} (e : CV) (j : Nat) (c : CV) (K : CV → Option X) : Option X := match e with
  | .agg ds => grd (Nat.blt j ds.length) (K (.agg (ds.set j c)))
  | _ => none
abbrev f25_R : Type 1 := (X : Type) → ((List CV) → Option X) → Option X
def f25_out (u : (List CV)) : Out := ⟨(.v (CV.agg u)), []⟩
def f25_cOf (R : f25_R) : FnC := fun X xs ns K => match xs, ns with
  | [], [] => R X (fun u => K (f25_out u)) 
  | _, _ => none
def f25_plan : Nat → Option (List Nat × List Wk)
  | 0 => some ([], [])
  | 1 => some ([0], [])
  | _ => none
def f25_C : Fns := noC
theorem f25_Cok : CsOk Tryd.prog (f25_C) := noC_ok
def f25_cx : Cx := mkCx (tabOf rows) (f25_C) md (cmpIn cmps) f25_plan (f25_Cok)
def f25_T {X : Type} (k : Nat) (K : (List CV) → Option X)   : Option X :=
grd (decide (8 ≤ 8)) <|
grd (decide (8 ≤ (List.length ((List.take 0 [(CV.int .u32 0), (CV.int .u32 0), (CV.int .u32 0), (CV.int .u32 0), (CV.int .u32 0), (CV.int .u32 0), (CV.int .u32 0), (CV.int .u32 0)]) ++ [(CV.int .u32 1779033703), (CV.int .u32 3144134277), (CV.int .u32 1013904242), (CV.int .u32 2773480762), (CV.int .u32 1359893119), (CV.int .u32 2600822924), (CV.int .u32 528734635), (CV.int .u32 1541459225)] ++ (List.drop 8 [(CV.int .u32 0), (CV.int .u32 0), (CV.int .u32 0), (CV.int .u32 0), (CV.int .u32 0), (CV.int .u32 0), (CV.int .u32 0), (CV.int .u32 0)]))))) <|
K ((List.take 8 (List.drop 0 ((List.take 0 [(CV.int .u32 0), (CV.int .u32 0), (CV.int .u32 0), (CV.int .u32 0), (CV.int .u32 0), (CV.int .u32 0), (CV.int .u32 0), (CV.int .u32 0)]) ++ [(CV.int .u32 1779033703), (CV.int .u32 3144134277), (CV.int .u32 1013904242), (CV.int .u32 2773480762), (CV.int .u32 1359893119), (CV.int .u32 2600822924), (CV.int .u32 528734635), (CV.int .u32 1541459225)] ++ (List.drop 8 [(CV.int .u32 0), (CV.int .u32 0), (CV.int .u32 0), (CV.int .u32 0), (CV.int .u32 0), (CV.int .u32 0), (CV.int .u32 0), (CV.int .u32 0)])))))
/-- "outpost/sha.first" -/
def f25_A (k : Nat) : f25_R := fun X K  => f25_T k K  
set_option maxRecDepth 100000 in
theorem f25_ev' {X : Type} (k : Nat) (K : Out → Option X)  : evFnK (f25_cx) [] k Tryd.f25.ntmps Tryd.f25.results.toList (Tryd.f25.body.getD .skip) [] [] K = f25_T k (fun u => K (f25_out u))  := by kernel_rfl
theorem f25_ev {X : Type} (k : Nat) (K : Out → Option X)  : evFnK (f25_cx) [] k Tryd.f25.ntmps Tryd.f25.results.toList (Tryd.f25.body.getD .skip) [] [] K = f25_A k X (fun u => K (f25_out u))  := (f25_ev' k K ).trans rfl
theorem f25_okA (k : Nat) : AnsOk Tryd.prog 25 (f25_cOf (f25_A k)) := by
  intro X xs ns K x h
  unfold f25_cOf at h ⊢
  split at h
  · exact ans_main S (f25_Cok) Tryd.func25 (ent_of Tryd.func25 (by kernel_rfl) rfl) rfl (fun X K => f25_ev k K ) h
  · cases h
/-- "outpost/sha.first" -/
def f25 {X : Type} (k : Nat) (K : (List CV) → Option X)  : Option X := f25_A k X K 
theorem f25_ok (k : Nat) : AnsOk Tryd.prog 25 (f25_cOf (fun X => @f25 X k)) := f25_okA k
abbrev f13_R : Type 1 := (X : Type) → ((List CV) → Option X) → Option X
def f13_out (u : (List CV)) : Out := ⟨(.ptr [2000] 1 0 0), [([2000], (.row false none u))]⟩
def f13_cOf (R : f13_R) : FnC := fun X xs ns K => match xs, ns with
  | [], [] => R X (fun u => K (f13_out u)) 
  | _, _ => none
def f13_plan : Nat → Option (List Nat × List Wk)
  | 0 => some ([], [])
  | 1 => some ([], [])
  | _ => none
def f13_C (R_f25 : f25_R) : Fns := (orC 25 (f25_cOf R_f25) noC)
theorem f13_Cok (R_f25 : f25_R) (hR_f25 : AnsOk Tryd.prog 25 (f25_cOf R_f25)) : CsOk Tryd.prog (f13_C R_f25) := (orC_ok hR_f25 noC_ok)
def f13_cx (R_f25 : f25_R) (hR_f25 : AnsOk Tryd.prog 25 (f25_cOf R_f25)) : Cx := mkCx (tabOf rows) (f13_C R_f25) md (cmpIn cmps) f13_plan (f13_Cok R_f25 hR_f25)
def f13_T {X : Type} (R_f25 : f25_R) (k : Nat) (K : (List CV) → Option X)   : Option X :=
R_f25 _ (fun u1 =>
grd (Nat.beq (List.length u1) 8) <|
grd (Nat.beq (List.length ([] ++ u1 ++ [(CV.int .u8 0), (CV.int .u8 0), (CV.int .u8 0), (CV.int .u8 0), (CV.int .u8 0), (CV.int .u8 0), (CV.int .u8 0), (CV.int .u8 0), (CV.int .u8 0), (CV.int .u8 0), (CV.int .u8 0), (CV.int .u8 0), (CV.int .u8 0), (CV.int .u8 0), (CV.int .u8 0), (CV.int .u8 0), (CV.int .u8 0), (CV.int .u8 0), (CV.int .u8 0), (CV.int .u8 0), (CV.int .u8 0), (CV.int .u8 0), (CV.int .u8 0), (CV.int .u8 0), (CV.int .u8 0), (CV.int .u8 0), (CV.int .u8 0), (CV.int .u8 0), (CV.int .u8 0), (CV.int .u8 0), (CV.int .u8 0), (CV.int .u8 0), (CV.int .u8 0), (CV.int .u8 0), (CV.int .u8 0), (CV.int .u8 0), (CV.int .u8 0), (CV.int .u8 0), (CV.int .u8 0), (CV.int .u8 0), (CV.int .u8 0), (CV.int .u8 0), (CV.int .u8 0), (CV.int .u8 0), (CV.int .u8 0), (CV.int .u8 0), (CV.int .u8 0), (CV.int .u8 0), (CV.int .u8 0), (CV.int .u8 0), (CV.int .u8 0), (CV.int .u8 0), (CV.int .u8 0), (CV.int .u8 0), (CV.int .u8 0), (CV.int .u8 0), (CV.int .u8 0), (CV.int .u8 0), (CV.int .u8 0), (CV.int .u8 0), (CV.int .u8 0), (CV.int .u8 0), (CV.int .u8 0), (CV.int .u8 0), (CV.int .i64 0)])) 73) <|
K (([] ++ u1 ++ [(CV.int .u8 0), (CV.int .u8 0), (CV.int .u8 0), (CV.int .u8 0), (CV.int .u8 0), (CV.int .u8 0), (CV.int .u8 0), (CV.int .u8 0), (CV.int .u8 0), (CV.int .u8 0), (CV.int .u8 0), (CV.int .u8 0), (CV.int .u8 0), (CV.int .u8 0), (CV.int .u8 0), (CV.int .u8 0), (CV.int .u8 0), (CV.int .u8 0), (CV.int .u8 0), (CV.int .u8 0), (CV.int .u8 0), (CV.int .u8 0), (CV.int .u8 0), (CV.int .u8 0), (CV.int .u8 0), (CV.int .u8 0), (CV.int .u8 0), (CV.int .u8 0), (CV.int .u8 0), (CV.int .u8 0), (CV.int .u8 0), (CV.int .u8 0), (CV.int .u8 0), (CV.int .u8 0), (CV.int .u8 0), (CV.int .u8 0), (CV.int .u8 0), (CV.int .u8 0), (CV.int .u8 0), (CV.int .u8 0), (CV.int .u8 0), (CV.int .u8 0), (CV.int .u8 0), (CV.int .u8 0), (CV.int .u8 0), (CV.int .u8 0), (CV.int .u8 0), (CV.int .u8 0), (CV.int .u8 0), (CV.int .u8 0), (CV.int .u8 0), (CV.int .u8 0), (CV.int .u8 0), (CV.int .u8 0), (CV.int .u8 0), (CV.int .u8 0), (CV.int .u8 0), (CV.int .u8 0), (CV.int .u8 0), (CV.int .u8 0), (CV.int .u8 0), (CV.int .u8 0), (CV.int .u8 0), (CV.int .u8 0), (CV.int .i64 0)]))) 
/-- "outpost/sha.New" -/
def f13_A (R_f25 : f25_R) (k : Nat) : f13_R := fun X K  => f13_T R_f25 k K  
set_option maxRecDepth 100000 in
theorem f13_ev' {X : Type} (R_f25 : f25_R) (hR_f25 : AnsOk Tryd.prog 25 (f25_cOf R_f25)) (k : Nat) (K : Out → Option X)  : evFnK (f13_cx R_f25 hR_f25) [] k Tryd.f13.ntmps Tryd.f13.results.toList (Tryd.f13.body.getD .skip) [] [] K = f13_T R_f25 k (fun u => K (f13_out u))  := by kernel_rfl
theorem f13_ev {X : Type} (R_f25 : f25_R) (hR_f25 : AnsOk Tryd.prog 25 (f25_cOf R_f25)) (k : Nat) (K : Out → Option X)  : evFnK (f13_cx R_f25 hR_f25) [] k Tryd.f13.ntmps Tryd.f13.results.toList (Tryd.f13.body.getD .skip) [] [] K = f13_A R_f25 k X (fun u => K (f13_out u))  := (f13_ev' R_f25 hR_f25 k K ).trans rfl
theorem f13_okA (R_f25 : f25_R) (hR_f25 : AnsOk Tryd.prog 25 (f25_cOf R_f25)) (k : Nat) : AnsOk Tryd.prog 13 (f13_cOf (f13_A R_f25 k)) := by
  intro X xs ns K x h
  unfold f13_cOf at h ⊢
  split at h
  · exact ans_main S (f13_Cok R_f25 hR_f25) Tryd.func13 (ent_of Tryd.func13 (by kernel_rfl) rfl) rfl (fun X K => f13_ev R_f25 hR_f25 k K ) h
  · cases h
/-- "outpost/sha.New" -/
def f13 {X : Type} (k : Nat) (K : (List CV) → Option X)  : Option X := f13_A (fun X => @f25 X k) k X K 
theorem f13_ok (k : Nat) : AnsOk Tryd.prog 13 (f13_cOf (fun X => @f13 X k)) := f13_okA (fun X => @f25 X k) (f25_ok k) k
abbrev f34_R : Type 1 := (X : Type) → (Int → Option X) → Int → Int → Option X
def f34_out (u : Int) : Out := ⟨(.v (CV.int .u32 u)), []⟩
def f34_cOf (R : f34_R) : FnC := fun X xs ns K => match xs, ns with
  | [(.v (CV.int .u32 x0)), (.v (CV.int .i64 x1))], [] => R X (fun u => K (f34_out u)) x0 x1
  | _, _ => none
def f34_plan : Nat → Option (List Nat × List Wk)
  | 0 => some ([0, 1], [])
  | 1 => some ([0, 1], [])
  | 2 => some ([0, 5], [])
  | _ => none
def f34_C : Fns := noC
theorem f34_Cok : CsOk Tryd.prog (f34_C) := noC_ok
def f34_cx : Cx := mkCx (tabOf rows) (f34_C) md (cmpIn cmps) f34_plan (f34_Cok)
def f34_T {X : Type} (k : Nat) (K : Int → Option X)  (x0 : Int) (x1 : Int) : Option X :=
grd (decide (0 ≤ (bop .and .u64 (IntKind.wrap .u64 x1) 31))) <|
grd (decide (0 ≤ (IntKind.wrap .u64 (32 - (bop .and .u64 (IntKind.wrap .u64 x1) 31))))) <|
K ((bop .or .u32 (IntKind.wrap .u32 (x0 * 2 ^ (min (Int.toNat (bop .and .u64 (IntKind.wrap .u64 x1) 31)) 32))) (Int.fdiv x0 (2 ^ (min (Int.toNat (IntKind.wrap .u64 (32 - (bop .and .u64 (IntKind.wrap .u64 x1) 31)))) 32)))))
/-- "math/bits.RotateLeft32" -/
def f34_A (k : Nat) : f34_R := fun X K x0 x1 => f34_T k K  x0 x1
set_option maxRecDepth 100000 in
theorem f34_ev' {X : Type} (k : Nat) (K : Out → Option X) (x0 : Int) (x1 : Int) : evFnK (f34_cx) [] k Tryd.f34.ntmps Tryd.f34.results.toList (Tryd.f34.body.getD .skip) [(.v (CV.int .u32 x0)), (.v (CV.int .i64 x1))] [] K = f34_T k (fun u => K (f34_out u)) x0 x1 := by kernel_rfl
theorem f34_ev {X : Type} (k : Nat) (K : Out → Option X) (x0 : Int) (x1 : Int) : evFnK (f34_cx) [] k Tryd.f34.ntmps Tryd.f34.results.toList (Tryd.f34.body.getD .skip) [(.v (CV.int .u32 x0)), (.v (CV.int .i64 x1))] [] K = f34_A k X (fun u => K (f34_out u)) x0 x1 := (f34_ev' k K x0 x1).trans rfl
theorem f34_okA (k : Nat) : AnsOk Tryd.prog 34 (f34_cOf (f34_A k)) := by
  intro X xs ns K x h
  unfold f34_cOf at h ⊢
  split at h
  · exact ans_main S (f34_Cok) Tryd.func34 (ent_of Tryd.func34 (by kernel_rfl) rfl) rfl (fun X K => f34_ev k K _ _) h
  · cases h
/-- "math/bits.RotateLeft32" -/
def f34 {X : Type} (k : Nat) (K : Int → Option X) (x0 : Int) (x1 : Int) : Option X := f34_A k X K x0 x1
theorem f34_ok (k : Nat) : AnsOk Tryd.prog 34 (f34_cOf (fun X => @f34 X k)) := f34_okA k
abbrev f32_R : Type 1 := (X : Type) → (Int → Option X) → Int → Int → Option X
def f32_out (u : Int) : Out := ⟨(.v (CV.int .u32 u)), []⟩
def f32_cOf (R : f32_R) : FnC := fun X xs ns K => match xs, ns with
  | [(.v (CV.int .u32 x0)), (.v (CV.int .i64 x1))], [] => R X (fun u => K (f32_out u)) x0 x1
  | _, _ => none
def f32_plan : Nat → Option (List Nat × List Wk)
  | 0 => some ([0, 1], [])
  | 1 => some ([0, 1], [])
  | _ => none
def f32_C (R_f34 : f34_R) : Fns := (orC 34 (f34_cOf R_f34) noC)
theorem f32_Cok (R_f34 : f34_R) (hR_f34 : AnsOk Tryd.prog 34 (f34_cOf R_f34)) : CsOk Tryd.prog (f32_C R_f34) := (orC_ok hR_f34 noC_ok)
def f32_cx (R_f34 : f34_R) (hR_f34 : AnsOk Tryd.prog 34 (f34_cOf R_f34)) : Cx := mkCx (tabOf rows) (f32_C R_f34) md (cmpIn cmps) f32_plan (f32_Cok R_f34 hR_f34)
def f32_T {X : Type} (R_f34 : f34_R) (k : Nat) (K : Int → Option X)  (x0 : Int) (x1 : Int) : Option X :=
R_f34 _ (fun u1 =>
K (u1)) (x0) ((IntKind.wrap .i64 (0 - x1)))
/-- "outpost/sha.right" -/
def f32_A (R_f34 : f34_R) (k : Nat) : f32_R := fun X K x0 x1 => f32_T R_f34 k K  x0 x1
set_option maxRecDepth 100000 in
theorem f32_ev' {X : Type} (R_f34 : f34_R) (hR_f34 : AnsOk Tryd.prog 34 (f34_cOf R_f34)) (k : Nat) (K : Out → Option X) (x0 : Int) (x1 : Int) : evFnK (f32_cx R_f34 hR_f34) [] k Tryd.f32.ntmps Tryd.f32.results.toList (Tryd.f32.body.getD .skip) [(.v (CV.int .u32 x0)), (.v (CV.int .i64 x1))] [] K = f32_T R_f34 k (fun u => K (f32_out u)) x0 x1 := by kernel_rfl
theorem f32_ev {X : Type} (R_f34 : f34_R) (hR_f34 : AnsOk Tryd.prog 34 (f34_cOf R_f34)) (k : Nat) (K : Out → Option X) (x0 : Int) (x1 : Int) : evFnK (f32_cx R_f34 hR_f34) [] k Tryd.f32.ntmps Tryd.f32.results.toList (Tryd.f32.body.getD .skip) [(.v (CV.int .u32 x0)), (.v (CV.int .i64 x1))] [] K = f32_A R_f34 k X (fun u => K (f32_out u)) x0 x1 := (f32_ev' R_f34 hR_f34 k K x0 x1).trans rfl
theorem f32_okA (R_f34 : f34_R) (hR_f34 : AnsOk Tryd.prog 34 (f34_cOf R_f34)) (k : Nat) : AnsOk Tryd.prog 32 (f32_cOf (f32_A R_f34 k)) := by
  intro X xs ns K x h
  unfold f32_cOf at h ⊢
  split at h
  · exact ans_main S (f32_Cok R_f34 hR_f34) Tryd.func32 (ent_of Tryd.func32 (by kernel_rfl) rfl) rfl (fun X K => f32_ev R_f34 hR_f34 k K _ _) h
  · cases h
/-- "outpost/sha.right" -/
def f32 {X : Type} (k : Nat) (K : Int → Option X) (x0 : Int) (x1 : Int) : Option X := f32_A (fun X => @f34 X k) k X K x0 x1
theorem f32_ok (k : Nat) : AnsOk Tryd.prog 32 (f32_cOf (fun X => @f32 X k)) := f32_okA (fun X => @f34 X k) (f34_ok k) k
abbrev f31_R : Type 1 := (X : Type) → ((List CV) × (List CV) → Option X) → (List CV) → Option X
def f31_out (u : (List CV) × (List CV)) : Out := ⟨(.v (CV.agg u.1)), [([1000], (.row false none u.2))]⟩
def f31_cOf (R : f31_R) : FnC := fun X xs ns K => match xs, ns with
  | [(.ptr [1000] 1 0 8)], [([1000], (.row false none x0))] => R X (fun u => K (f31_out u)) x0
  | _, _ => none
def f31_plan : Nat → Option (List Nat × List Wk)
  | 0 => some ([0], [])
  | 1 => some ([0, 2], [])
  | 2 => some ([0, 2, 3], [])
  | 3 => some ([0, 2, 3, 9], [])
  | 4 => some ([0, 2, 3, 9], [])
  | 5 => some ([0, 2, 3, 4, 9], [])
  | 6 => some ([0, 2, 3, 4, 9], [])
  | 7 => some ([0, 2, 3, 4, 9], [])
  | 8 => some ([0, 2, 3, 4, 5, 6, 9], [])
  | 9 => some ([0, 2, 3, 4, 6, 7, 9], [])
  | 10 => some ([0, 2, 3, 4, 7, 8, 9], [])
  | 11 => some ([0, 2, 3, 9], [])
  | 12 => some ([2, 3], [])
  | _ => none
def f31_C (R_f32 : f32_R) : Fns := (orC 32 (f32_cOf R_f32) noC)
theorem f31_Cok (R_f32 : f32_R) (hR_f32 : AnsOk Tryd.prog 32 (f32_cOf R_f32)) : CsOk Tryd.prog (f31_C R_f32) := (orC_ok hR_f32 noC_ok)
def f31_cx (R_f32 : f32_R) (hR_f32 : AnsOk Tryd.prog 32 (f32_cOf R_f32)) : Cx := mkCx (tabOf rows) (f31_C R_f32) md (cmpIn cmps) f31_plan (f31_Cok R_f32 hR_f32)
def f31_S1 (v : Int × (List CV) × (List CV) × (List CV)) : St := ⟨[(.ptr [1000] 1 0 8), .undef, (.ptr [2] 1 0 0), (.ptr [3] 1 0 0), .undef, .undef, .undef, .undef, .undef, (.v (CV.int .i64 v.1)), .undef, .undef, .undef, .undef, .undef, .undef, .undef, .undef, .undef, .undef, .undef, .undef, .undef, .undef, .undef, .undef, .undef, .undef, .undef, .undef, .undef, .undef, .undef, .undef, .undef, .undef, .undef, .undef, .undef, .undef, .undef, .undef, .undef, .undef, .undef, .undef, .undef, .undef, .undef, .undef, .undef, .undef, .undef, .undef, .undef, .undef, .undef, .undef, .undef, .undef, .undef, .undef, .undef, .undef, .undef, .undef, .undef, .undef, .undef, .undef, .undef, .undef, .undef, .undef, .undef, .undef, .undef, .undef, .undef, .undef, .undef, .undef, .undef, .undef, .undef, .undef, .undef, .undef, .undef, .undef, .undef, .undef, .undef, .undef], [([2], (.row false none v.2.1)), ([3], (.row false none v.2.2.1)), ([1000], (.row false none v.2.2.2))]⟩
def f31_J1 {X : Type} (R_f32 : f32_R) (k : Nat) (K : (List CV) × (List CV) → Option X) (rec1 : Int × (List CV) × (List CV) × (List CV) → Option X) (v5_0 : Int × (List CV) × (List CV) × (List CV)) (v50 : (List CV)) : Option X :=
rec1 ((IntKind.wrap .i64 (v5_0.1 + 1)), v5_0.2.1, v50, v5_0.2.2.2)
def f31_T1 {X : Type} (R_f32 : f32_R) (k : Nat) (K : (List CV) × (List CV) → Option X)   (rec1 : Int × (List CV) × (List CV) × (List CV) → Option X) (v5_0 : Int × (List CV) × (List CV) × (List CV)) : Option X :=
(bif (decide (v5_0.1 < 64)) then
(bif (decide (v5_0.1 < 16)) then
grd (decide (0 ≤ (IntKind.wrap .i64 (4 * v5_0.1)))) <|
grd (decide ((IntKind.wrap .i64 (4 * v5_0.1)) < 64)) <|
Option.bind (v5_0.2.2.2)[(0 + (8 + ((Int.toNat (IntKind.wrap .i64 (4 * v5_0.1))) * 1)))]? fun e55 =>
grd (CV.isI .u8 e55) <|
grd (decide (0 ≤ (IntKind.wrap .i64 ((IntKind.wrap .i64 (4 * v5_0.1)) + 1)))) <|
grd (decide ((IntKind.wrap .i64 ((IntKind.wrap .i64 (4 * v5_0.1)) + 1)) < 64)) <|
Option.bind (v5_0.2.2.2)[(0 + (8 + ((Int.toNat (IntKind.wrap .i64 ((IntKind.wrap .i64 (4 * v5_0.1)) + 1))) * 1)))]? fun e56 =>
grd (CV.isI .u8 e56) <|
grd (decide (0 ≤ (IntKind.wrap .i64 ((IntKind.wrap .i64 (4 * v5_0.1)) + 2)))) <|
grd (decide ((IntKind.wrap .i64 ((IntKind.wrap .i64 (4 * v5_0.1)) + 2)) < 64)) <|
Option.bind (v5_0.2.2.2)[(0 + (8 + ((Int.toNat (IntKind.wrap .i64 ((IntKind.wrap .i64 (4 * v5_0.1)) + 2))) * 1)))]? fun e57 =>
grd (CV.isI .u8 e57) <|
grd (decide (0 ≤ (IntKind.wrap .i64 ((IntKind.wrap .i64 (4 * v5_0.1)) + 3)))) <|
grd (decide ((IntKind.wrap .i64 ((IntKind.wrap .i64 (4 * v5_0.1)) + 3)) < 64)) <|
Option.bind (v5_0.2.2.2)[(0 + (8 + ((Int.toNat (IntKind.wrap .i64 ((IntKind.wrap .i64 (4 * v5_0.1)) + 3))) * 1)))]? fun e58 =>
grd (CV.isI .u8 e58) <|
grd (decide (0 ≤ v5_0.1)) <|
grd (decide (v5_0.1 < 64)) <|
grd (decide ((0 + (0 + ((Int.toNat v5_0.1) * 1))) < (List.length v5_0.2.2.1))) <|
f31_J1 R_f32 k K rec1 v5_0 ((List.set v5_0.2.2.1 (0 + (0 + ((Int.toNat v5_0.1) * 1))) (CV.int .u32 (bop .or .u32 (bop .or .u32 (bop .or .u32 (IntKind.wrap .u32 ((IntKind.wrap .u32 (CV.toI e55)) * 2 ^ 24)) (IntKind.wrap .u32 ((IntKind.wrap .u32 (CV.toI e56)) * 2 ^ 16))) (IntKind.wrap .u32 ((IntKind.wrap .u32 (CV.toI e57)) * 2 ^ 8))) (IntKind.wrap .u32 (CV.toI e58))))))
else
grd (decide (0 ≤ (IntKind.wrap .i64 (v5_0.1 - 15)))) <|
grd (decide ((IntKind.wrap .i64 (v5_0.1 - 15)) < 64)) <|
Option.bind (v5_0.2.2.1)[(0 + (0 + ((Int.toNat (IntKind.wrap .i64 (v5_0.1 - 15))) * 1)))]? fun e59 =>
grd (CV.isI .u32 e59) <|
grd (decide (0 ≤ (IntKind.wrap .i64 (v5_0.1 - 2)))) <|
grd (decide ((IntKind.wrap .i64 (v5_0.1 - 2)) < 64)) <|
Option.bind (v5_0.2.2.1)[(0 + (0 + ((Int.toNat (IntKind.wrap .i64 (v5_0.1 - 2))) * 1)))]? fun e60 =>
grd (CV.isI .u32 e60) <|
R_f32 _ (fun u61 =>
R_f32 _ (fun u62 =>
R_f32 _ (fun u63 =>
R_f32 _ (fun u64 =>
grd (decide (0 ≤ (IntKind.wrap .i64 (v5_0.1 - 16)))) <|
grd (decide ((IntKind.wrap .i64 (v5_0.1 - 16)) < 64)) <|
Option.bind (v5_0.2.2.1)[(0 + (0 + ((Int.toNat (IntKind.wrap .i64 (v5_0.1 - 16))) * 1)))]? fun e65 =>
grd (CV.isI .u32 e65) <|
grd (decide (0 ≤ (IntKind.wrap .i64 (v5_0.1 - 7)))) <|
grd (decide ((IntKind.wrap .i64 (v5_0.1 - 7)) < 64)) <|
Option.bind (v5_0.2.2.1)[(0 + (0 + ((Int.toNat (IntKind.wrap .i64 (v5_0.1 - 7))) * 1)))]? fun e66 =>
grd (CV.isI .u32 e66) <|
grd (decide (0 ≤ v5_0.1)) <|
grd (decide (v5_0.1 < 64)) <|
grd (decide ((0 + (0 + ((Int.toNat v5_0.1) * 1))) < (List.length v5_0.2.2.1))) <|
f31_J1 R_f32 k K rec1 v5_0 ((List.set v5_0.2.2.1 (0 + (0 + ((Int.toNat v5_0.1) * 1))) (CV.int .u32 (IntKind.wrap .u32 ((IntKind.wrap .u32 ((IntKind.wrap .u32 ((CV.toI e65) + (bop .xor .u32 (bop .xor .u32 u61 u62) (Int.fdiv (CV.toI e59) (2 ^ 3))))) + (CV.toI e66))) + (bop .xor .u32 (bop .xor .u32 u63 u64) (Int.fdiv (CV.toI e60) (2 ^ 10))))))))) ((CV.toI e60)) (19)) ((CV.toI e60)) (17)) ((CV.toI e59)) (18)) ((CV.toI e59)) (7))
else
grd (decide (64 ≤ (List.length v5_0.2.2.1))) <|
grd (Nat.beq (List.length (List.take 64 (List.drop 0 v5_0.2.2.1))) 64) <|
grd (decide (64 ≤ (List.length v5_0.2.1))) <|
grd (decide (64 ≤ (List.length ((List.take 0 v5_0.2.1) ++ (List.take 64 (List.drop 0 v5_0.2.2.1)) ++ (List.drop 64 v5_0.2.1))))) <|
K ((List.take 64 (List.drop 0 ((List.take 0 v5_0.2.1) ++ (List.take 64 (List.drop 0 v5_0.2.2.1)) ++ (List.drop 64 v5_0.2.1)))), v5_0.2.2.2))
def f31_L1 {X : Type} (R_f32 : f32_R) (k : Nat) (K : (List CV) × (List CV) → Option X)  (rec1 : Int × (List CV) × (List CV) × (List CV) → Option X) (v : Int × (List CV) × (List CV) × (List CV)) : Option X := f31_T1 R_f32 k K   rec1 v
set_option maxRecDepth 100000 in
theorem f31_L1_ev {X : Type} (R_f32 : f32_R) (hR_f32 : AnsOk Tryd.prog 32 (f32_cOf R_f32)) (k : Nat) (K : Out → Option X)  (r1 : St → Option X) (v : Int × (List CV) × (List CV) × (List CV)) : loopB (f31_cx R_f32 hR_f32) k [.r, .r, .l, .r, .b] (Tryd.f31.body.getD .skip) (retK (f31_cx R_f32 hR_f32) [] Tryd.f31.results.toList K) [] r1 (f31_S1 v) = f31_T1 R_f32 k (fun u => K (f31_out u))   (fun v => r1 (f31_S1 v)) v := by kernel_rfl
theorem f31_L1_it {X : Type} (R_f32 : f32_R) (hR_f32 : AnsOk Tryd.prog 32 (f32_cOf R_f32)) (k : Nat) (K : Out → Option X)  : (fun v => iter (loopB (f31_cx R_f32 hR_f32) k [.r, .r, .l, .r, .b] (Tryd.f31.body.getD .skip) (retK (f31_cx R_f32 hR_f32) [] Tryd.f31.results.toList K) []) k (f31_S1 v)) = iterV (f31_L1 R_f32 k (fun u => K (f31_out u)) ) k :=
  iter_map (fun r1 v => (f31_L1_ev R_f32 hR_f32 k K  r1 v).trans rfl) k
def f31_T {X : Type} (R_f32 : f32_R) (k : Nat) (K : (List CV) × (List CV) → Option X) (loop1 : Int × (List CV) × (List CV) × (List CV) → Option X) (x0 : List CV) : Option X :=
loop1 (0, (List.replicate 64 (CV.int .u32 0)), (List.replicate 64 (CV.int .u32 0)), x0)
/-- "outpost/sha.spread" -/
def f31_A (R_f32 : f32_R) (k : Nat) : f31_R := fun X K x0 => f31_T R_f32 k K (iterV (f31_L1 R_f32 k K) k) x0
set_option maxRecDepth 100000 in
theorem f31_ev' {X : Type} (R_f32 : f32_R) (hR_f32 : AnsOk Tryd.prog 32 (f32_cOf R_f32)) (k : Nat) (K : Out → Option X) (x0 : List CV) : evFnK (f31_cx R_f32 hR_f32) [] k Tryd.f31.ntmps Tryd.f31.results.toList (Tryd.f31.body.getD .skip) [(.ptr [1000] 1 0 8)] [([1000], (.row false none x0))] K = f31_T R_f32 k (fun u => K (f31_out u)) (fun v => iter (loopB (f31_cx R_f32 hR_f32) k [.r, .r, .l, .r, .b] (Tryd.f31.body.getD .skip) (retK (f31_cx R_f32 hR_f32) [] Tryd.f31.results.toList K) []) k (f31_S1 v)) x0 := by kernel_rfl
theorem f31_ev {X : Type} (R_f32 : f32_R) (hR_f32 : AnsOk Tryd.prog 32 (f32_cOf R_f32)) (k : Nat) (K : Out → Option X) (x0 : List CV) : evFnK (f31_cx R_f32 hR_f32) [] k Tryd.f31.ntmps Tryd.f31.results.toList (Tryd.f31.body.getD .skip) [(.ptr [1000] 1 0 8)] [([1000], (.row false none x0))] K = f31_A R_f32 k X (fun u => K (f31_out u)) x0 := (f31_ev' R_f32 hR_f32 k K x0).trans (by rw [f31_L1_it R_f32 hR_f32 k K]; rfl)
theorem f31_okA (R_f32 : f32_R) (hR_f32 : AnsOk Tryd.prog 32 (f32_cOf R_f32)) (k : Nat) : AnsOk Tryd.prog 31 (f31_cOf (f31_A R_f32 k)) := by
  intro X xs ns K x h
  unfold f31_cOf at h ⊢
  split at h
  · exact ans_main S (f31_Cok R_f32 hR_f32) Tryd.func31 (ent_of Tryd.func31 (by kernel_rfl) rfl) rfl (fun X K => f31_ev R_f32 hR_f32 k K _) h
  · cases h
/-- "outpost/sha.spread" -/
def f31 {X : Type} (k : Nat) (K : (List CV) × (List CV) → Option X) (x0 : List CV) : Option X := f31_A (fun X => @f32 X k) k X K x0
theorem f31_ok (k : Nat) : AnsOk Tryd.prog 31 (f31_cOf (fun X => @f31 X k)) := f31_okA (fun X => @f32 X k) (f32_ok k) k
abbrev f26_R : Type 1 := (X : Type) → ((List CV) → Option X) → (List CV) → Option X
def f26_out (u : (List CV)) : Out := ⟨(.tup []), [([1000], (.row false none u))]⟩
def f26_cOf (R : f26_R) : FnC := fun X xs ns K => match xs, ns with
  | [(.ptr [1000] 1 0 0)], [([1000], (.row false none x0))] => R X (fun u => K (f26_out u)) x0
  | _, _ => none
def f26_plan : Nat → Option (List Nat × List Wk)
  | 0 => some ([0], [])
  | 1 => some ([0, 2], [])
  | 2 => some ([0, 2, 3], [])
  | 3 => some ([0, 2, 3, 23], [])
  | 4 => some ([0, 2, 3, 23], [])
  | 5 => some ([0, 2, 3, 4, 23], [])
  | 6 => some ([0, 2, 3, 4, 5, 6, 7, 8, 9, 10, 23], [])
  | 7 => some ([0, 2, 3, 5, 6, 7, 11, 23], [])
  | 8 => some ([0, 2, 3, 11, 12, 23], [])
  | 9 => some ([0, 2, 3, 11, 12, 23], [])
  | 10 => some ([0, 2, 3, 11, 12, 23], [])
  | 11 => some ([0, 2, 3, 23], [])
  | 12 => some ([0, 3], [])
  | 13 => some ([0, 99, 100], [])
  | 14 => some ([0, 99, 100], [])
  | 15 => some ([0, 13, 14, 99, 100], [])
  | 16 => some ([0, 99, 100], [])
  | _ => none
def f26_C (R_f31 : f31_R) (R_f32 : f32_R) : Fns := (orC 31 (f31_cOf R_f31) (orC 32 (f32_cOf R_f32) noC))
theorem f26_Cok (R_f31 : f31_R) (R_f32 : f32_R) (hR_f31 : AnsOk Tryd.prog 31 (f31_cOf R_f31)) (hR_f32 : AnsOk Tryd.prog 32 (f32_cOf R_f32)) : CsOk Tryd.prog (f26_C R_f31 R_f32) := (orC_ok hR_f31 (orC_ok hR_f32 noC_ok))
def f26_cx (R_f31 : f31_R) (R_f32 : f32_R) (hR_f31 : AnsOk Tryd.prog 31 (f31_cOf R_f31)) (hR_f32 : AnsOk Tryd.prog 32 (f32_cOf R_f32)) : Cx := mkCx (tabOf rows) (f26_C R_f31 R_f32) md (cmpIn cmps) f26_plan (f26_Cok R_f31 R_f32 hR_f31 hR_f32)
def f26_S1 (v : Int × (List CV) × (List CV) × (List CV)) : St := ⟨[(.ptr [1000] 1 0 0), .undef, (.ptr [2] 1 0 0), (.ptr [3] 1 0 0), .undef, .undef, .undef, .undef, .undef, .undef, .undef, .undef, .undef, .undef, .undef, .undef, .undef, .undef, .undef, .undef, .undef, .undef, .undef, (.v (CV.int .i64 v.1)), .undef, .undef, .undef, .undef, .undef, .undef, .undef, .undef, .undef, .undef, .undef, .undef, .undef, .undef, .undef, .undef, .undef, .undef, .undef, .undef, .undef, .undef, .undef, .undef, .undef, .undef, .undef, .undef, .undef, .undef, .undef, .undef, .undef, .undef, .undef, .undef, .undef, .undef, .undef, .undef, .undef, .undef, .undef, .undef, .undef, .undef, .undef, .undef, .undef, .undef, .undef, .undef, .undef, .undef, .undef, .undef, .undef, .undef, .undef, .undef, .undef, .undef, .undef, .undef, .undef, .undef, .undef, .undef, .undef, .undef, .undef, .undef, .undef, .undef, .undef, .undef, .undef, .undef, .undef, .undef, .undef, .undef, .undef, .undef, .undef, .undef, .undef, .undef, .undef, .undef, .undef, .undef], [([2], (.row false none v.2.1)), ([3], (.row false none v.2.2.1)), ([1000], (.row false none v.2.2.2))]⟩
def f26_S2 (v : (List CV) × Int × (List CV)) : St := ⟨[(.ptr [1000] 1 0 0), .undef, .undef, .undef, .undef, .undef, .undef, .undef, .undef, .undef, .undef, .undef, .undef, .undef, .undef, .undef, .undef, .undef, .undef, .undef, .undef, .undef, .undef, .undef, .undef, .undef, .undef, .undef, .undef, .undef, .undef, .undef, .undef, .undef, .undef, .undef, .undef, .undef, .undef, .undef, .undef, .undef, .undef, .undef, .undef, .undef, .undef, .undef, .undef, .undef, .undef, .undef, .undef, .undef, .undef, .undef, .undef, .undef, .undef, .undef, .undef, .undef, .undef, .undef, .undef, .undef, .undef, .undef, .undef, .undef, .undef, .undef, .undef, .undef, .undef, .undef, .undef, .undef, .undef, .undef, .undef, .undef, .undef, .undef, .undef, .undef, .undef, .undef, .undef, .undef, .undef, .undef, .undef, .undef, .undef, .undef, .undef, .undef, .undef, (.v (CV.agg v.1)), (.v (CV.int .i64 v.2.1)), .undef, .undef, .undef, .undef, .undef, .undef, .undef, .undef, .undef, .undef, .undef, .undef, .undef, .undef, .undef], [([1000], (.row false none v.2.2))]⟩
def f26_T2 {X : Type} (R_f31 : f31_R) (R_f32 : f32_R) (k : Nat) (K : (List CV) → Option X)   (rec2 : (List CV) × Int × (List CV) → Option X) (v5_66 : (List CV) × Int × (List CV)) : Option X :=
(bif (decide (v5_66.2.1 < 8)) then
grd (decide (0 ≤ v5_66.2.1)) <|
grd (decide (v5_66.2.1 < 8)) <|
Option.bind (v5_66.1[(Int.toNat v5_66.2.1)]?) fun e74 =>
grd (CV.isI .u32 e74) <|
grd (decide (0 ≤ v5_66.2.1)) <|
grd (decide (v5_66.2.1 < 8)) <|
Option.bind (v5_66.2.2)[(0 + (0 + ((Int.toNat v5_66.2.1) * 1)))]? fun e75 =>
grd (CV.isI .u32 e75) <|
grd (decide (0 ≤ v5_66.2.1)) <|
grd (decide (v5_66.2.1 < 8)) <|
grd (decide ((0 + (0 + ((Int.toNat v5_66.2.1) * 1))) < (List.length v5_66.2.2))) <|
rec2 (v5_66.1, (IntKind.wrap .i64 (v5_66.2.1 + 1)), (List.set v5_66.2.2 (0 + (0 + ((Int.toNat v5_66.2.1) * 1))) (CV.int .u32 (IntKind.wrap .u32 ((CV.toI e75) + (CV.toI e74))))))
else
K (v5_66.2.2))
def f26_L2 {X : Type} (R_f31 : f31_R) (R_f32 : f32_R) (k : Nat) (K : (List CV) → Option X)  (rec2 : (List CV) × Int × (List CV) → Option X) (v : (List CV) × Int × (List CV)) : Option X := f26_T2 R_f31 R_f32 k K   rec2 v
set_option maxRecDepth 100000 in
theorem f26_L2_ev {X : Type} (R_f31 : f31_R) (R_f32 : f32_R) (hR_f31 : AnsOk Tryd.prog 31 (f31_cOf R_f31)) (hR_f32 : AnsOk Tryd.prog 32 (f32_cOf R_f32)) (k : Nat) (K : Out → Option X)  (r2 : St → Option X) (v : (List CV) × Int × (List CV)) : loopB (f26_cx R_f31 R_f32 hR_f31 hR_f32) k [.r, .r, .r, .r, .b] (Tryd.f26.body.getD .skip) (retK (f26_cx R_f31 R_f32 hR_f31 hR_f32) [] Tryd.f26.results.toList K) [] r2 (f26_S2 v) = f26_T2 R_f31 R_f32 k (fun u => K (f26_out u))   (fun v => r2 (f26_S2 v)) v := by kernel_rfl
theorem f26_L2_it {X : Type} (R_f31 : f31_R) (R_f32 : f32_R) (hR_f31 : AnsOk Tryd.prog 31 (f31_cOf R_f31)) (hR_f32 : AnsOk Tryd.prog 32 (f32_cOf R_f32)) (k : Nat) (K : Out → Option X)  : (fun v => iter (loopB (f26_cx R_f31 R_f32 hR_f31 hR_f32) k [.r, .r, .r, .r, .b] (Tryd.f26.body.getD .skip) (retK (f26_cx R_f31 R_f32 hR_f31 hR_f32) [] Tryd.f26.results.toList K) []) k (f26_S2 v)) = iterV (f26_L2 R_f31 R_f32 k (fun u => K (f26_out u)) ) k :=
  iter_map (fun r2 v => (f26_L2_ev R_f31 R_f32 hR_f31 hR_f32 k K  r2 v).trans rfl) k
def f26_T1 {X : Type} (R_f31 : f31_R) (R_f32 : f32_R) (k : Nat) (K : (List CV) → Option X)  (loop2 : (List CV) × Int × (List CV) → Option X) (rec1 : Int × (List CV) × (List CV) × (List CV) → Option X) (v5_1 : Int × (List CV) × (List CV) × (List CV)) : Option X :=
(bif (decide (v5_1.1 < 64)) then
Option.bind (v5_1.2.2.1)[0]? fun e51 =>
grd (CV.isI .u32 e51) <|
Option.bind (v5_1.2.2.1)[1]? fun e52 =>
grd (CV.isI .u32 e52) <|
Option.bind (v5_1.2.2.1)[2]? fun e53 =>
grd (CV.isI .u32 e53) <|
Option.bind (v5_1.2.2.1)[4]? fun e54 =>
grd (CV.isI .u32 e54) <|
Option.bind (v5_1.2.2.1)[5]? fun e55 =>
grd (CV.isI .u32 e55) <|
Option.bind (v5_1.2.2.1)[6]? fun e56 =>
grd (CV.isI .u32 e56) <|
Option.bind (v5_1.2.2.1)[7]? fun e57 =>
grd (CV.isI .u32 e57) <|
R_f32 _ (fun u58 =>
R_f32 _ (fun u59 =>
R_f32 _ (fun u60 =>
grd (decide (0 ≤ v5_1.1)) <|
grd (decide (v5_1.1 < 64)) <|
Option.bind (CV.cell (CV.agg tab1) (0 + ((Int.toNat v5_1.1) * 1))) fun c61 =>
grd (CV.isI .u32 c61) <|
grd (decide (0 ≤ v5_1.1)) <|
grd (decide (v5_1.1 < 64)) <|
Option.bind (v5_1.2.1)[(0 + (0 + ((Int.toNat v5_1.1) * 1)))]? fun e62 =>
grd (CV.isI .u32 e62) <|
R_f32 _ (fun u63 =>
R_f32 _ (fun u64 =>
R_f32 _ (fun u65 =>
grd (decide (8 ≤ (List.length v5_1.2.2.1))) <|
grd (decide (8 ≤ (List.length v5_1.2.2.1))) <|
grd (decide (8 ≤ (List.length v5_1.2.2.1))) <|
Option.bind (((List.take 1 v5_1.2.2.1) ++ (List.take (min (List.length (List.take 7 (List.drop 0 v5_1.2.2.1))) 7) (List.take 7 (List.drop 0 v5_1.2.2.1))) ++ (List.drop (1 + (min (List.length (List.take 7 (List.drop 0 v5_1.2.2.1))) 7)) v5_1.2.2.1)))[4]? fun e66 =>
grd (CV.isI .u32 e66) <|
grd (decide (4 < (List.length ((List.take 1 v5_1.2.2.1) ++ (List.take (min (List.length (List.take 7 (List.drop 0 v5_1.2.2.1))) 7) (List.take 7 (List.drop 0 v5_1.2.2.1))) ++ (List.drop (1 + (min (List.length (List.take 7 (List.drop 0 v5_1.2.2.1))) 7)) v5_1.2.2.1))))) <|
grd (decide (0 < (List.length (List.set ((List.take 1 v5_1.2.2.1) ++ (List.take (min (List.length (List.take 7 (List.drop 0 v5_1.2.2.1))) 7) (List.take 7 (List.drop 0 v5_1.2.2.1))) ++ (List.drop (1 + (min (List.length (List.take 7 (List.drop 0 v5_1.2.2.1))) 7)) v5_1.2.2.1)) 4 (CV.int .u32 (IntKind.wrap .u32 ((CV.toI e66) + (IntKind.wrap .u32 ((IntKind.wrap .u32 ((IntKind.wrap .u32 ((IntKind.wrap .u32 ((CV.toI e57) + (bop .xor .u32 (bop .xor .u32 u58 u59) u60))) + (bop .xor .u32 (bop .and .u32 (CV.toI e54) (CV.toI e55)) (bop .and .u32 (bop .xor .u32 4294967295 (CV.toI e54)) (CV.toI e56))))) + (CV.toI c61))) + (CV.toI e62)))))))))) <|
rec1 ((IntKind.wrap .i64 (v5_1.1 + 1)), v5_1.2.1, (List.set (List.set ((List.take 1 v5_1.2.2.1) ++ (List.take (min (List.length (List.take 7 (List.drop 0 v5_1.2.2.1))) 7) (List.take 7 (List.drop 0 v5_1.2.2.1))) ++ (List.drop (1 + (min (List.length (List.take 7 (List.drop 0 v5_1.2.2.1))) 7)) v5_1.2.2.1)) 4 (CV.int .u32 (IntKind.wrap .u32 ((CV.toI e66) + (IntKind.wrap .u32 ((IntKind.wrap .u32 ((IntKind.wrap .u32 ((IntKind.wrap .u32 ((CV.toI e57) + (bop .xor .u32 (bop .xor .u32 u58 u59) u60))) + (bop .xor .u32 (bop .and .u32 (CV.toI e54) (CV.toI e55)) (bop .and .u32 (bop .xor .u32 4294967295 (CV.toI e54)) (CV.toI e56))))) + (CV.toI c61))) + (CV.toI e62))))))) 0 (CV.int .u32 (IntKind.wrap .u32 ((IntKind.wrap .u32 ((IntKind.wrap .u32 ((IntKind.wrap .u32 ((IntKind.wrap .u32 ((CV.toI e57) + (bop .xor .u32 (bop .xor .u32 u58 u59) u60))) + (bop .xor .u32 (bop .and .u32 (CV.toI e54) (CV.toI e55)) (bop .and .u32 (bop .xor .u32 4294967295 (CV.toI e54)) (CV.toI e56))))) + (CV.toI c61))) + (CV.toI e62))) + (IntKind.wrap .u32 ((bop .xor .u32 (bop .xor .u32 u63 u64) u65) + (bop .xor .u32 (bop .xor .u32 (bop .and .u32 (CV.toI e51) (CV.toI e52)) (bop .and .u32 (CV.toI e51) (CV.toI e53))) (bop .and .u32 (CV.toI e52) (CV.toI e53))))))))), v5_1.2.2.2)) ((CV.toI e51)) (22)) ((CV.toI e51)) (13)) ((CV.toI e51)) (2)) ((CV.toI e54)) (25)) ((CV.toI e54)) (11)) ((CV.toI e54)) (6)
else
grd (decide (8 ≤ (List.length v5_1.2.2.1))) <|
loop2 ((List.take 8 (List.drop 0 v5_1.2.2.1)), 0, v5_1.2.2.2))
def f26_L1 {X : Type} (R_f31 : f31_R) (R_f32 : f32_R) (k : Nat) (K : (List CV) → Option X)  (rec1 : Int × (List CV) × (List CV) × (List CV) → Option X) (v : Int × (List CV) × (List CV) × (List CV)) : Option X := f26_T1 R_f31 R_f32 k K  (iterV (f26_L2 R_f31 R_f32 k K ) k) rec1 v
set_option maxRecDepth 100000 in
theorem f26_L1_ev {X : Type} (R_f31 : f31_R) (R_f32 : f32_R) (hR_f31 : AnsOk Tryd.prog 31 (f31_cOf R_f31)) (hR_f32 : AnsOk Tryd.prog 32 (f32_cOf R_f32)) (k : Nat) (K : Out → Option X)  (r1 : St → Option X) (v : Int × (List CV) × (List CV) × (List CV)) : loopB (f26_cx R_f31 R_f32 hR_f31 hR_f32) k [.r, .r, .l, .r, .b] (Tryd.f26.body.getD .skip) (retK (f26_cx R_f31 R_f32 hR_f31 hR_f32) [] Tryd.f26.results.toList K) [] r1 (f26_S1 v) = f26_T1 R_f31 R_f32 k (fun u => K (f26_out u))  (fun v => iter (loopB (f26_cx R_f31 R_f32 hR_f31 hR_f32) k [.r, .r, .r, .r, .b] (Tryd.f26.body.getD .skip) (retK (f26_cx R_f31 R_f32 hR_f31 hR_f32) [] Tryd.f26.results.toList K) []) k (f26_S2 v)) (fun v => r1 (f26_S1 v)) v := by kernel_rfl
theorem f26_L1_it {X : Type} (R_f31 : f31_R) (R_f32 : f32_R) (hR_f31 : AnsOk Tryd.prog 31 (f31_cOf R_f31)) (hR_f32 : AnsOk Tryd.prog 32 (f32_cOf R_f32)) (k : Nat) (K : Out → Option X)  : (fun v => iter (loopB (f26_cx R_f31 R_f32 hR_f31 hR_f32) k [.r, .r, .l, .r, .b] (Tryd.f26.body.getD .skip) (retK (f26_cx R_f31 R_f32 hR_f31 hR_f32) [] Tryd.f26.results.toList K) []) k (f26_S1 v)) = iterV (f26_L1 R_f31 R_f32 k (fun u => K (f26_out u)) ) k :=
  iter_map (fun r1 v => (f26_L1_ev R_f31 R_f32 hR_f31 hR_f32 k K  r1 v).trans (by rw [f26_L2_it R_f31 R_f32 hR_f31 hR_f32 k K ]; rfl)) k
def f26_T {X : Type} (R_f31 : f31_R) (R_f32 : f32_R) (k : Nat) (K : (List CV) → Option X) (loop1 : Int × (List CV) × (List CV) × (List CV) → Option X) (x0 : List CV) : Option X :=
R_f31 _ (fun u1 =>
grd (Nat.beq (List.length u1.1) 64) <|
grd (decide (64 ≤ 64)) <|
grd (decide (8 ≤ (List.length u1.2))) <|
grd (Nat.beq (List.length (List.take 8 (List.drop 0 u1.2))) 8) <|
grd (decide (8 ≤ 8)) <|
loop1 (0, ((List.take 0 (List.replicate 64 (CV.int .u32 0))) ++ u1.1 ++ (List.drop 64 (List.replicate 64 (CV.int .u32 0)))), ((List.take 0 [(CV.int .u32 0), (CV.int .u32 0), (CV.int .u32 0), (CV.int .u32 0), (CV.int .u32 0), (CV.int .u32 0), (CV.int .u32 0), (CV.int .u32 0)]) ++ (List.take 8 (List.drop 0 u1.2)) ++ (List.drop 8 [(CV.int .u32 0), (CV.int .u32 0), (CV.int .u32 0), (CV.int .u32 0), (CV.int .u32 0), (CV.int .u32 0), (CV.int .u32 0), (CV.int .u32 0)])), u1.2)) (x0)
/-- "(*outpost/sha.Hash).turn" -/
def f26_A (R_f31 : f31_R) (R_f32 : f32_R) (k : Nat) : f26_R := fun X K x0 => f26_T R_f31 R_f32 k K (iterV (f26_L1 R_f31 R_f32 k K) k) x0
set_option maxRecDepth 100000 in
theorem f26_ev' {X : Type} (R_f31 : f31_R) (R_f32 : f32_R) (hR_f31 : AnsOk Tryd.prog 31 (f31_cOf R_f31)) (hR_f32 : AnsOk Tryd.prog 32 (f32_cOf R_f32)) (k : Nat) (K : Out → Option X) (x0 : List CV) : evFnK (f26_cx R_f31 R_f32 hR_f31 hR_f32) [] k Tryd.f26.ntmps Tryd.f26.results.toList (Tryd.f26.body.getD .skip) [(.ptr [1000] 1 0 0)] [([1000], (.row false none x0))] K = f26_T R_f31 R_f32 k (fun u => K (f26_out u)) (fun v => iter (loopB (f26_cx R_f31 R_f32 hR_f31 hR_f32) k [.r, .r, .l, .r, .b] (Tryd.f26.body.getD .skip) (retK (f26_cx R_f31 R_f32 hR_f31 hR_f32) [] Tryd.f26.results.toList K) []) k (f26_S1 v)) x0 := by kernel_rfl
theorem f26_ev {X : Type} (R_f31 : f31_R) (R_f32 : f32_R) (hR_f31 : AnsOk Tryd.prog 31 (f31_cOf R_f31)) (hR_f32 : AnsOk Tryd.prog 32 (f32_cOf R_f32)) (k : Nat) (K : Out → Option X) (x0 : List CV) : evFnK (f26_cx R_f31 R_f32 hR_f31 hR_f32) [] k Tryd.f26.ntmps Tryd.f26.results.toList (Tryd.f26.body.getD .skip) [(.ptr [1000] 1 0 0)] [([1000], (.row false none x0))] K = f26_A R_f31 R_f32 k X (fun u => K (f26_out u)) x0 := (f26_ev' R_f31 R_f32 hR_f31 hR_f32 k K x0).trans (by rw [f26_L1_it R_f31 R_f32 hR_f31 hR_f32 k K]; rfl)
theorem f26_okA (R_f31 : f31_R) (R_f32 : f32_R) (hR_f31 : AnsOk Tryd.prog 31 (f31_cOf R_f31)) (hR_f32 : AnsOk Tryd.prog 32 (f32_cOf R_f32)) (k : Nat) : AnsOk Tryd.prog 26 (f26_cOf (f26_A R_f31 R_f32 k)) := by
  intro X xs ns K x h
  unfold f26_cOf at h ⊢
  split at h
  · exact ans_main S (f26_Cok R_f31 R_f32 hR_f31 hR_f32) Tryd.func26 (ent_of Tryd.func26 (by kernel_rfl) rfl) rfl (fun X K => f26_ev R_f31 R_f32 hR_f31 hR_f32 k K _) h
  · cases h
/-- "(*outpost/sha.Hash).turn" -/
def f26 {X : Type} (k : Nat) (K : (List CV) → Option X) (x0 : List CV) : Option X := f26_A (fun X => @f31 X k) (fun X => @f32 X k) k X K x0
theorem f26_ok (k : Nat) : AnsOk Tryd.prog 26 (f26_cOf (fun X => @f26 X k)) := f26_okA (fun X => @f31 X k) (fun X => @f32 X k) (f31_ok k) (f32_ok k) k
abbrev f14_R : Type 1 := (X : Type) → ((List CV) → Option X) → (List CV) → (List CV) → Option X
def f14_out (u : (List CV)) : Out := ⟨(.tup []), [([1000], (.row false none u))]⟩
def f14_cOf (R : f14_R) : FnC := fun X xs ns K => match xs, ns with
  | [(.ptr [1000] 1 0 0), (.sl false none x0)], [([1000], (.row false none x1))] => R X (fun u => K (f14_out u)) x0 x1
  | _, _ => none
def f14_plan : Nat → Option (List Nat × List Wk)
  | 0 => some ([0, 1], [])
  | 1 => some ([0, 1], [])
  | 2 => some ([0, 1, 4], [])
  | 3 => some ([0, 1, 4, 5], [])
  | 4 => some ([0, 1, 4, 5], [])
  | 5 => some ([0, 1, 4, 5], [])
  | 6 => some ([0, 1], [])
  | _ => none
def f14_C (R_f26 : f26_R) : Fns := (orC 26 (f26_cOf R_f26) noC)
theorem f14_Cok (R_f26 : f26_R) (hR_f26 : AnsOk Tryd.prog 26 (f26_cOf R_f26)) : CsOk Tryd.prog (f14_C R_f26) := (orC_ok hR_f26 noC_ok)
def f14_cx (R_f26 : f26_R) (hR_f26 : AnsOk Tryd.prog 26 (f26_cOf R_f26)) : Cx := mkCx (tabOf rows) (f14_C R_f26) md (cmpIn cmps) f14_plan (f14_Cok R_f26 hR_f26)
def f14_S1 (v : (List CV) × (List CV)) : St := ⟨[(.ptr [1000] 1 0 0), (.sl false none v.1), .undef, .undef, .undef, .undef, .undef, .undef, .undef, .undef, .undef, .undef, .undef, .undef, .undef, .undef, .undef, .undef, .undef, .undef, .undef, .undef, .undef, .undef, .undef, .undef, .undef, .undef, .undef, .undef, .undef, .undef, .undef, .undef, .undef, .undef, .undef, .undef], [([1000], (.row false none v.2))]⟩
def f14_T1 {X : Type} (R_f26 : f26_R) (k : Nat) (K : (List CV) → Option X)   (rec1 : (List CV) × (List CV) → Option X) (v1_0 : (List CV) × (List CV)) : Option X :=
(bif (decide ((Nat.cast ((List.length v1_0.1)) : Int) > 0)) then
Option.bind (v1_0.2)[72]? fun e5 =>
grd (CV.isI .i64 e5) <|
grd (decide (0 ≤ (Int.tmod (CV.toI e5) 64))) <|
grd (decide ((Int.tmod (CV.toI e5) 64) ≤ 64)) <|
grd (decide (72 ≤ (List.length v1_0.2))) <|
grd (decide (((8 + (Int.toNat (Int.tmod (CV.toI e5) 64))) + (64 - (Int.toNat (Int.tmod (CV.toI e5) 64)))) ≤ (List.length v1_0.2))) <|
grd (decide ((Nat.cast ((min (List.length v1_0.1) (64 - (Int.toNat (Int.tmod (CV.toI e5) 64))))) : Int) ≤ (Nat.cast ((List.length v1_0.1)) : Int))) <|
grd (decide ((Nat.cast ((List.length v1_0.1)) : Int) ≤ (Nat.cast ((List.length v1_0.1)) : Int))) <|
Option.bind (((List.take (8 + (Int.toNat (Int.tmod (CV.toI e5) 64))) v1_0.2) ++ (List.take (min (List.length v1_0.1) (64 - (Int.toNat (Int.tmod (CV.toI e5) 64)))) v1_0.1) ++ (List.drop ((8 + (Int.toNat (Int.tmod (CV.toI e5) 64))) + (min (List.length v1_0.1) (64 - (Int.toNat (Int.tmod (CV.toI e5) 64))))) v1_0.2)))[72]? fun e6 =>
grd (CV.isI .i64 e6) <|
grd (decide (72 < (List.length ((List.take (8 + (Int.toNat (Int.tmod (CV.toI e5) 64))) v1_0.2) ++ (List.take (min (List.length v1_0.1) (64 - (Int.toNat (Int.tmod (CV.toI e5) 64)))) v1_0.1) ++ (List.drop ((8 + (Int.toNat (Int.tmod (CV.toI e5) 64))) + (min (List.length v1_0.1) (64 - (Int.toNat (Int.tmod (CV.toI e5) 64))))) v1_0.2))))) <|
(bif ((IntKind.wrap .i64 ((Int.tmod (CV.toI e5) 64) + (Nat.cast ((min (List.length v1_0.1) (64 - (Int.toNat (Int.tmod (CV.toI e5) 64))))) : Int))) == 64) then
R_f26 _ (fun u7 =>
rec1 ((List.take ((List.length v1_0.1) - (min (List.length v1_0.1) (64 - (Int.toNat (Int.tmod (CV.toI e5) 64))))) (List.drop (min (List.length v1_0.1) (64 - (Int.toNat (Int.tmod (CV.toI e5) 64)))) v1_0.1)), u7)) ((List.set ((List.take (8 + (Int.toNat (Int.tmod (CV.toI e5) 64))) v1_0.2) ++ (List.take (min (List.length v1_0.1) (64 - (Int.toNat (Int.tmod (CV.toI e5) 64)))) v1_0.1) ++ (List.drop ((8 + (Int.toNat (Int.tmod (CV.toI e5) 64))) + (min (List.length v1_0.1) (64 - (Int.toNat (Int.tmod (CV.toI e5) 64))))) v1_0.2)) 72 (CV.int .i64 (IntKind.wrap .i64 ((CV.toI e6) + (Nat.cast ((min (List.length v1_0.1) (64 - (Int.toNat (Int.tmod (CV.toI e5) 64))))) : Int))))))
else
rec1 ((List.take ((List.length v1_0.1) - (min (List.length v1_0.1) (64 - (Int.toNat (Int.tmod (CV.toI e5) 64))))) (List.drop (min (List.length v1_0.1) (64 - (Int.toNat (Int.tmod (CV.toI e5) 64)))) v1_0.1)), (List.set ((List.take (8 + (Int.toNat (Int.tmod (CV.toI e5) 64))) v1_0.2) ++ (List.take (min (List.length v1_0.1) (64 - (Int.toNat (Int.tmod (CV.toI e5) 64)))) v1_0.1) ++ (List.drop ((8 + (Int.toNat (Int.tmod (CV.toI e5) 64))) + (min (List.length v1_0.1) (64 - (Int.toNat (Int.tmod (CV.toI e5) 64))))) v1_0.2)) 72 (CV.int .i64 (IntKind.wrap .i64 ((CV.toI e6) + (Nat.cast ((min (List.length v1_0.1) (64 - (Int.toNat (Int.tmod (CV.toI e5) 64))))) : Int)))))))
else
K (v1_0.2))
def f14_L1 {X : Type} (R_f26 : f26_R) (k : Nat) (K : (List CV) → Option X)  (rec1 : (List CV) × (List CV) → Option X) (v : (List CV) × (List CV)) : Option X := f14_T1 R_f26 k K   rec1 v
set_option maxRecDepth 100000 in
theorem f14_L1_ev {X : Type} (R_f26 : f26_R) (hR_f26 : AnsOk Tryd.prog 26 (f26_cOf R_f26)) (k : Nat) (K : Out → Option X)  (r1 : St → Option X) (v : (List CV) × (List CV)) : loopB (f14_cx R_f26 hR_f26) k [.b] (Tryd.f14.body.getD .skip) (retK (f14_cx R_f26 hR_f26) [] Tryd.f14.results.toList K) [] r1 (f14_S1 v) = f14_T1 R_f26 k (fun u => K (f14_out u))   (fun v => r1 (f14_S1 v)) v := by kernel_rfl
theorem f14_L1_it {X : Type} (R_f26 : f26_R) (hR_f26 : AnsOk Tryd.prog 26 (f26_cOf R_f26)) (k : Nat) (K : Out → Option X)  : (fun v => iter (loopB (f14_cx R_f26 hR_f26) k [.b] (Tryd.f14.body.getD .skip) (retK (f14_cx R_f26 hR_f26) [] Tryd.f14.results.toList K) []) k (f14_S1 v)) = iterV (f14_L1 R_f26 k (fun u => K (f14_out u)) ) k :=
  iter_map (fun r1 v => (f14_L1_ev R_f26 hR_f26 k K  r1 v).trans rfl) k
def f14_T {X : Type} (R_f26 : f26_R) (k : Nat) (K : (List CV) → Option X) (loop1 : (List CV) × (List CV) → Option X) (x0 : List CV) (x1 : List CV) : Option X :=
loop1 (x0, x1)
/-- "(*outpost/sha.Hash).Write" -/
def f14_A (R_f26 : f26_R) (k : Nat) : f14_R := fun X K x0 x1 => f14_T R_f26 k K (iterV (f14_L1 R_f26 k K) k) x0 x1
set_option maxRecDepth 100000 in
theorem f14_ev' {X : Type} (R_f26 : f26_R) (hR_f26 : AnsOk Tryd.prog 26 (f26_cOf R_f26)) (k : Nat) (K : Out → Option X) (x0 : List CV) (x1 : List CV) : evFnK (f14_cx R_f26 hR_f26) [] k Tryd.f14.ntmps Tryd.f14.results.toList (Tryd.f14.body.getD .skip) [(.ptr [1000] 1 0 0), (.sl false none x0)] [([1000], (.row false none x1))] K = f14_T R_f26 k (fun u => K (f14_out u)) (fun v => iter (loopB (f14_cx R_f26 hR_f26) k [.b] (Tryd.f14.body.getD .skip) (retK (f14_cx R_f26 hR_f26) [] Tryd.f14.results.toList K) []) k (f14_S1 v)) x0 x1 := by kernel_rfl
theorem f14_ev {X : Type} (R_f26 : f26_R) (hR_f26 : AnsOk Tryd.prog 26 (f26_cOf R_f26)) (k : Nat) (K : Out → Option X) (x0 : List CV) (x1 : List CV) : evFnK (f14_cx R_f26 hR_f26) [] k Tryd.f14.ntmps Tryd.f14.results.toList (Tryd.f14.body.getD .skip) [(.ptr [1000] 1 0 0), (.sl false none x0)] [([1000], (.row false none x1))] K = f14_A R_f26 k X (fun u => K (f14_out u)) x0 x1 := (f14_ev' R_f26 hR_f26 k K x0 x1).trans (by rw [f14_L1_it R_f26 hR_f26 k K]; rfl)
theorem f14_okA (R_f26 : f26_R) (hR_f26 : AnsOk Tryd.prog 26 (f26_cOf R_f26)) (k : Nat) : AnsOk Tryd.prog 14 (f14_cOf (f14_A R_f26 k)) := by
  intro X xs ns K x h
  unfold f14_cOf at h ⊢
  split at h
  · exact ans_main S (f14_Cok R_f26 hR_f26) Tryd.func14 (ent_of Tryd.func14 (by kernel_rfl) rfl) rfl (fun X K => f14_ev R_f26 hR_f26 k K _ _) h
  · cases h
/-- "(*outpost/sha.Hash).Write" -/
def f14 {X : Type} (k : Nat) (K : (List CV) → Option X) (x0 : List CV) (x1 : List CV) : Option X := f14_A (fun X => @f26 X k) k X K x0 x1
theorem f14_ok (k : Nat) : AnsOk Tryd.prog 14 (f14_cOf (fun X => @f14 X k)) := f14_okA (fun X => @f26 X k) (f26_ok k) k
abbrev f22_R : Type 1 := (X : Type) → ((List CV) × (List CV) → Option X) → (List CV) → Option X
def f22_out (u : (List CV) × (List CV)) : Out := ⟨(.ptr [2000] 1 0 0), [([1000], (.row false none u.1)), ([2000], (.row false none u.2))]⟩
def f22_cOf (R : f22_R) : FnC := fun X xs ns K => match xs, ns with
  | [(.ptr [1000] 1 0 0)], [([1000], (.row false none x0))] => R X (fun u => K (f22_out u)) x0
  | _, _ => none
def f22_plan : Nat → Option (List Nat × List Wk)
  | 0 => some ([0], [])
  | 1 => some ([0], [])
  | 2 => some ([3], [])
  | _ => none
def f22_C : Fns := noC
theorem f22_Cok : CsOk Tryd.prog (f22_C) := noC_ok
def f22_cx : Cx := mkCx (tabOf rows) (f22_C) md (cmpIn cmps) f22_plan (f22_Cok)
def f22_T {X : Type} (k : Nat) (K : (List CV) × (List CV) → Option X)  (x0 : List CV) : Option X :=
grd (decide (73 ≤ (List.length x0))) <|
grd (Nat.beq (List.length (List.take 73 (List.drop 0 x0))) 73) <|
grd (decide (73 ≤ 73)) <|
K (x0, ((List.take 0 [(CV.int .u32 0), (CV.int .u32 0), (CV.int .u32 0), (CV.int .u32 0), (CV.int .u32 0), (CV.int .u32 0), (CV.int .u32 0), (CV.int .u32 0), (CV.int .u8 0), (CV.int .u8 0), (CV.int .u8 0), (CV.int .u8 0), (CV.int .u8 0), (CV.int .u8 0), (CV.int .u8 0), (CV.int .u8 0), (CV.int .u8 0), (CV.int .u8 0), (CV.int .u8 0), (CV.int .u8 0), (CV.int .u8 0), (CV.int .u8 0), (CV.int .u8 0), (CV.int .u8 0), (CV.int .u8 0), (CV.int .u8 0), (CV.int .u8 0), (CV.int .u8 0), (CV.int .u8 0), (CV.int .u8 0), (CV.int .u8 0), (CV.int .u8 0), (CV.int .u8 0), (CV.int .u8 0), (CV.int .u8 0), (CV.int .u8 0), (CV.int .u8 0), (CV.int .u8 0), (CV.int .u8 0), (CV.int .u8 0), (CV.int .u8 0), (CV.int .u8 0), (CV.int .u8 0), (CV.int .u8 0), (CV.int .u8 0), (CV.int .u8 0), (CV.int .u8 0), (CV.int .u8 0), (CV.int .u8 0), (CV.int .u8 0), (CV.int .u8 0), (CV.int .u8 0), (CV.int .u8 0), (CV.int .u8 0), (CV.int .u8 0), (CV.int .u8 0), (CV.int .u8 0), (CV.int .u8 0), (CV.int .u8 0), (CV.int .u8 0), (CV.int .u8 0), (CV.int .u8 0), (CV.int .u8 0), (CV.int .u8 0), (CV.int .u8 0), (CV.int .u8 0), (CV.int .u8 0), (CV.int .u8 0), (CV.int .u8 0), (CV.int .u8 0), (CV.int .u8 0), (CV.int .u8 0), (CV.int .i64 0)]) ++ (List.take 73 (List.drop 0 x0)) ++ (List.drop 73 [(CV.int .u32 0), (CV.int .u32 0), (CV.int .u32 0), (CV.int .u32 0), (CV.int .u32 0), (CV.int .u32 0), (CV.int .u32 0), (CV.int .u32 0), (CV.int .u8 0), (CV.int .u8 0), (CV.int .u8 0), (CV.int .u8 0), (CV.int .u8 0), (CV.int .u8 0), (CV.int .u8 0), (CV.int .u8 0), (CV.int .u8 0), (CV.int .u8 0), (CV.int .u8 0), (CV.int .u8 0), (CV.int .u8 0), (CV.int .u8 0), (CV.int .u8 0), (CV.int .u8 0), (CV.int .u8 0), (CV.int .u8 0), (CV.int .u8 0), (CV.int .u8 0), (CV.int .u8 0), (CV.int .u8 0), (CV.int .u8 0), (CV.int .u8 0), (CV.int .u8 0), (CV.int .u8 0), (CV.int .u8 0), (CV.int .u8 0), (CV.int .u8 0), (CV.int .u8 0), (CV.int .u8 0), (CV.int .u8 0), (CV.int .u8 0), (CV.int .u8 0), (CV.int .u8 0), (CV.int .u8 0), (CV.int .u8 0), (CV.int .u8 0), (CV.int .u8 0), (CV.int .u8 0), (CV.int .u8 0), (CV.int .u8 0), (CV.int .u8 0), (CV.int .u8 0), (CV.int .u8 0), (CV.int .u8 0), (CV.int .u8 0), (CV.int .u8 0), (CV.int .u8 0), (CV.int .u8 0), (CV.int .u8 0), (CV.int .u8 0), (CV.int .u8 0), (CV.int .u8 0), (CV.int .u8 0), (CV.int .u8 0), (CV.int .u8 0), (CV.int .u8 0), (CV.int .u8 0), (CV.int .u8 0), (CV.int .u8 0), (CV.int .u8 0), (CV.int .u8 0), (CV.int .u8 0), (CV.int .i64 0)])))
/-- "(*outpost/sha.Hash).Clone" -/
def f22_A (k : Nat) : f22_R := fun X K x0 => f22_T k K  x0
set_option maxRecDepth 100000 in
theorem f22_ev' {X : Type} (k : Nat) (K : Out → Option X) (x0 : List CV) : evFnK (f22_cx) [] k Tryd.f22.ntmps Tryd.f22.results.toList (Tryd.f22.body.getD .skip) [(.ptr [1000] 1 0 0)] [([1000], (.row false none x0))] K = f22_T k (fun u => K (f22_out u)) x0 := by kernel_rfl
theorem f22_ev {X : Type} (k : Nat) (K : Out → Option X) (x0 : List CV) : evFnK (f22_cx) [] k Tryd.f22.ntmps Tryd.f22.results.toList (Tryd.f22.body.getD .skip) [(.ptr [1000] 1 0 0)] [([1000], (.row false none x0))] K = f22_A k X (fun u => K (f22_out u)) x0 := (f22_ev' k K x0).trans rfl
theorem f22_okA (k : Nat) : AnsOk Tryd.prog 22 (f22_cOf (f22_A k)) := by
  intro X xs ns K x h
  unfold f22_cOf at h ⊢
  split at h
  · exact ans_main S (f22_Cok) Tryd.func22 (ent_of Tryd.func22 (by kernel_rfl) rfl) rfl (fun X K => f22_ev k K _) h
  · cases h
/-- "(*outpost/sha.Hash).Clone" -/
def f22 {X : Type} (k : Nat) (K : (List CV) × (List CV) → Option X) (x0 : List CV) : Option X := f22_A k X K x0
theorem f22_ok (k : Nat) : AnsOk Tryd.prog 22 (f22_cOf (fun X => @f22 X k)) := f22_okA k
abbrev f27_R : Type 1 := (X : Type) → (Nat × (List CV) × (List CV) → Option X) → (List CV) → Option X
def f27_out (u : Nat × (List CV) × (List CV)) : Out := ⟨(.osl [2000] none 0 u.1), [([1000], (.row false none u.2.1)), ([2000], (.row false none u.2.2))]⟩
def f27_cOf (R : f27_R) : FnC := fun X xs ns K => match xs, ns with
  | [(.ptr [1000] 1 0 0)], [([1000], (.row false none x0))] => R X (fun u => K (f27_out u)) x0
  | _, _ => none
def f27_plan : Nat → Option (List Nat × List Wk)
  | 0 => some ([0], [])
  | 1 => some ([0], [])
  | 2 => some ([0, 3], [])
  | 3 => some ([0, 3], [])
  | 4 => some ([0, 3], [])
  | 5 => some ([0, 3, 4], [])
  | 6 => some ([0, 3, 4], [])
  | 7 => some ([3, 4, 5], [])
  | 8 => some ([3, 4, 5, 27], [])
  | 9 => some ([3, 4, 5, 27], [])
  | 10 => some ([3, 4, 5, 6, 27], [])
  | 11 => some ([3, 4, 5, 27], [])
  | 12 => some ([4], [])
  | _ => none
def f27_C : Fns := noC
theorem f27_Cok : CsOk Tryd.prog (f27_C) := noC_ok
def f27_cx : Cx := mkCx (tabOf rows) (f27_C) md (cmpIn cmps) f27_plan (f27_Cok)
def f27_S1 (v : Int × Nat × Int × Int × (List CV) × (List CV)) : St := ⟨[.undef, .undef, .undef, (.v (CV.int .i64 v.1)), (.osl [4] none 0 v.2.1), (.v (CV.int .u64 v.2.2.1)), .undef, .undef, .undef, .undef, .undef, .undef, .undef, .undef, .undef, .undef, .undef, .undef, .undef, .undef, .undef, .undef, .undef, .undef, .undef, .undef, .undef, (.v (CV.int .i64 v.2.2.2.1)), .undef, .undef, .undef, .undef, .undef, .undef, .undef, .undef, .undef, .undef, .undef, .undef, .undef, .undef, .undef], [([4], (.row false none v.2.2.2.2.1)), ([1000], (.row false none v.2.2.2.2.2))]⟩
def f27_J1 {X : Type} (k : Nat) (K : Nat × (List CV) × (List CV) → Option X) (loop1 : Int × Nat × Int × Int × (List CV) × (List CV) → Option X) (x0 : List CV) (v2 : Int) : Option X :=
grd (decide (0 ≤ v2)) <|
grd (decide (v2 ≤ v2)) <|
grd (decide ((v2 * 1) ≤ 140737488355328)) <|
grd (decide (0 < (Nat.cast ((Int.toNat v2)) : Int))) <|
grd (decide (0 < (List.length (List.replicate (Int.toNat v2) (CV.int .u8 0))))) <|
Option.bind (x0)[72]? fun e3 =>
grd (CV.isI .i64 e3) <|
loop1 (v2, (Int.toNat v2), (IntKind.wrap .u64 ((IntKind.wrap .u64 (CV.toI e3)) * 8)), 0, (List.set (List.replicate (Int.toNat v2) (CV.int .u8 0)) 0 (CV.int .u8 128)), x0)
def f27_T1 {X : Type} (k : Nat) (K : Nat × (List CV) × (List CV) → Option X)   (rec1 : Int × Nat × Int × Int × (List CV) × (List CV) → Option X) (v9_3 : Int × Nat × Int × Int × (List CV) × (List CV)) : Option X :=
(bif (decide (v9_3.2.2.2.1 < 8)) then
grd (decide (0 ≤ (IntKind.wrap .i64 (8 * v9_3.2.2.2.1)))) <|
grd (decide (0 ≤ (IntKind.wrap .i64 ((IntKind.wrap .i64 (v9_3.1 - 1)) - v9_3.2.2.2.1)))) <|
grd (decide ((IntKind.wrap .i64 ((IntKind.wrap .i64 (v9_3.1 - 1)) - v9_3.2.2.2.1)) < (Nat.cast (v9_3.2.1) : Int))) <|
grd (decide (((0 + (Int.toNat (IntKind.wrap .i64 ((IntKind.wrap .i64 (v9_3.1 - 1)) - v9_3.2.2.2.1)))) + 0) < (List.length v9_3.2.2.2.2.1))) <|
rec1 (v9_3.1, v9_3.2.1, v9_3.2.2.1, (IntKind.wrap .i64 (v9_3.2.2.2.1 + 1)), (List.set v9_3.2.2.2.2.1 ((0 + (Int.toNat (IntKind.wrap .i64 ((IntKind.wrap .i64 (v9_3.1 - 1)) - v9_3.2.2.2.1)))) + 0) (CV.int .u8 (IntKind.wrap .u8 (Int.fdiv v9_3.2.2.1 (2 ^ (min (Int.toNat (IntKind.wrap .i64 (8 * v9_3.2.2.2.1))) 64)))))), v9_3.2.2.2.2.2)
else
K (v9_3.2.1, v9_3.2.2.2.2.2, (List.take (0 + v9_3.2.1) v9_3.2.2.2.2.1)))
def f27_L1 {X : Type} (k : Nat) (K : Nat × (List CV) × (List CV) → Option X)  (rec1 : Int × Nat × Int × Int × (List CV) × (List CV) → Option X) (v : Int × Nat × Int × Int × (List CV) × (List CV)) : Option X := f27_T1 k K   rec1 v
set_option maxRecDepth 100000 in
theorem f27_L1_ev {X : Type} (k : Nat) (K : Out → Option X)  (r1 : St → Option X) (v : Int × Nat × Int × Int × (List CV) × (List CV)) : loopB (f27_cx) k [.r, .r, .r, .r, .r, .r, .l, .r, .b] (Tryd.f27.body.getD .skip) (retK (f27_cx) [] Tryd.f27.results.toList K) [] r1 (f27_S1 v) = f27_T1 k (fun u => K (f27_out u))   (fun v => r1 (f27_S1 v)) v := by kernel_rfl
theorem f27_L1_it {X : Type} (k : Nat) (K : Out → Option X)  : (fun v => iter (loopB (f27_cx) k [.r, .r, .r, .r, .r, .r, .l, .r, .b] (Tryd.f27.body.getD .skip) (retK (f27_cx) [] Tryd.f27.results.toList K) []) k (f27_S1 v)) = iterV (f27_L1 k (fun u => K (f27_out u)) ) k :=
  iter_map (fun r1 v => (f27_L1_ev k K  r1 v).trans rfl) k
def f27_T {X : Type} (k : Nat) (K : Nat × (List CV) × (List CV) → Option X) (loop1 : Int × Nat × Int × Int × (List CV) × (List CV) → Option X) (x0 : List CV) : Option X :=
Option.bind (x0)[72]? fun e1 =>
grd (CV.isI .i64 e1) <|
(bif (decide ((IntKind.wrap .i64 (64 - (Int.tmod (CV.toI e1) 64))) < 9)) then
f27_J1 k K loop1 x0 ((IntKind.wrap .i64 ((IntKind.wrap .i64 (64 - (Int.tmod (CV.toI e1) 64))) + 64)))
else
f27_J1 k K loop1 x0 ((IntKind.wrap .i64 (64 - (Int.tmod (CV.toI e1) 64)))))
/-- "(*outpost/sha.Hash).tail" -/
def f27_A (k : Nat) : f27_R := fun X K x0 => f27_T k K (iterV (f27_L1 k K) k) x0
set_option maxRecDepth 100000 in
theorem f27_ev' {X : Type} (k : Nat) (K : Out → Option X) (x0 : List CV) : evFnK (f27_cx) [] k Tryd.f27.ntmps Tryd.f27.results.toList (Tryd.f27.body.getD .skip) [(.ptr [1000] 1 0 0)] [([1000], (.row false none x0))] K = f27_T k (fun u => K (f27_out u)) (fun v => iter (loopB (f27_cx) k [.r, .r, .r, .r, .r, .r, .l, .r, .b] (Tryd.f27.body.getD .skip) (retK (f27_cx) [] Tryd.f27.results.toList K) []) k (f27_S1 v)) x0 := by kernel_rfl
theorem f27_ev {X : Type} (k : Nat) (K : Out → Option X) (x0 : List CV) : evFnK (f27_cx) [] k Tryd.f27.ntmps Tryd.f27.results.toList (Tryd.f27.body.getD .skip) [(.ptr [1000] 1 0 0)] [([1000], (.row false none x0))] K = f27_A k X (fun u => K (f27_out u)) x0 := (f27_ev' k K x0).trans (by rw [f27_L1_it k K]; rfl)
theorem f27_okA (k : Nat) : AnsOk Tryd.prog 27 (f27_cOf (f27_A k)) := by
  intro X xs ns K x h
  unfold f27_cOf at h ⊢
  split at h
  · exact ans_main S (f27_Cok) Tryd.func27 (ent_of Tryd.func27 (by kernel_rfl) rfl) rfl (fun X K => f27_ev k K _) h
  · cases h
/-- "(*outpost/sha.Hash).tail" -/
def f27 {X : Type} (k : Nat) (K : Nat × (List CV) × (List CV) → Option X) (x0 : List CV) : Option X := f27_A k X K x0
theorem f27_ok (k : Nat) : AnsOk Tryd.prog 27 (f27_cOf (fun X => @f27 X k)) := f27_okA k
abbrev f16_R : Type 1 := (X : Type) → ((List CV) × (List CV) → Option X) → (List CV) → Option X
def f16_out (u : (List CV) × (List CV)) : Out := ⟨(.v (CV.agg u.1)), [([1000], (.row false none u.2))]⟩
def f16_cOf (R : f16_R) : FnC := fun X xs ns K => match xs, ns with
  | [(.ptr [1000] 1 0 0)], [([1000], (.row false none x0))] => R X (fun u => K (f16_out u)) x0
  | _, _ => none
def f16_plan : Nat → Option (List Nat × List Wk)
  | 0 => some ([0], [])
  | 1 => some ([0, 2], [])
  | 2 => some ([0, 2, 3], [])
  | 3 => some ([2, 3], [])
  | 4 => some ([2, 3, 4], [])
  | 5 => some ([2, 4, 17, 18], [])
  | 6 => some ([2, 4, 17, 18], [])
  | 7 => some ([2, 4, 5, 6, 17, 18], [])
  | 8 => some ([2, 4, 5, 6, 17, 18, 22], [])
  | 9 => some ([2, 4, 5, 6, 17, 18, 22], [])
  | 10 => some ([2, 4, 5, 6, 7, 17, 18, 22], [])
  | 11 => some ([2, 4, 5, 6, 17, 18, 22], [])
  | 12 => some ([2, 4, 17, 18], [])
  | 13 => some ([2, 4], [])
  | _ => none
def f16_C (R_f22 : f22_R) (R_f27 : f27_R) (R_f14 : f14_R) : Fns := (orC 14 (f14_cOf R_f14) (orC 22 (f22_cOf R_f22) (orC 27 (f27_cOf R_f27) noC)))
theorem f16_Cok (R_f22 : f22_R) (R_f27 : f27_R) (R_f14 : f14_R) (hR_f22 : AnsOk Tryd.prog 22 (f22_cOf R_f22)) (hR_f27 : AnsOk Tryd.prog 27 (f27_cOf R_f27)) (hR_f14 : AnsOk Tryd.prog 14 (f14_cOf R_f14)) : CsOk Tryd.prog (f16_C R_f22 R_f27 R_f14) := (orC_ok hR_f14 (orC_ok hR_f22 (orC_ok hR_f27 noC_ok)))
def f16_cx (R_f22 : f22_R) (R_f27 : f27_R) (R_f14 : f14_R) (hR_f22 : AnsOk Tryd.prog 22 (f22_cOf R_f22)) (hR_f27 : AnsOk Tryd.prog 27 (f27_cOf R_f27)) (hR_f14 : AnsOk Tryd.prog 14 (f14_cOf R_f14)) : Cx := mkCx (tabOf rows) (f16_C R_f22 R_f27 R_f14) md (cmpIn cmps) f16_plan (f16_Cok R_f22 R_f27 R_f14 hR_f22 hR_f27 hR_f14)
def f16_S1 (v : (List CV) × Int × (List CV) × (List CV)) : St := ⟨[.undef, .undef, (.ptr [2] 1 0 0), .undef, (.ptr [4] 1 0 0), .undef, .undef, .undef, .undef, .undef, .undef, .undef, .undef, .undef, .undef, .undef, .undef, (.v (CV.agg v.1)), (.v (CV.int .i64 v.2.1)), .undef, .undef, .undef, .undef, .undef, .undef, .undef, .undef, .undef, .undef, .undef, .undef, .undef, .undef, .undef, .undef, .undef, .undef, .undef, .undef], [([2], (.row false none (List.replicate 32 (CV.int .u8 0)))), ([4], (.row false none v.2.2.1)), ([1000], (.row false none v.2.2.2))]⟩
def f16_S2 (v : Int × Int × (List CV) × Int × Int × (List CV) × (List CV)) : St := ⟨[.undef, .undef, (.ptr [2] 1 0 0), .undef, (.ptr [4] 1 0 0), (.v (CV.int .i64 v.1)), (.v (CV.int .u32 v.2.1)), .undef, .undef, .undef, .undef, .undef, .undef, .undef, .undef, .undef, .undef, (.v (CV.agg v.2.2.1)), (.v (CV.int .i64 v.2.2.2.1)), .undef, .undef, .undef, (.v (CV.int .i64 v.2.2.2.2.1)), .undef, .undef, .undef, .undef, .undef, .undef, .undef, .undef, .undef, .undef, .undef, .undef, .undef, .undef, .undef, .undef], [([2], (.row false none (List.replicate 32 (CV.int .u8 0)))), ([4], (.row false none v.2.2.2.2.2.1)), ([1000], (.row false none v.2.2.2.2.2.2))]⟩
def f16_T2 {X : Type} (R_f22 : f22_R) (R_f27 : f27_R) (R_f14 : f14_R) (k : Nat) (K : (List CV) × (List CV) → Option X) (rec1 : (List CV) × Int × (List CV) × (List CV) → Option X)  (rec2 : Int × Int × (List CV) × Int × Int × (List CV) × (List CV) → Option X) (v15_7 : Int × Int × (List CV) × Int × Int × (List CV) × (List CV)) : Option X :=
(bif (decide (v15_7.2.2.2.2.1 < 4)) then
grd (decide (0 ≤ (IntKind.wrap .i64 (24 - (IntKind.wrap .i64 (8 * v15_7.2.2.2.2.1)))))) <|
grd (decide (0 ≤ (IntKind.wrap .i64 ((IntKind.wrap .i64 (4 * v15_7.1)) + v15_7.2.2.2.2.1)))) <|
grd (decide ((IntKind.wrap .i64 ((IntKind.wrap .i64 (4 * v15_7.1)) + v15_7.2.2.2.2.1)) < 32)) <|
grd (decide ((0 + (0 + ((Int.toNat (IntKind.wrap .i64 ((IntKind.wrap .i64 (4 * v15_7.1)) + v15_7.2.2.2.2.1))) * 1))) < (List.length v15_7.2.2.2.2.2.1))) <|
rec2 (v15_7.1, v15_7.2.1, v15_7.2.2.1, v15_7.2.2.2.1, (IntKind.wrap .i64 (v15_7.2.2.2.2.1 + 1)), (List.set v15_7.2.2.2.2.2.1 (0 + (0 + ((Int.toNat (IntKind.wrap .i64 ((IntKind.wrap .i64 (4 * v15_7.1)) + v15_7.2.2.2.2.1))) * 1))) (CV.int .u8 (IntKind.wrap .u8 (Int.fdiv v15_7.2.1 (2 ^ (min (Int.toNat (IntKind.wrap .i64 (24 - (IntKind.wrap .i64 (8 * v15_7.2.2.2.2.1))))) 32)))))), v15_7.2.2.2.2.2.2)
else
rec1 (v15_7.2.2.1, (IntKind.wrap .i64 (v15_7.2.2.2.1 + 1)), v15_7.2.2.2.2.2.1, v15_7.2.2.2.2.2.2))
def f16_L2 {X : Type} (R_f22 : f22_R) (R_f27 : f27_R) (R_f14 : f14_R) (k : Nat) (K : (List CV) × (List CV) → Option X) (rec1 : (List CV) × Int × (List CV) × (List CV) → Option X) (rec2 : Int × Int × (List CV) × Int × Int × (List CV) × (List CV) → Option X) (v : Int × Int × (List CV) × Int × Int × (List CV) × (List CV)) : Option X := f16_T2 R_f22 R_f27 R_f14 k K rec1  rec2 v
set_option maxRecDepth 100000 in
theorem f16_L2_ev {X : Type} (R_f22 : f22_R) (R_f27 : f27_R) (R_f14 : f14_R) (hR_f22 : AnsOk Tryd.prog 22 (f22_cOf R_f22)) (hR_f27 : AnsOk Tryd.prog 27 (f27_cOf R_f27)) (hR_f14 : AnsOk Tryd.prog 14 (f14_cOf R_f14)) (k : Nat) (K : Out → Option X) (r1 : St → Option X) (r2 : St → Option X) (v : Int × Int × (List CV) × Int × Int × (List CV) × (List CV)) : loopB (f16_cx R_f22 R_f27 R_f14 hR_f22 hR_f27 hR_f14) k [.r, .r, .r, .r, .l, .r, .b, .o, .r, .r, .l, .b, .r, .r, .b] (Tryd.f16.body.getD .skip) (retK (f16_cx R_f22 R_f27 R_f14 hR_f22 hR_f27 hR_f14) [] Tryd.f16.results.toList K) [r1] r2 (f16_S2 v) = f16_T2 R_f22 R_f27 R_f14 k (fun u => K (f16_out u)) (fun v => r1 (f16_S1 v))  (fun v => r2 (f16_S2 v)) v := by kernel_rfl
theorem f16_L2_it {X : Type} (R_f22 : f22_R) (R_f27 : f27_R) (R_f14 : f14_R) (hR_f22 : AnsOk Tryd.prog 22 (f22_cOf R_f22)) (hR_f27 : AnsOk Tryd.prog 27 (f27_cOf R_f27)) (hR_f14 : AnsOk Tryd.prog 14 (f14_cOf R_f14)) (k : Nat) (K : Out → Option X) (r1 : St → Option X) : (fun v => iter (loopB (f16_cx R_f22 R_f27 R_f14 hR_f22 hR_f27 hR_f14) k [.r, .r, .r, .r, .l, .r, .b, .o, .r, .r, .l, .b, .r, .r, .b] (Tryd.f16.body.getD .skip) (retK (f16_cx R_f22 R_f27 R_f14 hR_f22 hR_f27 hR_f14) [] Tryd.f16.results.toList K) [r1]) k (f16_S2 v)) = iterV (f16_L2 R_f22 R_f27 R_f14 k (fun u => K (f16_out u)) (fun v => r1 (f16_S1 v))) k :=
  iter_map (fun r2 v => (f16_L2_ev R_f22 R_f27 R_f14 hR_f22 hR_f27 hR_f14 k K r1 r2 v).trans rfl) k
def f16_T1 {X : Type} (R_f22 : f22_R) (R_f27 : f27_R) (R_f14 : f14_R) (k : Nat) (K : (List CV) × (List CV) → Option X)  (loop2 : Int × Int × (List CV) × Int × Int × (List CV) × (List CV) → Option X) (rec1 : (List CV) × Int × (List CV) × (List CV) → Option X) (v7_3 : (List CV) × Int × (List CV) × (List CV)) : Option X :=
(bif (decide (v7_3.2.1 < 8)) then
grd (decide (0 ≤ v7_3.2.1)) <|
grd (decide (v7_3.2.1 < 8)) <|
Option.bind (v7_3.1[(Int.toNat v7_3.2.1)]?) fun e7 =>
grd (CV.isI .u32 e7) <|
loop2 (v7_3.2.1, (CV.toI e7), v7_3.1, v7_3.2.1, 0, v7_3.2.2.1, v7_3.2.2.2)
else
grd (decide (32 ≤ (List.length v7_3.2.2.1))) <|
grd (Nat.beq (List.length (List.take 32 (List.drop 0 v7_3.2.2.1))) 32) <|
grd (decide (32 ≤ 32)) <|
grd (decide (32 ≤ (List.length ((List.take 0 (List.replicate 32 (CV.int .u8 0))) ++ (List.take 32 (List.drop 0 v7_3.2.2.1)) ++ (List.drop 32 (List.replicate 32 (CV.int .u8 0))))))) <|
K ((List.take 32 (List.drop 0 ((List.take 0 (List.replicate 32 (CV.int .u8 0))) ++ (List.take 32 (List.drop 0 v7_3.2.2.1)) ++ (List.drop 32 (List.replicate 32 (CV.int .u8 0)))))), v7_3.2.2.2))
def f16_L1 {X : Type} (R_f22 : f22_R) (R_f27 : f27_R) (R_f14 : f14_R) (k : Nat) (K : (List CV) × (List CV) → Option X)  (rec1 : (List CV) × Int × (List CV) × (List CV) → Option X) (v : (List CV) × Int × (List CV) × (List CV)) : Option X := f16_T1 R_f22 R_f27 R_f14 k K  (iterV (f16_L2 R_f22 R_f27 R_f14 k K rec1) k) rec1 v
set_option maxRecDepth 100000 in
theorem f16_L1_ev {X : Type} (R_f22 : f22_R) (R_f27 : f27_R) (R_f14 : f14_R) (hR_f22 : AnsOk Tryd.prog 22 (f22_cOf R_f22)) (hR_f27 : AnsOk Tryd.prog 27 (f27_cOf R_f27)) (hR_f14 : AnsOk Tryd.prog 14 (f14_cOf R_f14)) (k : Nat) (K : Out → Option X)  (r1 : St → Option X) (v : (List CV) × Int × (List CV) × (List CV)) : loopB (f16_cx R_f22 R_f27 R_f14 hR_f22 hR_f27 hR_f14) k [.r, .r, .r, .r, .l, .r, .b] (Tryd.f16.body.getD .skip) (retK (f16_cx R_f22 R_f27 R_f14 hR_f22 hR_f27 hR_f14) [] Tryd.f16.results.toList K) [] r1 (f16_S1 v) = f16_T1 R_f22 R_f27 R_f14 k (fun u => K (f16_out u))  (fun v => iter (loopB (f16_cx R_f22 R_f27 R_f14 hR_f22 hR_f27 hR_f14) k [.r, .r, .r, .r, .l, .r, .b, .o, .r, .r, .l, .b, .r, .r, .b] (Tryd.f16.body.getD .skip) (retK (f16_cx R_f22 R_f27 R_f14 hR_f22 hR_f27 hR_f14) [] Tryd.f16.results.toList K) [r1]) k (f16_S2 v)) (fun v => r1 (f16_S1 v)) v := by kernel_rfl
theorem f16_L1_it {X : Type} (R_f22 : f22_R) (R_f27 : f27_R) (R_f14 : f14_R) (hR_f22 : AnsOk Tryd.prog 22 (f22_cOf R_f22)) (hR_f27 : AnsOk Tryd.prog 27 (f27_cOf R_f27)) (hR_f14 : AnsOk Tryd.prog 14 (f14_cOf R_f14)) (k : Nat) (K : Out → Option X)  : (fun v => iter (loopB (f16_cx R_f22 R_f27 R_f14 hR_f22 hR_f27 hR_f14) k [.r, .r, .r, .r, .l, .r, .b] (Tryd.f16.body.getD .skip) (retK (f16_cx R_f22 R_f27 R_f14 hR_f22 hR_f27 hR_f14) [] Tryd.f16.results.toList K) []) k (f16_S1 v)) = iterV (f16_L1 R_f22 R_f27 R_f14 k (fun u => K (f16_out u)) ) k :=
  iter_map (fun r1 v => (f16_L1_ev R_f22 R_f27 R_f14 hR_f22 hR_f27 hR_f14 k K  r1 v).trans (by rw [f16_L2_it R_f22 R_f27 R_f14 hR_f22 hR_f27 hR_f14 k K r1]; rfl)) k
def f16_T {X : Type} (R_f22 : f22_R) (R_f27 : f27_R) (R_f14 : f14_R) (k : Nat) (K : (List CV) × (List CV) → Option X) (loop1 : (List CV) × Int × (List CV) × (List CV) → Option X) (x0 : List CV) : Option X :=
R_f22 _ (fun u1 =>
R_f27 _ (fun u2 =>
R_f14 _ (fun u3 =>
grd (decide (8 ≤ (List.length u3))) <|
loop1 ((List.take 8 (List.drop 0 u3)), 0, (List.replicate 32 (CV.int .u8 0)), u2.2.1)) ((List.take u2.1 (List.drop 0 u2.2.2))) (u1.2)) (u1.1)) (x0)
/-- "(*outpost/sha.Hash).Sum" -/
def f16_A (R_f22 : f22_R) (R_f27 : f27_R) (R_f14 : f14_R) (k : Nat) : f16_R := fun X K x0 => f16_T R_f22 R_f27 R_f14 k K (iterV (f16_L1 R_f22 R_f27 R_f14 k K) k) x0
set_option maxRecDepth 100000 in
theorem f16_ev' {X : Type} (R_f22 : f22_R) (R_f27 : f27_R) (R_f14 : f14_R) (hR_f22 : AnsOk Tryd.prog 22 (f22_cOf R_f22)) (hR_f27 : AnsOk Tryd.prog 27 (f27_cOf R_f27)) (hR_f14 : AnsOk Tryd.prog 14 (f14_cOf R_f14)) (k : Nat) (K : Out → Option X) (x0 : List CV) : evFnK (f16_cx R_f22 R_f27 R_f14 hR_f22 hR_f27 hR_f14) [] k Tryd.f16.ntmps Tryd.f16.results.toList (Tryd.f16.body.getD .skip) [(.ptr [1000] 1 0 0)] [([1000], (.row false none x0))] K = f16_T R_f22 R_f27 R_f14 k (fun u => K (f16_out u)) (fun v => iter (loopB (f16_cx R_f22 R_f27 R_f14 hR_f22 hR_f27 hR_f14) k [.r, .r, .r, .r, .l, .r, .b] (Tryd.f16.body.getD .skip) (retK (f16_cx R_f22 R_f27 R_f14 hR_f22 hR_f27 hR_f14) [] Tryd.f16.results.toList K) []) k (f16_S1 v)) x0 := by kernel_rfl
theorem f16_ev {X : Type} (R_f22 : f22_R) (R_f27 : f27_R) (R_f14 : f14_R) (hR_f22 : AnsOk Tryd.prog 22 (f22_cOf R_f22)) (hR_f27 : AnsOk Tryd.prog 27 (f27_cOf R_f27)) (hR_f14 : AnsOk Tryd.prog 14 (f14_cOf R_f14)) (k : Nat) (K : Out → Option X) (x0 : List CV) : evFnK (f16_cx R_f22 R_f27 R_f14 hR_f22 hR_f27 hR_f14) [] k Tryd.f16.ntmps Tryd.f16.results.toList (Tryd.f16.body.getD .skip) [(.ptr [1000] 1 0 0)] [([1000], (.row false none x0))] K = f16_A R_f22 R_f27 R_f14 k X (fun u => K (f16_out u)) x0 := (f16_ev' R_f22 R_f27 R_f14 hR_f22 hR_f27 hR_f14 k K x0).trans (by rw [f16_L1_it R_f22 R_f27 R_f14 hR_f22 hR_f27 hR_f14 k K]; rfl)
theorem f16_okA (R_f22 : f22_R) (R_f27 : f27_R) (R_f14 : f14_R) (hR_f22 : AnsOk Tryd.prog 22 (f22_cOf R_f22)) (hR_f27 : AnsOk Tryd.prog 27 (f27_cOf R_f27)) (hR_f14 : AnsOk Tryd.prog 14 (f14_cOf R_f14)) (k : Nat) : AnsOk Tryd.prog 16 (f16_cOf (f16_A R_f22 R_f27 R_f14 k)) := by
  intro X xs ns K x h
  unfold f16_cOf at h ⊢
  split at h
  · exact ans_main S (f16_Cok R_f22 R_f27 R_f14 hR_f22 hR_f27 hR_f14) Tryd.func16 (ent_of Tryd.func16 (by kernel_rfl) rfl) rfl (fun X K => f16_ev R_f22 R_f27 R_f14 hR_f22 hR_f27 hR_f14 k K _) h
  · cases h
/-- "(*outpost/sha.Hash).Sum" -/
def f16 {X : Type} (k : Nat) (K : (List CV) × (List CV) → Option X) (x0 : List CV) : Option X := f16_A (fun X => @f22 X k) (fun X => @f27 X k) (fun X => @f14 X k) k X K x0
theorem f16_ok (k : Nat) : AnsOk Tryd.prog 16 (f16_cOf (fun X => @f16 X k)) := f16_okA (fun X => @f22 X k) (fun X => @f27 X k) (fun X => @f14 X k) (f22_ok k) (f27_ok k) (f14_ok k) k
/-- "outpost/sha.Hex" -/
def f20 {X : Type} (k : Nat) (K : ByteArray → Option X) (x0 : List CV) : Option X := grd (Go.Proofs.YtlaojkheenobaaaDoor.okHex x0) (K (Go.Proofs.YtlaojkheenobaaaDoor.hexT x0))
def f20_out (u : ByteArray) : Out := ⟨.v (.str u), []⟩
abbrev f20_R : Type 1 := (X : Type) → (ByteArray → Option X) → List CV → Option X
def f20_cOf (R : f20_R) : FnC := fun X xs ns K => match xs, ns with
  | [.v (.agg x0)], [] => R X (fun u => K (f20_out u)) x0
  | _, _ => none
theorem f20_ok (k : Nat) : AnsOk Tryd.prog 20 (f20_cOf (fun X => @f20 X k)) := by
  intro X xs ns K x h
  unfold f20_cOf at h ⊢
  split at h
  · next x0 =>
    have h : grd (Go.Proofs.YtlaojkheenobaaaDoor.okHex x0) (K (f20_out (Go.Proofs.YtlaojkheenobaaaDoor.hexT x0))) = some x := h
    obtain ⟨h1, h2⟩ := grd_some h
    exact ⟨trivial, _, (Go.Proofs.YtlaojkheenobaaaDoor.hex_fn x0 h1).toX (ent_of Tryd.func20 (by kernel_rfl) rfl), h2, fun Y K' => by show grd _ _ = _; rw [h1]; rfl⟩
  · cases h
abbrev f28_R : Type 1 := (X : Type) → (Int × Bool → Option X) → Int → Option X
def f28_out (u : Int × Bool) : Out := ⟨(.tup [(.v (CV.int .u8 u.1)), (.v (CV.bool u.2))]), []⟩
def f28_cOf (R : f28_R) : FnC := fun X xs ns K => match xs, ns with
  | [(.v (CV.int .i32 x0))], [] => R X (fun u => K (f28_out u)) x0
  | _, _ => none
def f28_plan : Nat → Option (List Nat × List Wk)
  | 0 => some ([0], [])
  | 1 => some ([0], [])
  | 2 => some ([0], [])
  | 3 => some ([0], [])
  | 4 => some ([0], [])
  | 5 => some ([0], [])
  | 6 => some ([0], [])
  | 7 => some ([], [])
  | _ => none
def f28_C : Fns := noC
theorem f28_Cok : CsOk Tryd.prog (f28_C) := noC_ok
def f28_cx : Cx := mkCx (tabOf rows) (f28_C) md (cmpIn cmps) f28_plan (f28_Cok)
def f28_J1 {X : Type} (k : Nat) (K : Int × Bool → Option X)  (v1 : Unit) : Option X :=
K (0, false)
def f28_T {X : Type} (k : Nat) (K : Int × Bool → Option X)  (x0 : Int) : Option X :=
(bif (decide (x0 ≥ 48)) then
(bif (decide (x0 ≤ 57)) then
K ((IntKind.wrap .u8 (IntKind.wrap .i32 (x0 - 48))), true)
else
(bif (decide (x0 ≥ 97)) then
(bif (decide (x0 ≤ 102)) then
K ((IntKind.wrap .u8 ((IntKind.wrap .u8 (IntKind.wrap .i32 (x0 - 97))) + 10)), true)
else
(bif (decide (x0 ≥ 65)) then
(bif (decide (x0 ≤ 70)) then
K ((IntKind.wrap .u8 ((IntKind.wrap .u8 (IntKind.wrap .i32 (x0 - 65))) + 10)), true)
else
f28_J1 k K (()))
else
f28_J1 k K (())))
else
(bif (decide (x0 ≥ 65)) then
(bif (decide (x0 ≤ 70)) then
K ((IntKind.wrap .u8 ((IntKind.wrap .u8 (IntKind.wrap .i32 (x0 - 65))) + 10)), true)
else
f28_J1 k K (()))
else
f28_J1 k K (()))))
else
(bif (decide (x0 ≥ 97)) then
(bif (decide (x0 ≤ 102)) then
K ((IntKind.wrap .u8 ((IntKind.wrap .u8 (IntKind.wrap .i32 (x0 - 97))) + 10)), true)
else
(bif (decide (x0 ≥ 65)) then
(bif (decide (x0 ≤ 70)) then
K ((IntKind.wrap .u8 ((IntKind.wrap .u8 (IntKind.wrap .i32 (x0 - 65))) + 10)), true)
else
f28_J1 k K (()))
else
f28_J1 k K (())))
else
(bif (decide (x0 ≥ 65)) then
(bif (decide (x0 ≤ 70)) then
K ((IntKind.wrap .u8 ((IntKind.wrap .u8 (IntKind.wrap .i32 (x0 - 65))) + 10)), true)
else
f28_J1 k K (()))
else
f28_J1 k K (()))))
/-- "outpost/sha.digit" -/
def f28_A (k : Nat) : f28_R := fun X K x0 => f28_T k K  x0
set_option maxRecDepth 100000 in
theorem f28_ev' {X : Type} (k : Nat) (K : Out → Option X) (x0 : Int) : evFnK (f28_cx) [] k Tryd.f28.ntmps Tryd.f28.results.toList (Tryd.f28.body.getD .skip) [(.v (CV.int .i32 x0))] [] K = f28_T k (fun u => K (f28_out u)) x0 := by kernel_rfl
theorem f28_ev {X : Type} (k : Nat) (K : Out → Option X) (x0 : Int) : evFnK (f28_cx) [] k Tryd.f28.ntmps Tryd.f28.results.toList (Tryd.f28.body.getD .skip) [(.v (CV.int .i32 x0))] [] K = f28_A k X (fun u => K (f28_out u)) x0 := (f28_ev' k K x0).trans rfl
theorem f28_okA (k : Nat) : AnsOk Tryd.prog 28 (f28_cOf (f28_A k)) := by
  intro X xs ns K x h
  unfold f28_cOf at h ⊢
  split at h
  · exact ans_main S (f28_Cok) Tryd.func28 (ent_of Tryd.func28 (by kernel_rfl) rfl) rfl (fun X K => f28_ev k K _) h
  · cases h
/-- "outpost/sha.digit" -/
def f28 {X : Type} (k : Nat) (K : Int × Bool → Option X) (x0 : Int) : Option X := f28_A k X K x0
theorem f28_ok (k : Nat) : AnsOk Tryd.prog 28 (f28_cOf (fun X => @f28 X k)) := f28_okA k
abbrev f18_R : Type 1 := (X : Type) → ((List CV) × Int → Option X) → ByteArray → Option X
def f18_out (u : (List CV) × Int) : Out := ⟨(.tup [(.v (CV.agg u.1)), (.v (CV.int .i64 u.2))]), []⟩
def f18_cOf (R : f18_R) : FnC := fun X xs ns K => match xs, ns with
  | [(.v (CV.str x0))], [] => R X (fun u => K (f18_out u)) x0
  | _, _ => none
def f18_plan : Nat → Option (List Nat × List Wk)
  | 0 => some ([0], [])
  | 1 => some ([0, 2], [])
  | 2 => some ([0, 2, 4], [])
  | 3 => some ([2, 4], [])
  | 4 => some ([0, 2, 4], [])
  | 5 => some ([2, 4, 14], [])
  | 6 => some ([2, 4, 14, 15], [])
  | 7 => some ([2, 4, 5, 6, 14], [])
  | 8 => some ([2, 4, 5, 7, 8, 14], [])
  | 9 => some ([2], [])
  | 10 => some ([2, 4, 5, 7, 14], [])
  | 11 => some ([2, 4], [])
  | _ => none
def f18_C (R_f28 : f28_R) : Fns := (orC 28 (f28_cOf R_f28) noC)
theorem f18_Cok (R_f28 : f28_R) (hR_f28 : AnsOk Tryd.prog 28 (f28_cOf R_f28)) : CsOk Tryd.prog (f18_C R_f28) := (orC_ok hR_f28 noC_ok)
def f18_cx (R_f28 : f28_R) (hR_f28 : AnsOk Tryd.prog 28 (f28_cOf R_f28)) : Cx := mkCx (tabOf rows) (f18_C R_f28) md (cmpIn cmps) f18_plan (f18_Cok R_f28 hR_f28)
def f18_S1 (v : (List CV) × ByteArray × Nat) : St := ⟨[.undef, .undef, (.ptr [2] 1 0 0), .undef, (.ptr [4] 1 0 0), .undef, .undef, .undef, .undef, .undef, .undef, .undef, .undef, .undef, (.ptr [14] 0 0 0), .undef, .undef, .undef, .undef, .undef, .undef, .undef, .undef, .undef, .undef, .undef, .undef, .undef, .undef, .undef, .undef, .undef, .undef, .undef, .undef, .undef, .undef, .undef], [([2], (.row false none (List.replicate 32 (CV.int .u8 0)))), ([4], (.row false none v.1)), ([14], (.iter v.2.1 v.2.2))]⟩
def f18_T1 {X : Type} (R_f28 : f28_R) (k : Nat) (K : (List CV) × Int → Option X)   (rec1 : (List CV) × ByteArray × Nat → Option X) (v6_0 : (List CV) × ByteArray × Nat) : Option X :=
(bif (decide (v6_0.2.2 < ByteArray.size v6_0.2.1)) then
R_f28 _ (fun u4 =>
(bif (!u4.2) then
grd (decide (32 ≤ 32)) <|
grd (decide (32 ≤ (List.length ((List.take 0 (List.replicate 32 (CV.int .u8 0))) ++ (List.replicate 32 (CV.int .u8 0)) ++ (List.drop 32 (List.replicate 32 (CV.int .u8 0))))))) <|
K ((List.take 32 (List.drop 0 ((List.take 0 (List.replicate 32 (CV.int .u8 0))) ++ (List.replicate 32 (CV.int .u8 0)) ++ (List.drop 32 (List.replicate 32 (CV.int .u8 0)))))), 20)
else
grd (decide (0 ≤ (IntKind.wrap .i64 (Int.tdiv (Nat.cast (v6_0.2.2) : Int) 2)))) <|
grd (decide ((IntKind.wrap .i64 (Int.tdiv (Nat.cast (v6_0.2.2) : Int) 2)) < 32)) <|
Option.bind (v6_0.1)[(0 + (0 + ((Int.toNat (IntKind.wrap .i64 (Int.tdiv (Nat.cast (v6_0.2.2) : Int) 2))) * 1)))]? fun e5 =>
grd (CV.isI .u8 e5) <|
grd (decide (0 ≤ (IntKind.wrap .i64 (Int.tdiv (Nat.cast (v6_0.2.2) : Int) 2)))) <|
grd (decide ((IntKind.wrap .i64 (Int.tdiv (Nat.cast (v6_0.2.2) : Int) 2)) < 32)) <|
grd (decide ((0 + (0 + ((Int.toNat (IntKind.wrap .i64 (Int.tdiv (Nat.cast (v6_0.2.2) : Int) 2))) * 1))) < (List.length v6_0.1))) <|
rec1 ((List.set v6_0.1 (0 + (0 + ((Int.toNat (IntKind.wrap .i64 (Int.tdiv (Nat.cast (v6_0.2.2) : Int) 2))) * 1))) (CV.int .u8 (bop .or .u8 (IntKind.wrap .u8 ((CV.toI e5) * 2 ^ 4)) u4.1))), v6_0.2.1, (v6_0.2.2 + (Utf8.decode v6_0.2.1 v6_0.2.2).2)))) ((Nat.cast ((Utf8.decode v6_0.2.1 v6_0.2.2).1) : Int))
else
grd (decide (32 ≤ (List.length v6_0.1))) <|
grd (Nat.beq (List.length (List.take 32 (List.drop 0 v6_0.1))) 32) <|
grd (decide (32 ≤ 32)) <|
grd (decide (32 ≤ (List.length ((List.take 0 (List.replicate 32 (CV.int .u8 0))) ++ (List.take 32 (List.drop 0 v6_0.1)) ++ (List.drop 32 (List.replicate 32 (CV.int .u8 0))))))) <|
K ((List.take 32 (List.drop 0 ((List.take 0 (List.replicate 32 (CV.int .u8 0))) ++ (List.take 32 (List.drop 0 v6_0.1)) ++ (List.drop 32 (List.replicate 32 (CV.int .u8 0)))))), 0))
def f18_L1 {X : Type} (R_f28 : f28_R) (k : Nat) (K : (List CV) × Int → Option X)  (rec1 : (List CV) × ByteArray × Nat → Option X) (v : (List CV) × ByteArray × Nat) : Option X := f18_T1 R_f28 k K   rec1 v
set_option maxRecDepth 100000 in
theorem f18_L1_ev {X : Type} (R_f28 : f28_R) (hR_f28 : AnsOk Tryd.prog 28 (f28_cOf R_f28)) (k : Nat) (K : Out → Option X)  (r1 : St → Option X) (v : (List CV) × ByteArray × Nat) : loopB (f18_cx R_f28 hR_f28) k [.r, .r, .r, .l, .r, .b] (Tryd.f18.body.getD .skip) (retK (f18_cx R_f28 hR_f28) [] Tryd.f18.results.toList K) [] r1 (f18_S1 v) = f18_T1 R_f28 k (fun u => K (f18_out u))   (fun v => r1 (f18_S1 v)) v := by kernel_rfl
theorem f18_L1_it {X : Type} (R_f28 : f28_R) (hR_f28 : AnsOk Tryd.prog 28 (f28_cOf R_f28)) (k : Nat) (K : Out → Option X)  : (fun v => iter (loopB (f18_cx R_f28 hR_f28) k [.r, .r, .r, .l, .r, .b] (Tryd.f18.body.getD .skip) (retK (f18_cx R_f28 hR_f28) [] Tryd.f18.results.toList K) []) k (f18_S1 v)) = iterV (f18_L1 R_f28 k (fun u => K (f18_out u)) ) k :=
  iter_map (fun r1 v => (f18_L1_ev R_f28 hR_f28 k K  r1 v).trans rfl) k
def f18_T {X : Type} (R_f28 : f28_R) (k : Nat) (K : (List CV) × Int → Option X) (loop1 : (List CV) × ByteArray × Nat → Option X) (x0 : ByteArray) : Option X :=
(bif ((Nat.cast ((ByteArray.size x0)) : Int) != 64) then
grd (decide (32 ≤ 32)) <|
grd (Nat.beq (List.length (List.take 32 (List.drop 0 (List.replicate 32 (CV.int .u8 0))))) 32) <|
grd (decide (32 ≤ 32)) <|
grd (decide (32 ≤ (List.length ((List.take 0 (List.replicate 32 (CV.int .u8 0))) ++ (List.take 32 (List.drop 0 (List.replicate 32 (CV.int .u8 0)))) ++ (List.drop 32 (List.replicate 32 (CV.int .u8 0))))))) <|
K ((List.take 32 (List.drop 0 ((List.take 0 (List.replicate 32 (CV.int .u8 0))) ++ (List.take 32 (List.drop 0 (List.replicate 32 (CV.int .u8 0)))) ++ (List.drop 32 (List.replicate 32 (CV.int .u8 0)))))), 20)
else
loop1 ((List.replicate 32 (CV.int .u8 0)), x0, 0))
/-- "outpost/sha.Parse" -/
def f18_A (R_f28 : f28_R) (k : Nat) : f18_R := fun X K x0 => f18_T R_f28 k K (iterV (f18_L1 R_f28 k K) k) x0
set_option maxRecDepth 100000 in
theorem f18_ev' {X : Type} (R_f28 : f28_R) (hR_f28 : AnsOk Tryd.prog 28 (f28_cOf R_f28)) (k : Nat) (K : Out → Option X) (x0 : ByteArray) : evFnK (f18_cx R_f28 hR_f28) [] k Tryd.f18.ntmps Tryd.f18.results.toList (Tryd.f18.body.getD .skip) [(.v (CV.str x0))] [] K = f18_T R_f28 k (fun u => K (f18_out u)) (fun v => iter (loopB (f18_cx R_f28 hR_f28) k [.r, .r, .r, .l, .r, .b] (Tryd.f18.body.getD .skip) (retK (f18_cx R_f28 hR_f28) [] Tryd.f18.results.toList K) []) k (f18_S1 v)) x0 := by kernel_rfl
theorem f18_ev {X : Type} (R_f28 : f28_R) (hR_f28 : AnsOk Tryd.prog 28 (f28_cOf R_f28)) (k : Nat) (K : Out → Option X) (x0 : ByteArray) : evFnK (f18_cx R_f28 hR_f28) [] k Tryd.f18.ntmps Tryd.f18.results.toList (Tryd.f18.body.getD .skip) [(.v (CV.str x0))] [] K = f18_A R_f28 k X (fun u => K (f18_out u)) x0 := (f18_ev' R_f28 hR_f28 k K x0).trans (by rw [f18_L1_it R_f28 hR_f28 k K]; rfl)
theorem f18_okA (R_f28 : f28_R) (hR_f28 : AnsOk Tryd.prog 28 (f28_cOf R_f28)) (k : Nat) : AnsOk Tryd.prog 18 (f18_cOf (f18_A R_f28 k)) := by
  intro X xs ns K x h
  unfold f18_cOf at h ⊢
  split at h
  · exact ans_main S (f18_Cok R_f28 hR_f28) Tryd.func18 (ent_of Tryd.func18 (by kernel_rfl) rfl) rfl (fun X K => f18_ev R_f28 hR_f28 k K _) h
  · cases h
/-- "outpost/sha.Parse" -/
def f18 {X : Type} (k : Nat) (K : (List CV) × Int → Option X) (x0 : ByteArray) : Option X := f18_A (fun X => @f28 X k) k X K x0
theorem f18_ok (k : Nat) : AnsOk Tryd.prog 18 (f18_cOf (fun X => @f18 X k)) := f18_okA (fun X => @f28 X k) (f28_ok k) k
abbrev f15_R : Type 1 := (X : Type) → ((List CV) → Option X) → (List CV) → Option X
def f15_out (u : (List CV)) : Out := ⟨(.v (CV.agg u)), []⟩
def f15_cOf (R : f15_R) : FnC := fun X xs ns K => match xs, ns with
  | [(.sl false none x0)], [] => R X (fun u => K (f15_out u)) x0
  | _, _ => none
def f15_plan : Nat → Option (List Nat × List Wk)
  | 0 => some ([0], [])
  | 1 => some ([0, 2], [])
  | 2 => some ([0, 2, 3], [])
  | 3 => some ([2, 3, 7, 8, 9], [])
  | 4 => some ([2, 3, 7, 8, 9], [])
  | 5 => some ([2, 3, 5, 7, 8, 9], [])
  | 6 => some ([2, 3, 7, 8, 9], [])
  | 7 => some ([2, 3], [])
  | _ => none
def f15_C (R_f13 : f13_R) (R_f14 : f14_R) (R_f16 : f16_R) : Fns := (orC 13 (f13_cOf R_f13) (orC 14 (f14_cOf R_f14) (orC 16 (f16_cOf R_f16) noC)))
theorem f15_Cok (R_f13 : f13_R) (R_f14 : f14_R) (R_f16 : f16_R) (hR_f13 : AnsOk Tryd.prog 13 (f13_cOf R_f13)) (hR_f14 : AnsOk Tryd.prog 14 (f14_cOf R_f14)) (hR_f16 : AnsOk Tryd.prog 16 (f16_cOf R_f16)) : CsOk Tryd.prog (f15_C R_f13 R_f14 R_f16) := (orC_ok hR_f13 (orC_ok hR_f14 (orC_ok hR_f16 noC_ok)))
def f15_cx (R_f13 : f13_R) (R_f14 : f14_R) (R_f16 : f16_R) (hR_f13 : AnsOk Tryd.prog 13 (f13_cOf R_f13)) (hR_f14 : AnsOk Tryd.prog 14 (f14_cOf R_f14)) (hR_f16 : AnsOk Tryd.prog 16 (f16_cOf R_f16)) : Cx := mkCx (tabOf rows) (f15_C R_f13 R_f14 R_f16) md (cmpIn cmps) f15_plan (f15_Cok R_f13 R_f14 R_f16 hR_f13 hR_f14 hR_f16)
def f15_S1 (v : (List CV) × Int × Int × (List CV)) : St := ⟨[.undef, .undef, (.ptr [2] 1 0 0), (.ptr [6] 1 0 0), .undef, .undef, .undef, (.sl false none v.1), (.v (CV.int .i64 v.2.1)), (.v (CV.int .i64 v.2.2.1)), .undef, .undef, .undef, .undef, .undef, .undef, .undef, .undef, .undef], [([2], (.row false none (List.replicate 32 (CV.int .u8 0)))), ([6], (.row false none v.2.2.2))]⟩
def f15_T1 {X : Type} (R_f13 : f13_R) (R_f14 : f14_R) (R_f16 : f16_R) (k : Nat) (K : (List CV) → Option X)   (rec1 : (List CV) × Int × Int × (List CV) → Option X) (v5_1 : (List CV) × Int × Int × (List CV)) : Option X :=
(bif (decide (v5_1.2.2.1 < v5_1.2.1)) then
grd (decide (0 ≤ v5_1.2.2.1)) <|
Option.bind (v5_1.1)[(Int.toNat v5_1.2.2.1)]? fun e9 =>
grd (CV.isL none e9) <|
R_f14 _ (fun u10 =>
rec1 (v5_1.1, v5_1.2.1, (IntKind.wrap .i64 (v5_1.2.2.1 + 1)), u10)) ((CV.toL e9)) (v5_1.2.2.2)
else
R_f16 _ (fun u11 =>
grd (Nat.beq (List.length u11.1) 32) <|
grd (decide (32 ≤ 32)) <|
grd (decide (32 ≤ (List.length ((List.take 0 (List.replicate 32 (CV.int .u8 0))) ++ u11.1 ++ (List.drop 32 (List.replicate 32 (CV.int .u8 0))))))) <|
K ((List.take 32 (List.drop 0 ((List.take 0 (List.replicate 32 (CV.int .u8 0))) ++ u11.1 ++ (List.drop 32 (List.replicate 32 (CV.int .u8 0)))))))) (v5_1.2.2.2))
def f15_L1 {X : Type} (R_f13 : f13_R) (R_f14 : f14_R) (R_f16 : f16_R) (k : Nat) (K : (List CV) → Option X)  (rec1 : (List CV) × Int × Int × (List CV) → Option X) (v : (List CV) × Int × Int × (List CV)) : Option X := f15_T1 R_f13 R_f14 R_f16 k K   rec1 v
set_option maxRecDepth 100000 in
theorem f15_L1_ev {X : Type} (R_f13 : f13_R) (R_f14 : f14_R) (R_f16 : f16_R) (hR_f13 : AnsOk Tryd.prog 13 (f13_cOf R_f13)) (hR_f14 : AnsOk Tryd.prog 14 (f14_cOf R_f14)) (hR_f16 : AnsOk Tryd.prog 16 (f16_cOf R_f16)) (k : Nat) (K : Out → Option X)  (r1 : St → Option X) (v : (List CV) × Int × Int × (List CV)) : loopB (f15_cx R_f13 R_f14 R_f16 hR_f13 hR_f14 hR_f16) k [.r, .r, .l, .r, .b] (Tryd.f15.body.getD .skip) (retK (f15_cx R_f13 R_f14 R_f16 hR_f13 hR_f14 hR_f16) [] Tryd.f15.results.toList K) [] r1 (f15_S1 v) = f15_T1 R_f13 R_f14 R_f16 k (fun u => K (f15_out u))   (fun v => r1 (f15_S1 v)) v := by kernel_rfl
theorem f15_L1_it {X : Type} (R_f13 : f13_R) (R_f14 : f14_R) (R_f16 : f16_R) (hR_f13 : AnsOk Tryd.prog 13 (f13_cOf R_f13)) (hR_f14 : AnsOk Tryd.prog 14 (f14_cOf R_f14)) (hR_f16 : AnsOk Tryd.prog 16 (f16_cOf R_f16)) (k : Nat) (K : Out → Option X)  : (fun v => iter (loopB (f15_cx R_f13 R_f14 R_f16 hR_f13 hR_f14 hR_f16) k [.r, .r, .l, .r, .b] (Tryd.f15.body.getD .skip) (retK (f15_cx R_f13 R_f14 R_f16 hR_f13 hR_f14 hR_f16) [] Tryd.f15.results.toList K) []) k (f15_S1 v)) = iterV (f15_L1 R_f13 R_f14 R_f16 k (fun u => K (f15_out u)) ) k :=
  iter_map (fun r1 v => (f15_L1_ev R_f13 R_f14 R_f16 hR_f13 hR_f14 hR_f16 k K  r1 v).trans rfl) k
def f15_T {X : Type} (R_f13 : f13_R) (R_f14 : f14_R) (R_f16 : f16_R) (k : Nat) (K : (List CV) → Option X) (loop1 : (List CV) × Int × Int × (List CV) → Option X) (x0 : List CV) : Option X :=
R_f13 _ (fun u1 =>
loop1 (x0, (Nat.cast ((List.length x0)) : Int), 0, u1)) 
/-- "outpost/sha.Sum" -/
def f15_A (R_f13 : f13_R) (R_f14 : f14_R) (R_f16 : f16_R) (k : Nat) : f15_R := fun X K x0 => f15_T R_f13 R_f14 R_f16 k K (iterV (f15_L1 R_f13 R_f14 R_f16 k K) k) x0
set_option maxRecDepth 100000 in
theorem f15_ev' {X : Type} (R_f13 : f13_R) (R_f14 : f14_R) (R_f16 : f16_R) (hR_f13 : AnsOk Tryd.prog 13 (f13_cOf R_f13)) (hR_f14 : AnsOk Tryd.prog 14 (f14_cOf R_f14)) (hR_f16 : AnsOk Tryd.prog 16 (f16_cOf R_f16)) (k : Nat) (K : Out → Option X) (x0 : List CV) : evFnK (f15_cx R_f13 R_f14 R_f16 hR_f13 hR_f14 hR_f16) [] k Tryd.f15.ntmps Tryd.f15.results.toList (Tryd.f15.body.getD .skip) [(.sl false none x0)] [] K = f15_T R_f13 R_f14 R_f16 k (fun u => K (f15_out u)) (fun v => iter (loopB (f15_cx R_f13 R_f14 R_f16 hR_f13 hR_f14 hR_f16) k [.r, .r, .l, .r, .b] (Tryd.f15.body.getD .skip) (retK (f15_cx R_f13 R_f14 R_f16 hR_f13 hR_f14 hR_f16) [] Tryd.f15.results.toList K) []) k (f15_S1 v)) x0 := by kernel_rfl
theorem f15_ev {X : Type} (R_f13 : f13_R) (R_f14 : f14_R) (R_f16 : f16_R) (hR_f13 : AnsOk Tryd.prog 13 (f13_cOf R_f13)) (hR_f14 : AnsOk Tryd.prog 14 (f14_cOf R_f14)) (hR_f16 : AnsOk Tryd.prog 16 (f16_cOf R_f16)) (k : Nat) (K : Out → Option X) (x0 : List CV) : evFnK (f15_cx R_f13 R_f14 R_f16 hR_f13 hR_f14 hR_f16) [] k Tryd.f15.ntmps Tryd.f15.results.toList (Tryd.f15.body.getD .skip) [(.sl false none x0)] [] K = f15_A R_f13 R_f14 R_f16 k X (fun u => K (f15_out u)) x0 := (f15_ev' R_f13 R_f14 R_f16 hR_f13 hR_f14 hR_f16 k K x0).trans (by rw [f15_L1_it R_f13 R_f14 R_f16 hR_f13 hR_f14 hR_f16 k K]; rfl)
theorem f15_okA (R_f13 : f13_R) (R_f14 : f14_R) (R_f16 : f16_R) (hR_f13 : AnsOk Tryd.prog 13 (f13_cOf R_f13)) (hR_f14 : AnsOk Tryd.prog 14 (f14_cOf R_f14)) (hR_f16 : AnsOk Tryd.prog 16 (f16_cOf R_f16)) (k : Nat) : AnsOk Tryd.prog 15 (f15_cOf (f15_A R_f13 R_f14 R_f16 k)) := by
  intro X xs ns K x h
  unfold f15_cOf at h ⊢
  split at h
  · exact ans_main S (f15_Cok R_f13 R_f14 R_f16 hR_f13 hR_f14 hR_f16) Tryd.func15 (ent_of Tryd.func15 (by kernel_rfl) rfl) rfl (fun X K => f15_ev R_f13 R_f14 R_f16 hR_f13 hR_f14 hR_f16 k K _) h
  · cases h
/-- "outpost/sha.Sum" -/
def f15 {X : Type} (k : Nat) (K : (List CV) → Option X) (x0 : List CV) : Option X := f15_A (fun X => @f13 X k) (fun X => @f14 X k) (fun X => @f16 X k) k X K x0
theorem f15_ok (k : Nat) : AnsOk Tryd.prog 15 (f15_cOf (fun X => @f15 X k)) := f15_okA (fun X => @f13 X k) (fun X => @f14 X k) (fun X => @f16 X k) (f13_ok k) (f14_ok k) (f16_ok k) k
abbrev f17_R : Type 1 := (X : Type) → (Int × (List CV) → Option X) → (List CV) → Option X
def f17_out (u : Int × (List CV)) : Out := ⟨(.v (CV.int .i64 u.1)), [([1000], (.row false none u.2))]⟩
def f17_cOf (R : f17_R) : FnC := fun X xs ns K => match xs, ns with
  | [(.ptr [1000] 1 0 0)], [([1000], (.row false none x0))] => R X (fun u => K (f17_out u)) x0
  | _, _ => none
def f17_plan : Nat → Option (List Nat × List Wk)
  | 0 => some ([0], [])
  | 1 => some ([0], [])
  | _ => none
def f17_C : Fns := noC
theorem f17_Cok : CsOk Tryd.prog (f17_C) := noC_ok
def f17_cx : Cx := mkCx (tabOf rows) (f17_C) md (cmpIn cmps) f17_plan (f17_Cok)
def f17_T {X : Type} (k : Nat) (K : Int × (List CV) → Option X)  (x0 : List CV) : Option X :=
Option.bind (x0)[72]? fun e1 =>
grd (CV.isI .i64 e1) <|
K ((CV.toI e1), x0)
/-- "(*outpost/sha.Hash).Len" -/
def f17_A (k : Nat) : f17_R := fun X K x0 => f17_T k K  x0
set_option maxRecDepth 100000 in
theorem f17_ev' {X : Type} (k : Nat) (K : Out → Option X) (x0 : List CV) : evFnK (f17_cx) [] k Tryd.f17.ntmps Tryd.f17.results.toList (Tryd.f17.body.getD .skip) [(.ptr [1000] 1 0 0)] [([1000], (.row false none x0))] K = f17_T k (fun u => K (f17_out u)) x0 := by kernel_rfl
theorem f17_ev {X : Type} (k : Nat) (K : Out → Option X) (x0 : List CV) : evFnK (f17_cx) [] k Tryd.f17.ntmps Tryd.f17.results.toList (Tryd.f17.body.getD .skip) [(.ptr [1000] 1 0 0)] [([1000], (.row false none x0))] K = f17_A k X (fun u => K (f17_out u)) x0 := (f17_ev' k K x0).trans rfl
theorem f17_okA (k : Nat) : AnsOk Tryd.prog 17 (f17_cOf (f17_A k)) := by
  intro X xs ns K x h
  unfold f17_cOf at h ⊢
  split at h
  · exact ans_main S (f17_Cok) Tryd.func17 (ent_of Tryd.func17 (by kernel_rfl) rfl) rfl (fun X K => f17_ev k K _) h
  · cases h
/-- "(*outpost/sha.Hash).Len" -/
def f17 {X : Type} (k : Nat) (K : Int × (List CV) → Option X) (x0 : List CV) : Option X := f17_A k X K x0
theorem f17_ok (k : Nat) : AnsOk Tryd.prog 17 (f17_cOf (fun X => @f17 X k)) := f17_okA k
abbrev f9_R : Type 1 := (X : Type) → (Bool → Option X) → Option X
def f9_out (u : Bool) : Out := ⟨(.v (CV.bool u)), []⟩
def f9_cOf (R : f9_R) : FnC := fun X xs ns K => match xs, ns with
  | [], [] => R X (fun u => K (f9_out u)) 
  | _, _ => none
def f9_plan : Nat → Option (List Nat × List Wk)
  | 0 => some ([], [])
  | 1 => some ([], [])
  | 2 => some ([1], [])
  | 3 => some ([1], [])
  | 4 => some ([1, 2], [])
  | 5 => some ([1, 2], [])
  | 6 => some ([1, 2, 3, 4], [])
  | 7 => some ([1, 2, 3, 4, 6], [])
  | _ => none
def f9_C (R_f13 : f13_R) (R_f14 : f14_R) (R_f22 : f22_R) (R_f16 : f16_R) (R_f20 : f20_R) (R_f18 : f18_R) (R_f15 : f15_R) (R_f17 : f17_R) : Fns := (orC 13 (f13_cOf R_f13) (orC 14 (f14_cOf R_f14) (orC 15 (f15_cOf R_f15) (orC 16 (f16_cOf R_f16) (orC 17 (f17_cOf R_f17) (orC 18 (f18_cOf R_f18) (orC 20 (f20_cOf R_f20) (orC 22 (f22_cOf R_f22) noC))))))))
theorem f9_Cok (R_f13 : f13_R) (R_f14 : f14_R) (R_f22 : f22_R) (R_f16 : f16_R) (R_f20 : f20_R) (R_f18 : f18_R) (R_f15 : f15_R) (R_f17 : f17_R) (hR_f13 : AnsOk Tryd.prog 13 (f13_cOf R_f13)) (hR_f14 : AnsOk Tryd.prog 14 (f14_cOf R_f14)) (hR_f22 : AnsOk Tryd.prog 22 (f22_cOf R_f22)) (hR_f16 : AnsOk Tryd.prog 16 (f16_cOf R_f16)) (hR_f20 : AnsOk Tryd.prog 20 (f20_cOf R_f20)) (hR_f18 : AnsOk Tryd.prog 18 (f18_cOf R_f18)) (hR_f15 : AnsOk Tryd.prog 15 (f15_cOf R_f15)) (hR_f17 : AnsOk Tryd.prog 17 (f17_cOf R_f17)) : CsOk Tryd.prog (f9_C R_f13 R_f14 R_f22 R_f16 R_f20 R_f18 R_f15 R_f17) := (orC_ok hR_f13 (orC_ok hR_f14 (orC_ok hR_f15 (orC_ok hR_f16 (orC_ok hR_f17 (orC_ok hR_f18 (orC_ok hR_f20 (orC_ok hR_f22 noC_ok))))))))
def f9_cx (R_f13 : f13_R) (R_f14 : f14_R) (R_f22 : f22_R) (R_f16 : f16_R) (R_f20 : f20_R) (R_f18 : f18_R) (R_f15 : f15_R) (R_f17 : f17_R) (hR_f13 : AnsOk Tryd.prog 13 (f13_cOf R_f13)) (hR_f14 : AnsOk Tryd.prog 14 (f14_cOf R_f14)) (hR_f22 : AnsOk Tryd.prog 22 (f22_cOf R_f22)) (hR_f16 : AnsOk Tryd.prog 16 (f16_cOf R_f16)) (hR_f20 : AnsOk Tryd.prog 20 (f20_cOf R_f20)) (hR_f18 : AnsOk Tryd.prog 18 (f18_cOf R_f18)) (hR_f15 : AnsOk Tryd.prog 15 (f15_cOf R_f15)) (hR_f17 : AnsOk Tryd.prog 17 (f17_cOf R_f17)) : Cx := mkCx (tabOf rows) (f9_C R_f13 R_f14 R_f22 R_f16 R_f20 R_f18 R_f15 R_f17) md (cmpIn cmps) f9_plan (f9_Cok R_f13 R_f14 R_f22 R_f16 R_f20 R_f18 R_f15 R_f17 hR_f13 hR_f14 hR_f22 hR_f16 hR_f20 hR_f18 hR_f15 hR_f17)
def f9_T {X : Type} (R_f13 : f13_R) (R_f14 : f14_R) (R_f22 : f22_R) (R_f16 : f16_R) (R_f20 : f20_R) (R_f18 : f18_R) (R_f15 : f15_R) (R_f17 : f17_R) (k : Nat) (K : Bool → Option X)   : Option X :=
R_f13 _ (fun u1 =>
R_f14 _ (fun u2 =>
R_f22 _ (fun u3 =>
R_f14 _ (fun u4 =>
R_f16 _ (fun u5 =>
R_f20 _ (fun u6 =>
R_f18 _ (fun u7 =>
grd (Nat.beq (List.length u7.1) 32) <|
grd (decide (32 ≤ 32)) <|
R_f18 _ (fun u8 =>
grd (Nat.beq (List.length u8.1) 32) <|
grd (decide (32 ≤ 32)) <|
R_f15 _ (fun u9 =>
R_f20 _ (fun u10 =>
(bif (u10.toList == (⟨#[101, 51, 98, 48, 99, 52, 52, 50, 57, 56, 102, 99, 49, 99, 49, 52, 57, 97, 102, 98, 102, 52, 99, 56, 57, 57, 54, 102, 98, 57, 50, 52, 50, 55, 97, 101, 52, 49, 101, 52, 54, 52, 57, 98, 57, 51, 52, 99, 97, 52, 57, 53, 57, 57, 49, 98, 55, 56, 53, 50, 98, 56, 53, 53]⟩ : ByteArray).toList) then
R_f15 _ (fun u11 =>
R_f20 _ (fun u12 =>
(bif (u12.toList == (⟨#[98, 97, 55, 56, 49, 54, 98, 102, 56, 102, 48, 49, 99, 102, 101, 97, 52, 49, 52, 49, 52, 48, 100, 101, 53, 100, 97, 101, 50, 50, 50, 51, 98, 48, 48, 51, 54, 49, 97, 51, 57, 54, 49, 55, 55, 97, 57, 99, 98, 52, 49, 48, 102, 102, 54, 49, 102, 50, 48, 48, 49, 53, 97, 100]⟩ : ByteArray).toList) then
R_f16 _ (fun u13 =>
R_f15 _ (fun u14 =>
grd (numsAre .u8 32 u13.1 && numsAre .u8 32 u14) <|
(bif (intsOf u13.1 == intsOf u14) then
R_f17 _ (fun u15 =>
(bif (u15.1 == 3) then
R_f17 _ (fun u16 =>
(bif (u16.1 == 2) then
(bif (u7.2 == 0) then
grd (decide (32 ≤ (List.length ((List.take 0 (List.replicate 32 (CV.int .u8 0))) ++ u7.1 ++ (List.drop 32 (List.replicate 32 (CV.int .u8 0))))))) <|
R_f16 _ (fun u17 =>
grd (numsAre .u8 32 (List.take 32 (List.drop 0 ((List.take 0 (List.replicate 32 (CV.int .u8 0))) ++ u7.1 ++ (List.drop 32 (List.replicate 32 (CV.int .u8 0)))))) && numsAre .u8 32 u17.1) <|
(bif (intsOf (List.take 32 (List.drop 0 ((List.take 0 (List.replicate 32 (CV.int .u8 0))) ++ u7.1 ++ (List.drop 32 (List.replicate 32 (CV.int .u8 0)))))) == intsOf u17.1) then
K ((u8.2 == 20))
else
K (false))) (u15.2)
else
K (false))
else
K (false))) (u3.2)
else
K (false))) (u13.2)
else
K (false))) ((List.take 1 (List.drop 0 [(CV.slc none (List.take 3 (List.drop 0 [(CV.int .u8 97), (CV.int .u8 98), (CV.int .u8 99)])))])))) (u5.2)
else
K (false))) (u11)) ((List.take 2 (List.drop 0 [(CV.slc none (List.take 1 (List.drop 0 [(CV.int .u8 97)]))), (CV.slc none (List.take 2 (List.drop 0 [(CV.int .u8 98), (CV.int .u8 99)])))])))
else
K (false))) (u9)) ([])) (⟨#[120]⟩)) (u6)) (u5.1)) (u4)) ((List.take 1 (List.drop 0 [(CV.int .u8 99)]))) (u3.1)) (u2)) ((List.take 2 (List.drop 0 [(CV.int .u8 97), (CV.int .u8 98)]))) (u1)) 
/-- "outpost/outpostlaw01.alive" -/
def f9_A (R_f13 : f13_R) (R_f14 : f14_R) (R_f22 : f22_R) (R_f16 : f16_R) (R_f20 : f20_R) (R_f18 : f18_R) (R_f15 : f15_R) (R_f17 : f17_R) (k : Nat) : f9_R := fun X K  => f9_T R_f13 R_f14 R_f22 R_f16 R_f20 R_f18 R_f15 R_f17 k K  
set_option maxRecDepth 100000 in
theorem f9_ev' {X : Type} (R_f13 : f13_R) (R_f14 : f14_R) (R_f22 : f22_R) (R_f16 : f16_R) (R_f20 : f20_R) (R_f18 : f18_R) (R_f15 : f15_R) (R_f17 : f17_R) (hR_f13 : AnsOk Tryd.prog 13 (f13_cOf R_f13)) (hR_f14 : AnsOk Tryd.prog 14 (f14_cOf R_f14)) (hR_f22 : AnsOk Tryd.prog 22 (f22_cOf R_f22)) (hR_f16 : AnsOk Tryd.prog 16 (f16_cOf R_f16)) (hR_f20 : AnsOk Tryd.prog 20 (f20_cOf R_f20)) (hR_f18 : AnsOk Tryd.prog 18 (f18_cOf R_f18)) (hR_f15 : AnsOk Tryd.prog 15 (f15_cOf R_f15)) (hR_f17 : AnsOk Tryd.prog 17 (f17_cOf R_f17)) (k : Nat) (K : Out → Option X)  : evFnK (f9_cx R_f13 R_f14 R_f22 R_f16 R_f20 R_f18 R_f15 R_f17 hR_f13 hR_f14 hR_f22 hR_f16 hR_f20 hR_f18 hR_f15 hR_f17) [] k Tryd.f9.ntmps Tryd.f9.results.toList (Tryd.f9.body.getD .skip) [] [] K = f9_T R_f13 R_f14 R_f22 R_f16 R_f20 R_f18 R_f15 R_f17 k (fun u => K (f9_out u))  := by kernel_rfl
theorem f9_ev {X : Type} (R_f13 : f13_R) (R_f14 : f14_R) (R_f22 : f22_R) (R_f16 : f16_R) (R_f20 : f20_R) (R_f18 : f18_R) (R_f15 : f15_R) (R_f17 : f17_R) (hR_f13 : AnsOk Tryd.prog 13 (f13_cOf R_f13)) (hR_f14 : AnsOk Tryd.prog 14 (f14_cOf R_f14)) (hR_f22 : AnsOk Tryd.prog 22 (f22_cOf R_f22)) (hR_f16 : AnsOk Tryd.prog 16 (f16_cOf R_f16)) (hR_f20 : AnsOk Tryd.prog 20 (f20_cOf R_f20)) (hR_f18 : AnsOk Tryd.prog 18 (f18_cOf R_f18)) (hR_f15 : AnsOk Tryd.prog 15 (f15_cOf R_f15)) (hR_f17 : AnsOk Tryd.prog 17 (f17_cOf R_f17)) (k : Nat) (K : Out → Option X)  : evFnK (f9_cx R_f13 R_f14 R_f22 R_f16 R_f20 R_f18 R_f15 R_f17 hR_f13 hR_f14 hR_f22 hR_f16 hR_f20 hR_f18 hR_f15 hR_f17) [] k Tryd.f9.ntmps Tryd.f9.results.toList (Tryd.f9.body.getD .skip) [] [] K = f9_A R_f13 R_f14 R_f22 R_f16 R_f20 R_f18 R_f15 R_f17 k X (fun u => K (f9_out u))  := (f9_ev' R_f13 R_f14 R_f22 R_f16 R_f20 R_f18 R_f15 R_f17 hR_f13 hR_f14 hR_f22 hR_f16 hR_f20 hR_f18 hR_f15 hR_f17 k K ).trans rfl
theorem f9_okA (R_f13 : f13_R) (R_f14 : f14_R) (R_f22 : f22_R) (R_f16 : f16_R) (R_f20 : f20_R) (R_f18 : f18_R) (R_f15 : f15_R) (R_f17 : f17_R) (hR_f13 : AnsOk Tryd.prog 13 (f13_cOf R_f13)) (hR_f14 : AnsOk Tryd.prog 14 (f14_cOf R_f14)) (hR_f22 : AnsOk Tryd.prog 22 (f22_cOf R_f22)) (hR_f16 : AnsOk Tryd.prog 16 (f16_cOf R_f16)) (hR_f20 : AnsOk Tryd.prog 20 (f20_cOf R_f20)) (hR_f18 : AnsOk Tryd.prog 18 (f18_cOf R_f18)) (hR_f15 : AnsOk Tryd.prog 15 (f15_cOf R_f15)) (hR_f17 : AnsOk Tryd.prog 17 (f17_cOf R_f17)) (k : Nat) : AnsOk Tryd.prog 9 (f9_cOf (f9_A R_f13 R_f14 R_f22 R_f16 R_f20 R_f18 R_f15 R_f17 k)) := by
  intro X xs ns K x h
  unfold f9_cOf at h ⊢
  split at h
  · exact ans_main S (f9_Cok R_f13 R_f14 R_f22 R_f16 R_f20 R_f18 R_f15 R_f17 hR_f13 hR_f14 hR_f22 hR_f16 hR_f20 hR_f18 hR_f15 hR_f17) Tryd.func9 (ent_of Tryd.func9 (by kernel_rfl) rfl) rfl (fun X K => f9_ev R_f13 R_f14 R_f22 R_f16 R_f20 R_f18 R_f15 R_f17 hR_f13 hR_f14 hR_f22 hR_f16 hR_f20 hR_f18 hR_f15 hR_f17 k K ) h
  · cases h
/-- "outpost/outpostlaw01.alive" -/
def f9 {X : Type} (k : Nat) (K : Bool → Option X)  : Option X := f9_A (fun X => @f13 X k) (fun X => @f14 X k) (fun X => @f22 X k) (fun X => @f16 X k) (fun X => @f20 X k) (fun X => @f18 X k) (fun X => @f15 X k) (fun X => @f17 X k) k X K 
theorem f9_ok (k : Nat) : AnsOk Tryd.prog 9 (f9_cOf (fun X => @f9 X k)) := f9_okA (fun X => @f13 X k) (fun X => @f14 X k) (fun X => @f22 X k) (fun X => @f16 X k) (fun X => @f20 X k) (fun X => @f18 X k) (fun X => @f15 X k) (fun X => @f17 X k) (f13_ok k) (f14_ok k) (f22_ok k) (f16_ok k) (f20_ok k) (f18_ok k) (f15_ok k) (f17_ok k) k
abbrev f10_R : Type 1 := (X : Type) → (Bool → Option X) → (List CV) → Int → Int → Option X
def f10_out (u : Bool) : Out := ⟨(.v (CV.bool u)), []⟩
def f10_cOf (R : f10_R) : FnC := fun X xs ns K => match xs, ns with
  | [(.sl false none x0), (.v (CV.int .i64 x1)), (.v (CV.int .i64 x2))], [] => R X (fun u => K (f10_out u)) x0 x1 x2
  | _, _ => none
def f10_plan : Nat → Option (List Nat × List Wk)
  | 0 => some ([0, 1, 2], [])
  | 1 => some ([0, 1, 2], [])
  | 2 => some ([], [])
  | 3 => some ([0, 2], [])
  | 4 => some ([0, 2, 7], [])
  | 5 => some ([0, 2, 7, 8], [])
  | 6 => some ([0, 2, 7, 8], [])
  | 7 => some ([0, 2, 7, 8], [])
  | 8 => some ([], [])
  | 9 => some ([0, 2, 7, 8], [])
  | 10 => some ([], [])
  | _ => none
def f10_C : Fns := noC
theorem f10_Cok : CsOk Tryd.prog (f10_C) := noC_ok
def f10_cx : Cx := mkCx (tabOf rows) (f10_C) md (cmpIn cmps) f10_plan (f10_Cok)
def f10_S1 (v : (List CV) × Int × Int × Int) : St := ⟨[(.sl false none v.1), .undef, (.v (CV.int .i64 v.2.1)), .undef, .undef, .undef, .undef, (.v (CV.int .i64 v.2.2.1)), (.v (CV.int .i64 v.2.2.2)), .undef, .undef, .undef, .undef, .undef, .undef, .undef, .undef, .undef, .undef, .undef, .undef, .undef, .undef, .undef, .undef, .undef, .undef, .undef, .undef, .undef, .undef, .undef, .undef, .undef, .undef], []⟩
def f10_T1 {X : Type} (k : Nat) (K : Bool → Option X)   (rec1 : (List CV) × Int × Int × Int → Option X) (v6_0 : (List CV) × Int × Int × Int) : Option X :=
(bif (decide (v6_0.2.2.2 < (Nat.cast ((List.length v6_0.1)) : Int))) then
grd (decide (0 ≤ v6_0.2.2.2)) <|
Option.bind (v6_0.1)[(Int.toNat v6_0.2.2.2)]? fun e12 =>
grd (CV.isL none e12) <|
(bif (decide ((Nat.cast ((List.length (CV.toL e12))) : Int) > (IntKind.wrap .i64 (v6_0.2.1 - v6_0.2.2.1)))) then
K (false)
else
grd (decide (0 ≤ v6_0.2.2.2)) <|
Option.bind (v6_0.1)[(Int.toNat v6_0.2.2.2)]? fun e13 =>
grd (CV.isL none e13) <|
rec1 (v6_0.1, v6_0.2.1, (IntKind.wrap .i64 (v6_0.2.2.1 + (Nat.cast ((List.length (CV.toL e13))) : Int))), (IntKind.wrap .i64 (v6_0.2.2.2 + 1))))
else
K (true))
def f10_L1 {X : Type} (k : Nat) (K : Bool → Option X)  (rec1 : (List CV) × Int × Int × Int → Option X) (v : (List CV) × Int × Int × Int) : Option X := f10_T1 k K   rec1 v
set_option maxRecDepth 100000 in
theorem f10_L1_ev {X : Type} (k : Nat) (K : Out → Option X)  (r1 : St → Option X) (v : (List CV) × Int × Int × Int) : loopB (f10_cx) k [.r, .r, .r, .l, .r, .b] (Tryd.f10.body.getD .skip) (retK (f10_cx) [] Tryd.f10.results.toList K) [] r1 (f10_S1 v) = f10_T1 k (fun u => K (f10_out u))   (fun v => r1 (f10_S1 v)) v := by kernel_rfl
theorem f10_L1_it {X : Type} (k : Nat) (K : Out → Option X)  : (fun v => iter (loopB (f10_cx) k [.r, .r, .r, .l, .r, .b] (Tryd.f10.body.getD .skip) (retK (f10_cx) [] Tryd.f10.results.toList K) []) k (f10_S1 v)) = iterV (f10_L1 k (fun u => K (f10_out u)) ) k :=
  iter_map (fun r1 v => (f10_L1_ev k K  r1 v).trans rfl) k
def f10_T {X : Type} (k : Nat) (K : Bool → Option X) (loop1 : (List CV) × Int × Int × Int → Option X) (x0 : List CV) (x1 : Int) (x2 : Int) : Option X :=
(bif (decide ((Nat.cast ((List.length x0)) : Int) > x1)) then
K (false)
else
loop1 (x0, x2, 0, 0))
/-- "outpost/outpostref01.Few" -/
def f10_A (k : Nat) : f10_R := fun X K x0 x1 x2 => f10_T k K (iterV (f10_L1 k K) k) x0 x1 x2
set_option maxRecDepth 100000 in
theorem f10_ev' {X : Type} (k : Nat) (K : Out → Option X) (x0 : List CV) (x1 : Int) (x2 : Int) : evFnK (f10_cx) [] k Tryd.f10.ntmps Tryd.f10.results.toList (Tryd.f10.body.getD .skip) [(.sl false none x0), (.v (CV.int .i64 x1)), (.v (CV.int .i64 x2))] [] K = f10_T k (fun u => K (f10_out u)) (fun v => iter (loopB (f10_cx) k [.r, .r, .r, .l, .r, .b] (Tryd.f10.body.getD .skip) (retK (f10_cx) [] Tryd.f10.results.toList K) []) k (f10_S1 v)) x0 x1 x2 := by kernel_rfl
theorem f10_ev {X : Type} (k : Nat) (K : Out → Option X) (x0 : List CV) (x1 : Int) (x2 : Int) : evFnK (f10_cx) [] k Tryd.f10.ntmps Tryd.f10.results.toList (Tryd.f10.body.getD .skip) [(.sl false none x0), (.v (CV.int .i64 x1)), (.v (CV.int .i64 x2))] [] K = f10_A k X (fun u => K (f10_out u)) x0 x1 x2 := (f10_ev' k K x0 x1 x2).trans (by rw [f10_L1_it k K]; rfl)
theorem f10_okA (k : Nat) : AnsOk Tryd.prog 10 (f10_cOf (f10_A k)) := by
  intro X xs ns K x h
  unfold f10_cOf at h ⊢
  split at h
  · exact ans_main S (f10_Cok) Tryd.func10 (ent_of Tryd.func10 (by kernel_rfl) rfl) rfl (fun X K => f10_ev k K _ _ _) h
  · cases h
/-- "outpost/outpostref01.Few" -/
def f10 {X : Type} (k : Nat) (K : Bool → Option X) (x0 : List CV) (x1 : Int) (x2 : Int) : Option X := f10_A k X K x0 x1 x2
theorem f10_ok (k : Nat) : AnsOk Tryd.prog 10 (f10_cOf (fun X => @f10 X k)) := f10_okA k
abbrev f12_R : Type 1 := (X : Type) → (Nat × (List CV) → Option X) → (List CV) → Option X
def f12_out (u : Nat × (List CV)) : Out := ⟨(.osl [2000] none 0 u.1), [([2000], (.row false none u.2))]⟩
def f12_cOf (R : f12_R) : FnC := fun X xs ns K => match xs, ns with
  | [(.sl false none x0)], [] => R X (fun u => K (f12_out u)) x0
  | _, _ => none
def f12_plan : Nat → Option (List Nat × List Wk)
  | 0 => some ([0], [])
  | 1 => some ([0], [])
  | 2 => some ([0, 3], [])
  | 3 => some ([0, 3, 4], [])
  | 4 => some ([0, 3, 4], [])
  | 5 => some ([0, 3, 4], [])
  | 6 => some ([0, 3, 4, 5], [])
  | 7 => some ([0, 3, 4, 5], [])
  | 8 => some ([0, 3, 4, 5], [])
  | 9 => some ([3], [])
  | _ => none
def f12_C : Fns := noC
theorem f12_Cok : CsOk Tryd.prog (f12_C) := noC_ok
def f12_cx : Cx := mkCx (tabOf rows) (f12_C) md (cmpIn cmps) f12_plan (f12_Cok)
def f12_S1 (v : (List CV) × Nat × Int × (List CV)) : St := ⟨[(.sl false none v.1), .undef, .undef, (.osl [3] none 0 v.2.1), (.v (CV.int .i64 v.2.2.1)), .undef, .undef, .undef, .undef, .undef, .undef, .undef, .undef, .undef, .undef, .undef, .undef, .undef, .undef, .undef, .undef, .undef, .undef, .undef, .undef, .undef, .undef, .undef, .undef, .undef, .undef, .undef, .undef], [([3], (.row false none v.2.2.2))]⟩
def f12_S2 (v : (List CV) × Nat × Int × Int × (List CV)) : St := ⟨[(.sl false none v.1), .undef, .undef, (.osl [3] none 0 v.2.1), (.v (CV.int .i64 v.2.2.1)), (.v (CV.int .i64 v.2.2.2.1)), .undef, .undef, .undef, .undef, .undef, .undef, .undef, .undef, .undef, .undef, .undef, .undef, .undef, .undef, .undef, .undef, .undef, .undef, .undef, .undef, .undef, .undef, .undef, .undef, .undef, .undef, .undef], [([3], (.row false none v.2.2.2.2))]⟩
def f12_T2 {X : Type} (k : Nat) (K : Nat × (List CV) → Option X) (rec1 : (List CV) × Nat × Int × (List CV) → Option X)  (rec2 : (List CV) × Nat × Int × Int × (List CV) → Option X) (v11_14 : (List CV) × Nat × Int × Int × (List CV)) : Option X :=
grd (decide (0 ≤ v11_14.2.2.1)) <|
Option.bind (v11_14.1)[(Int.toNat v11_14.2.2.1)]? fun e23 =>
grd (CV.isL none e23) <|
(bif (decide (v11_14.2.2.2.1 < (Nat.cast ((List.length (CV.toL e23))) : Int))) then
grd (decide (0 ≤ v11_14.2.2.1)) <|
Option.bind (v11_14.1)[(Int.toNat v11_14.2.2.1)]? fun e26 =>
grd (CV.isL none e26) <|
grd (decide (0 ≤ v11_14.2.2.2.1)) <|
Option.bind ((CV.toL e26))[(Int.toNat v11_14.2.2.2.1)]? fun e27 =>
grd (CV.isI .u8 e27) <|
grd (decide ((v11_14.2.1 + (List.length (List.take 1 (List.drop 0 [(CV.int .u8 (CV.toI e27))])))) * 1 ≤ 140737488355328)) <|
rec2 (v11_14.1, (v11_14.2.1 + (List.length (List.take 1 (List.drop 0 [(CV.int .u8 (CV.toI e27))])))), v11_14.2.2.1, (IntKind.wrap .i64 (v11_14.2.2.2.1 + 1)), ((List.take v11_14.2.1 v11_14.2.2.2.2) ++ (List.take 1 (List.drop 0 [(CV.int .u8 (CV.toI e27))]))))
else
rec1 (v11_14.1, v11_14.2.1, (IntKind.wrap .i64 (v11_14.2.2.1 + 1)), v11_14.2.2.2.2))
def f12_L2 {X : Type} (k : Nat) (K : Nat × (List CV) → Option X) (rec1 : (List CV) × Nat × Int × (List CV) → Option X) (rec2 : (List CV) × Nat × Int × Int × (List CV) → Option X) (v : (List CV) × Nat × Int × Int × (List CV)) : Option X := f12_T2 k K rec1  rec2 v
set_option maxRecDepth 100000 in
theorem f12_L2_ev {X : Type} (k : Nat) (K : Out → Option X) (r1 : St → Option X) (r2 : St → Option X) (v : (List CV) × Nat × Int × Int × (List CV)) : loopB (f12_cx) k [.r, .r, .l, .r, .b, .o, .r, .l, .b, .r, .b] (Tryd.f12.body.getD .skip) (retK (f12_cx) [] Tryd.f12.results.toList K) [r1] r2 (f12_S2 v) = f12_T2 k (fun u => K (f12_out u)) (fun v => r1 (f12_S1 v))  (fun v => r2 (f12_S2 v)) v := by kernel_rfl
theorem f12_L2_it {X : Type} (k : Nat) (K : Out → Option X) (r1 : St → Option X) : (fun v => iter (loopB (f12_cx) k [.r, .r, .l, .r, .b, .o, .r, .l, .b, .r, .b] (Tryd.f12.body.getD .skip) (retK (f12_cx) [] Tryd.f12.results.toList K) [r1]) k (f12_S2 v)) = iterV (f12_L2 k (fun u => K (f12_out u)) (fun v => r1 (f12_S1 v))) k :=
  iter_map (fun r2 v => (f12_L2_ev k K r1 r2 v).trans rfl) k
def f12_T1 {X : Type} (k : Nat) (K : Nat × (List CV) → Option X)  (loop2 : (List CV) × Nat × Int × Int × (List CV) → Option X) (rec1 : (List CV) × Nat × Int × (List CV) → Option X) (v5_0 : (List CV) × Nat × Int × (List CV)) : Option X :=
(bif (decide (v5_0.2.2.1 < (Nat.cast ((List.length v5_0.1)) : Int))) then
loop2 (v5_0.1, v5_0.2.1, v5_0.2.2.1, 0, v5_0.2.2.2)
else
K (v5_0.2.1, (List.take (0 + v5_0.2.1) v5_0.2.2.2)))
def f12_L1 {X : Type} (k : Nat) (K : Nat × (List CV) → Option X)  (rec1 : (List CV) × Nat × Int × (List CV) → Option X) (v : (List CV) × Nat × Int × (List CV)) : Option X := f12_T1 k K  (iterV (f12_L2 k K rec1) k) rec1 v
set_option maxRecDepth 100000 in
theorem f12_L1_ev {X : Type} (k : Nat) (K : Out → Option X)  (r1 : St → Option X) (v : (List CV) × Nat × Int × (List CV)) : loopB (f12_cx) k [.r, .r, .l, .r, .b] (Tryd.f12.body.getD .skip) (retK (f12_cx) [] Tryd.f12.results.toList K) [] r1 (f12_S1 v) = f12_T1 k (fun u => K (f12_out u))  (fun v => iter (loopB (f12_cx) k [.r, .r, .l, .r, .b, .o, .r, .l, .b, .r, .b] (Tryd.f12.body.getD .skip) (retK (f12_cx) [] Tryd.f12.results.toList K) [r1]) k (f12_S2 v)) (fun v => r1 (f12_S1 v)) v := by kernel_rfl
theorem f12_L1_it {X : Type} (k : Nat) (K : Out → Option X)  : (fun v => iter (loopB (f12_cx) k [.r, .r, .l, .r, .b] (Tryd.f12.body.getD .skip) (retK (f12_cx) [] Tryd.f12.results.toList K) []) k (f12_S1 v)) = iterV (f12_L1 k (fun u => K (f12_out u)) ) k :=
  iter_map (fun r1 v => (f12_L1_ev k K  r1 v).trans (by rw [f12_L2_it k K r1]; rfl)) k
def f12_T {X : Type} (k : Nat) (K : Nat × (List CV) → Option X) (loop1 : (List CV) × Nat × Int × (List CV) → Option X) (x0 : List CV) : Option X :=
loop1 (x0, 0, 0, [])
/-- "outpost/outpostref01.Join" -/
def f12_A (k : Nat) : f12_R := fun X K x0 => f12_T k K (iterV (f12_L1 k K) k) x0
set_option maxRecDepth 100000 in
theorem f12_ev' {X : Type} (k : Nat) (K : Out → Option X) (x0 : List CV) : evFnK (f12_cx) [] k Tryd.f12.ntmps Tryd.f12.results.toList (Tryd.f12.body.getD .skip) [(.sl false none x0)] [] K = f12_T k (fun u => K (f12_out u)) (fun v => iter (loopB (f12_cx) k [.r, .r, .l, .r, .b] (Tryd.f12.body.getD .skip) (retK (f12_cx) [] Tryd.f12.results.toList K) []) k (f12_S1 v)) x0 := by kernel_rfl
theorem f12_ev {X : Type} (k : Nat) (K : Out → Option X) (x0 : List CV) : evFnK (f12_cx) [] k Tryd.f12.ntmps Tryd.f12.results.toList (Tryd.f12.body.getD .skip) [(.sl false none x0)] [] K = f12_A k X (fun u => K (f12_out u)) x0 := (f12_ev' k K x0).trans (by rw [f12_L1_it k K]; rfl)
theorem f12_okA (k : Nat) : AnsOk Tryd.prog 12 (f12_cOf (f12_A k)) := by
  intro X xs ns K x h
  unfold f12_cOf at h ⊢
  split at h
  · exact ans_main S (f12_Cok) Tryd.func12 (ent_of Tryd.func12 (by kernel_rfl) rfl) rfl (fun X K => f12_ev k K _) h
  · cases h
/-- "outpost/outpostref01.Join" -/
def f12 {X : Type} (k : Nat) (K : Nat × (List CV) → Option X) (x0 : List CV) : Option X := f12_A k X K x0
theorem f12_ok (k : Nat) : AnsOk Tryd.prog 12 (f12_cOf (fun X => @f12 X k)) := f12_okA k
abbrev f24_R : Type 1 := (X : Type) → (Int → Option X) → Int → Int → Option X
def f24_out (u : Int) : Out := ⟨(.v (CV.int .u32 u)), []⟩
def f24_cOf (R : f24_R) : FnC := fun X xs ns K => match xs, ns with
  | [(.v (CV.int .u32 x0)), (.v (CV.int .i64 x1))], [] => R X (fun u => K (f24_out u)) x0 x1
  | _, _ => none
def f24_plan : Nat → Option (List Nat × List Wk)
  | 0 => some ([0, 1], [])
  | 1 => some ([0, 1], [])
  | _ => none
def f24_C : Fns := noC
theorem f24_Cok : CsOk Tryd.prog (f24_C) := noC_ok
def f24_cx : Cx := mkCx (tabOf rows) (f24_C) md (cmpIn cmps) f24_plan (f24_Cok)
def f24_T {X : Type} (k : Nat) (K : Int → Option X)  (x0 : Int) (x1 : Int) : Option X :=
grd (decide (0 ≤ x1)) <|
grd (decide (0 ≤ (IntKind.wrap .i64 (32 - x1)))) <|
K ((bop .or .u32 (Int.fdiv x0 (2 ^ (min (Int.toNat x1) 32))) (IntKind.wrap .u32 (x0 * 2 ^ (min (Int.toNat (IntKind.wrap .i64 (32 - x1))) 32)))))
/-- "outpost/outpostref01.turn" -/
def f24_A (k : Nat) : f24_R := fun X K x0 x1 => f24_T k K  x0 x1
set_option maxRecDepth 100000 in
theorem f24_ev' {X : Type} (k : Nat) (K : Out → Option X) (x0 : Int) (x1 : Int) : evFnK (f24_cx) [] k Tryd.f24.ntmps Tryd.f24.results.toList (Tryd.f24.body.getD .skip) [(.v (CV.int .u32 x0)), (.v (CV.int .i64 x1))] [] K = f24_T k (fun u => K (f24_out u)) x0 x1 := by kernel_rfl
theorem f24_ev {X : Type} (k : Nat) (K : Out → Option X) (x0 : Int) (x1 : Int) : evFnK (f24_cx) [] k Tryd.f24.ntmps Tryd.f24.results.toList (Tryd.f24.body.getD .skip) [(.v (CV.int .u32 x0)), (.v (CV.int .i64 x1))] [] K = f24_A k X (fun u => K (f24_out u)) x0 x1 := (f24_ev' k K x0 x1).trans rfl
theorem f24_okA (k : Nat) : AnsOk Tryd.prog 24 (f24_cOf (f24_A k)) := by
  intro X xs ns K x h
  unfold f24_cOf at h ⊢
  split at h
  · exact ans_main S (f24_Cok) Tryd.func24 (ent_of Tryd.func24 (by kernel_rfl) rfl) rfl (fun X K => f24_ev k K _ _) h
  · cases h
/-- "outpost/outpostref01.turn" -/
def f24 {X : Type} (k : Nat) (K : Int → Option X) (x0 : Int) (x1 : Int) : Option X := f24_A k X K x0 x1
theorem f24_ok (k : Nat) : AnsOk Tryd.prog 24 (f24_cOf (fun X => @f24 X k)) := f24_okA k
abbrev f11_R : Type 1 := (X : Type) → ((List CV) → Option X) → (List CV) → Option X
def f11_out (u : (List CV)) : Out := ⟨(.v (CV.agg u)), []⟩
def f11_cOf (R : f11_R) : FnC := fun X xs ns K => match xs, ns with
  | [(.sl false none x0)], [] => R X (fun u => K (f11_out u)) x0
  | _, _ => none
def f11_plan : Nat → Option (List Nat × List Wk)
  | 0 => some ([0], [])
  | 1 => some ([0, 2], [])
  | 2 => some ([0, 2, 3], [])
  | 3 => some ([0, 2, 3, 4], [])
  | 4 => some ([0, 2, 3, 4], [])
  | 5 => some ([0, 2, 3, 4], [])
  | 6 => some ([0, 2, 3], [])
  | 7 => some ([0, 2, 3], [])
  | 8 => some ([0, 2, 3], [])
  | 9 => some ([0, 2, 3], [])
  | 10 => some ([2, 3, 5], [])
  | 11 => some ([2, 3, 5, 6], [])
  | 12 => some ([2, 3, 5, 6], [])
  | 13 => some ([2, 3, 5, 6], [])
  | 14 => some ([2, 3], [])
  | 15 => some ([2, 3, 7], [])
  | 16 => some ([2, 3, 7, 8], [])
  | 17 => some ([2, 3, 7, 8], [])
  | 18 => some ([2, 3, 7, 8], [])
  | 19 => some ([2, 3, 7, 8, 9], [])
  | 20 => some ([2, 3, 7, 8, 9, 10], [])
  | 21 => some ([2, 3, 7, 8, 9, 10], [])
  | 22 => some ([2, 3, 7, 8, 9, 10], [])
  | 23 => some ([2, 3, 7, 8, 9, 10], [])
  | 24 => some ([2, 3, 7, 8, 9, 10], [])
  | 25 => some ([2, 3, 7, 8, 9, 10, 11], [])
  | 26 => some ([2, 3, 7, 8, 9, 10, 11, 12], [])
  | 27 => some ([2, 3, 7, 8, 9], [])
  | 28 => some ([2, 3, 7, 8, 9, 13], [])
  | 29 => some ([2, 3, 7, 8, 9, 13, 14], [])
  | 30 => some ([2, 3, 7, 8, 9, 13, 14], [])
  | 31 => some ([2, 3, 7, 8, 9, 13, 14], [])
  | 32 => some ([2, 3, 7, 8, 9, 13, 14, 15], [])
  | 33 => some ([2, 3, 7, 8, 9, 13, 14, 15, 16], [])
  | 34 => some ([2, 3, 7, 8, 13], [])
  | 35 => some ([2, 3, 7, 8, 13, 17], [])
  | 36 => some ([2, 3, 7, 8, 13, 17], [])
  | 37 => some ([2, 3, 7, 8, 13, 17], [])
  | 38 => some ([2, 7], [])
  | 39 => some ([2, 7, 18], [])
  | 40 => some ([2, 7, 18, 19], [])
  | 41 => some ([2, 7, 18, 19], [])
  | 42 => some ([2, 7, 18, 19], [])
  | 43 => some ([2, 18], [])
  | _ => none
def f11_C (R_f24 : f24_R) : Fns := (orC 24 (f24_cOf R_f24) noC)
theorem f11_Cok (R_f24 : f24_R) (hR_f24 : AnsOk Tryd.prog 24 (f24_cOf R_f24)) : CsOk Tryd.prog (f11_C R_f24) := (orC_ok hR_f24 noC_ok)
def f11_cx (R_f24 : f24_R) (hR_f24 : AnsOk Tryd.prog 24 (f24_cOf R_f24)) : Cx := mkCx (tabOf rows) (f11_C R_f24) md (cmpIn cmps) f11_plan (f11_Cok R_f24 hR_f24)
def f11_S1 (v : (List CV) × Nat × Int × (List CV)) : St := ⟨[(.sl false none v.1), .undef, (.ptr [2] 1 0 0), (.osl [3] none 0 v.2.1), (.v (CV.int .i64 v.2.2.1)), .undef, .undef, .undef, .undef, .undef, .undef, .undef, .undef, .undef, .undef, .undef, .undef, .undef, .undef, .undef, .undef, .undef, .undef, .undef, .undef, .undef, .undef, .undef, .undef, .undef, .undef, .undef, .undef, .undef, .undef, .undef, .undef, .undef, .undef, .undef, .undef, .undef, .undef, .undef, .undef, .undef, .undef, .undef, .undef, .undef, .undef, .undef, .undef, .undef, .undef, .undef, .undef, .undef, .undef, .undef, .undef, .undef, .undef, .undef, .undef, .undef, .undef, .undef, .undef, .undef, .undef, .undef, .undef, .undef, .undef, .undef, .undef, .undef, .undef, .undef, .undef, .undef, .undef, .undef, .undef, .undef, .undef, .undef, .undef, .undef, .undef, .undef, .undef, .undef, .undef, .undef, .undef, .undef, .undef, .undef, .undef, .undef, .undef, .undef, .undef, .undef, .undef, .undef, .undef, .undef, .undef, .undef, .undef, .undef, .undef, .undef, .undef, .undef, .undef, .undef, .undef, .undef, .undef, .undef, .undef, .undef, .undef, .undef, .undef, .undef, .undef, .undef, .undef, .undef, .undef, .undef, .undef, .undef, .undef, .undef, .undef, .undef, .undef, .undef, .undef, .undef, .undef, .undef, .undef, .undef, .undef, .undef, .undef, .undef, .undef, .undef, .undef, .undef, .undef, .undef, .undef, .undef, .undef, .undef, .undef, .undef, .undef, .undef, .undef, .undef, .undef, .undef, .undef, .undef, .undef, .undef, .undef, .undef, .undef, .undef, .undef, .undef, .undef, .undef, .undef, .undef, .undef, .undef, .undef, .undef, .undef, .undef, .undef, .undef, .undef, .undef, .undef, .undef, .undef, .undef, .undef, .undef, .undef, .undef, .undef, .undef, .undef, .undef, .undef, .undef, .undef, .undef, .undef, .undef, .undef, .undef, .undef, .undef, .undef, .undef, .undef, .undef, .undef, .undef, .undef, .undef, .undef, .undef, .undef, .undef, .undef, .undef, .undef, .undef, .undef, .undef, .undef, .undef, .undef, .undef, .undef, .undef, .undef, .undef, .undef, .undef, .undef, .undef, .undef, .undef, .undef, .undef, .undef, .undef, .undef, .undef, .undef, .undef, .undef, .undef, .undef, .undef, .undef, .undef, .undef, .undef, .undef, .undef, .undef, .undef, .undef, .undef, .undef, .undef, .undef, .undef, .undef, .undef, .undef, .undef, .undef, .undef, .undef, .undef, .undef, .undef], [([2], (.row false none (List.replicate 32 (CV.int .u8 0)))), ([3], (.row false none v.2.2.2))]⟩
def f11_S2 (v : (List CV) × Nat × (List CV)) : St := ⟨[(.sl false none v.1), .undef, (.ptr [2] 1 0 0), (.osl [3] none 0 v.2.1), .undef, .undef, .undef, .undef, .undef, .undef, .undef, .undef, .undef, .undef, .undef, .undef, .undef, .undef, .undef, .undef, .undef, .undef, .undef, .undef, .undef, .undef, .undef, .undef, .undef, .undef, .undef, .undef, .undef, .undef, .undef, .undef, .undef, .undef, .undef, .undef, .undef, .undef, .undef, .undef, .undef, .undef, .undef, .undef, .undef, .undef, .undef, .undef, .undef, .undef, .undef, .undef, .undef, .undef, .undef, .undef, .undef, .undef, .undef, .undef, .undef, .undef, .undef, .undef, .undef, .undef, .undef, .undef, .undef, .undef, .undef, .undef, .undef, .undef, .undef, .undef, .undef, .undef, .undef, .undef, .undef, .undef, .undef, .undef, .undef, .undef, .undef, .undef, .undef, .undef, .undef, .undef, .undef, .undef, .undef, .undef, .undef, .undef, .undef, .undef, .undef, .undef, .undef, .undef, .undef, .undef, .undef, .undef, .undef, .undef, .undef, .undef, .undef, .undef, .undef, .undef, .undef, .undef, .undef, .undef, .undef, .undef, .undef, .undef, .undef, .undef, .undef, .undef, .undef, .undef, .undef, .undef, .undef, .undef, .undef, .undef, .undef, .undef, .undef, .undef, .undef, .undef, .undef, .undef, .undef, .undef, .undef, .undef, .undef, .undef, .undef, .undef, .undef, .undef, .undef, .undef, .undef, .undef, .undef, .undef, .undef, .undef, .undef, .undef, .undef, .undef, .undef, .undef, .undef, .undef, .undef, .undef, .undef, .undef, .undef, .undef, .undef, .undef, .undef, .undef, .undef, .undef, .undef, .undef, .undef, .undef, .undef, .undef, .undef, .undef, .undef, .undef, .undef, .undef, .undef, .undef, .undef, .undef, .undef, .undef, .undef, .undef, .undef, .undef, .undef, .undef, .undef, .undef, .undef, .undef, .undef, .undef, .undef, .undef, .undef, .undef, .undef, .undef, .undef, .undef, .undef, .undef, .undef, .undef, .undef, .undef, .undef, .undef, .undef, .undef, .undef, .undef, .undef, .undef, .undef, .undef, .undef, .undef, .undef, .undef, .undef, .undef, .undef, .undef, .undef, .undef, .undef, .undef, .undef, .undef, .undef, .undef, .undef, .undef, .undef, .undef, .undef, .undef, .undef, .undef, .undef, .undef, .undef, .undef, .undef, .undef, .undef, .undef, .undef, .undef, .undef, .undef, .undef, .undef, .undef, .undef, .undef, .undef, .undef, .undef, .undef, .undef], [([2], (.row false none (List.replicate 32 (CV.int .u8 0)))), ([3], (.row false none v.2.2))]⟩
def f11_S3 (v : Nat × Int × Int × (List CV)) : St := ⟨[.undef, .undef, (.ptr [2] 1 0 0), (.osl [3] none 0 v.1), .undef, (.v (CV.int .u64 v.2.1)), (.v (CV.int .i64 v.2.2.1)), .undef, .undef, .undef, .undef, .undef, .undef, .undef, .undef, .undef, .undef, .undef, .undef, .undef, .undef, .undef, .undef, .undef, .undef, .undef, .undef, .undef, .undef, .undef, .undef, .undef, .undef, .undef, .undef, .undef, .undef, .undef, .undef, .undef, .undef, .undef, .undef, .undef, .undef, .undef, .undef, .undef, .undef, .undef, .undef, .undef, .undef, .undef, .undef, .undef, .undef, .undef, .undef, .undef, .undef, .undef, .undef, .undef, .undef, .undef, .undef, .undef, .undef, .undef, .undef, .undef, .undef, .undef, .undef, .undef, .undef, .undef, .undef, .undef, .undef, .undef, .undef, .undef, .undef, .undef, .undef, .undef, .undef, .undef, .undef, .undef, .undef, .undef, .undef, .undef, .undef, .undef, .undef, .undef, .undef, .undef, .undef, .undef, .undef, .undef, .undef, .undef, .undef, .undef, .undef, .undef, .undef, .undef, .undef, .undef, .undef, .undef, .undef, .undef, .undef, .undef, .undef, .undef, .undef, .undef, .undef, .undef, .undef, .undef, .undef, .undef, .undef, .undef, .undef, .undef, .undef, .undef, .undef, .undef, .undef, .undef, .undef, .undef, .undef, .undef, .undef, .undef, .undef, .undef, .undef, .undef, .undef, .undef, .undef, .undef, .undef, .undef, .undef, .undef, .undef, .undef, .undef, .undef, .undef, .undef, .undef, .undef, .undef, .undef, .undef, .undef, .undef, .undef, .undef, .undef, .undef, .undef, .undef, .undef, .undef, .undef, .undef, .undef, .undef, .undef, .undef, .undef, .undef, .undef, .undef, .undef, .undef, .undef, .undef, .undef, .undef, .undef, .undef, .undef, .undef, .undef, .undef, .undef, .undef, .undef, .undef, .undef, .undef, .undef, .undef, .undef, .undef, .undef, .undef, .undef, .undef, .undef, .undef, .undef, .undef, .undef, .undef, .undef, .undef, .undef, .undef, .undef, .undef, .undef, .undef, .undef, .undef, .undef, .undef, .undef, .undef, .undef, .undef, .undef, .undef, .undef, .undef, .undef, .undef, .undef, .undef, .undef, .undef, .undef, .undef, .undef, .undef, .undef, .undef, .undef, .undef, .undef, .undef, .undef, .undef, .undef, .undef, .undef, .undef, .undef, .undef, .undef, .undef, .undef, .undef, .undef, .undef, .undef, .undef, .undef, .undef, .undef, .undef, .undef, .undef, .undef, .undef, .undef, .undef, .undef], [([2], (.row false none (List.replicate 32 (CV.int .u8 0)))), ([3], (.row false none v.2.2.2))]⟩
def f11_S4 (v : Nat × Int × (List CV) × (List CV)) : St := ⟨[.undef, .undef, (.ptr [2] 1 0 0), (.osl [3] none 0 v.1), .undef, .undef, .undef, (.ptr [7] 1 0 0), (.v (CV.int .i64 v.2.1)), .undef, .undef, .undef, .undef, .undef, .undef, .undef, .undef, .undef, .undef, .undef, .undef, .undef, .undef, .undef, .undef, .undef, .undef, .undef, .undef, .undef, .undef, .undef, .undef, .undef, .undef, .undef, .undef, .undef, .undef, .undef, .undef, .undef, .undef, .undef, .undef, .undef, .undef, .undef, .undef, .undef, .undef, .undef, .undef, .undef, .undef, .undef, .undef, .undef, .undef, .undef, .undef, .undef, .undef, .undef, .undef, .undef, .undef, .undef, .undef, .undef, .undef, .undef, .undef, .undef, .undef, .undef, .undef, .undef, .undef, .undef, .undef, .undef, .undef, .undef, .undef, .undef, .undef, .undef, .undef, .undef, .undef, .undef, .undef, .undef, .undef, .undef, .undef, .undef, .undef, .undef, .undef, .undef, .undef, .undef, .undef, .undef, .undef, .undef, .undef, .undef, .undef, .undef, .undef, .undef, .undef, .undef, .undef, .undef, .undef, .undef, .undef, .undef, .undef, .undef, .undef, .undef, .undef, .undef, .undef, .undef, .undef, .undef, .undef, .undef, .undef, .undef, .undef, .undef, .undef, .undef, .undef, .undef, .undef, .undef, .undef, .undef, .undef, .undef, .undef, .undef, .undef, .undef, .undef, .undef, .undef, .undef, .undef, .undef, .undef, .undef, .undef, .undef, .undef, .undef, .undef, .undef, .undef, .undef, .undef, .undef, .undef, .undef, .undef, .undef, .undef, .undef, .undef, .undef, .undef, .undef, .undef, .undef, .undef, .undef, .undef, .undef, .undef, .undef, .undef, .undef, .undef, .undef, .undef, .undef, .undef, .undef, .undef, .undef, .undef, .undef, .undef, .undef, .undef, .undef, .undef, .undef, .undef, .undef, .undef, .undef, .undef, .undef, .undef, .undef, .undef, .undef, .undef, .undef, .undef, .undef, .undef, .undef, .undef, .undef, .undef, .undef, .undef, .undef, .undef, .undef, .undef, .undef, .undef, .undef, .undef, .undef, .undef, .undef, .undef, .undef, .undef, .undef, .undef, .undef, .undef, .undef, .undef, .undef, .undef, .undef, .undef, .undef, .undef, .undef, .undef, .undef, .undef, .undef, .undef, .undef, .undef, .undef, .undef, .undef, .undef, .undef, .undef, .undef, .undef, .undef, .undef, .undef, .undef, .undef, .undef, .undef, .undef, .undef, .undef, .undef, .undef, .undef, .undef, .undef, .undef, .undef], [([2], (.row false none (List.replicate 32 (CV.int .u8 0)))), ([3], (.row false none v.2.2.1)), ([7], (.row false none v.2.2.2))]⟩
def f11_S5 (v : Nat × Int × Int × (List CV) × (List CV) × (List CV)) : St := ⟨[.undef, .undef, (.ptr [2] 1 0 0), (.osl [3] none 0 v.1), .undef, .undef, .undef, (.ptr [7] 1 0 0), (.v (CV.int .i64 v.2.1)), (.ptr [9] 1 0 0), (.v (CV.int .i64 v.2.2.1)), .undef, .undef, .undef, .undef, .undef, .undef, .undef, .undef, .undef, .undef, .undef, .undef, .undef, .undef, .undef, .undef, .undef, .undef, .undef, .undef, .undef, .undef, .undef, .undef, .undef, .undef, .undef, .undef, .undef, .undef, .undef, .undef, .undef, .undef, .undef, .undef, .undef, .undef, .undef, .undef, .undef, .undef, .undef, .undef, .undef, .undef, .undef, .undef, .undef, .undef, .undef, .undef, .undef, .undef, .undef, .undef, .undef, .undef, .undef, .undef, .undef, .undef, .undef, .undef, .undef, .undef, .undef, .undef, .undef, .undef, .undef, .undef, .undef, .undef, .undef, .undef, .undef, .undef, .undef, .undef, .undef, .undef, .undef, .undef, .undef, .undef, .undef, .undef, .undef, .undef, .undef, .undef, .undef, .undef, .undef, .undef, .undef, .undef, .undef, .undef, .undef, .undef, .undef, .undef, .undef, .undef, .undef, .undef, .undef, .undef, .undef, .undef, .undef, .undef, .undef, .undef, .undef, .undef, .undef, .undef, .undef, .undef, .undef, .undef, .undef, .undef, .undef, .undef, .undef, .undef, .undef, .undef, .undef, .undef, .undef, .undef, .undef, .undef, .undef, .undef, .undef, .undef, .undef, .undef, .undef, .undef, .undef, .undef, .undef, .undef, .undef, .undef, .undef, .undef, .undef, .undef, .undef, .undef, .undef, .undef, .undef, .undef, .undef, .undef, .undef, .undef, .undef, .undef, .undef, .undef, .undef, .undef, .undef, .undef, .undef, .undef, .undef, .undef, .undef, .undef, .undef, .undef, .undef, .undef, .undef, .undef, .undef, .undef, .undef, .undef, .undef, .undef, .undef, .undef, .undef, .undef, .undef, .undef, .undef, .undef, .undef, .undef, .undef, .undef, .undef, .undef, .undef, .undef, .undef, .undef, .undef, .undef, .undef, .undef, .undef, .undef, .undef, .undef, .undef, .undef, .undef, .undef, .undef, .undef, .undef, .undef, .undef, .undef, .undef, .undef, .undef, .undef, .undef, .undef, .undef, .undef, .undef, .undef, .undef, .undef, .undef, .undef, .undef, .undef, .undef, .undef, .undef, .undef, .undef, .undef, .undef, .undef, .undef, .undef, .undef, .undef, .undef, .undef, .undef, .undef, .undef, .undef, .undef, .undef, .undef, .undef, .undef, .undef, .undef, .undef, .undef, .undef, .undef, .undef, .undef], [([2], (.row false none (List.replicate 32 (CV.int .u8 0)))), ([3], (.row false none v.2.2.2.1)), ([7], (.row false none v.2.2.2.2.1)), ([9], (.row false none v.2.2.2.2.2))]⟩
def f11_S6 (v : Nat × Int × Int × (List CV) × (List CV) × (List CV) × (List CV)) : St := ⟨[.undef, .undef, (.ptr [2] 1 0 0), (.osl [3] none 0 v.1), .undef, .undef, .undef, (.ptr [7] 1 0 0), (.v (CV.int .i64 v.2.1)), (.ptr [9] 1 0 0), .undef, .undef, .undef, (.ptr [13] 1 0 0), (.v (CV.int .i64 v.2.2.1)), .undef, .undef, .undef, .undef, .undef, .undef, .undef, .undef, .undef, .undef, .undef, .undef, .undef, .undef, .undef, .undef, .undef, .undef, .undef, .undef, .undef, .undef, .undef, .undef, .undef, .undef, .undef, .undef, .undef, .undef, .undef, .undef, .undef, .undef, .undef, .undef, .undef, .undef, .undef, .undef, .undef, .undef, .undef, .undef, .undef, .undef, .undef, .undef, .undef, .undef, .undef, .undef, .undef, .undef, .undef, .undef, .undef, .undef, .undef, .undef, .undef, .undef, .undef, .undef, .undef, .undef, .undef, .undef, .undef, .undef, .undef, .undef, .undef, .undef, .undef, .undef, .undef, .undef, .undef, .undef, .undef, .undef, .undef, .undef, .undef, .undef, .undef, .undef, .undef, .undef, .undef, .undef, .undef, .undef, .undef, .undef, .undef, .undef, .undef, .undef, .undef, .undef, .undef, .undef, .undef, .undef, .undef, .undef, .undef, .undef, .undef, .undef, .undef, .undef, .undef, .undef, .undef, .undef, .undef, .undef, .undef, .undef, .undef, .undef, .undef, .undef, .undef, .undef, .undef, .undef, .undef, .undef, .undef, .undef, .undef, .undef, .undef, .undef, .undef, .undef, .undef, .undef, .undef, .undef, .undef, .undef, .undef, .undef, .undef, .undef, .undef, .undef, .undef, .undef, .undef, .undef, .undef, .undef, .undef, .undef, .undef, .undef, .undef, .undef, .undef, .undef, .undef, .undef, .undef, .undef, .undef, .undef, .undef, .undef, .undef, .undef, .undef, .undef, .undef, .undef, .undef, .undef, .undef, .undef, .undef, .undef, .undef, .undef, .undef, .undef, .undef, .undef, .undef, .undef, .undef, .undef, .undef, .undef, .undef, .undef, .undef, .undef, .undef, .undef, .undef, .undef, .undef, .undef, .undef, .undef, .undef, .undef, .undef, .undef, .undef, .undef, .undef, .undef, .undef, .undef, .undef, .undef, .undef, .undef, .undef, .undef, .undef, .undef, .undef, .undef, .undef, .undef, .undef, .undef, .undef, .undef, .undef, .undef, .undef, .undef, .undef, .undef, .undef, .undef, .undef, .undef, .undef, .undef, .undef, .undef, .undef, .undef, .undef, .undef, .undef, .undef, .undef, .undef, .undef, .undef, .undef, .undef, .undef, .undef, .undef, .undef, .undef, .undef, .undef, .undef, .undef], [([2], (.row false none (List.replicate 32 (CV.int .u8 0)))), ([3], (.row false none v.2.2.2.1)), ([7], (.row false none v.2.2.2.2.1)), ([9], (.row false none v.2.2.2.2.2.1)), ([13], (.row false none v.2.2.2.2.2.2))]⟩
def f11_S7 (v : Nat × Int × Int × (List CV) × (List CV) × (List CV)) : St := ⟨[.undef, .undef, (.ptr [2] 1 0 0), (.osl [3] none 0 v.1), .undef, .undef, .undef, (.ptr [7] 1 0 0), (.v (CV.int .i64 v.2.1)), .undef, .undef, .undef, .undef, (.ptr [13] 1 0 0), .undef, .undef, .undef, (.v (CV.int .i64 v.2.2.1)), .undef, .undef, .undef, .undef, .undef, .undef, .undef, .undef, .undef, .undef, .undef, .undef, .undef, .undef, .undef, .undef, .undef, .undef, .undef, .undef, .undef, .undef, .undef, .undef, .undef, .undef, .undef, .undef, .undef, .undef, .undef, .undef, .undef, .undef, .undef, .undef, .undef, .undef, .undef, .undef, .undef, .undef, .undef, .undef, .undef, .undef, .undef, .undef, .undef, .undef, .undef, .undef, .undef, .undef, .undef, .undef, .undef, .undef, .undef, .undef, .undef, .undef, .undef, .undef, .undef, .undef, .undef, .undef, .undef, .undef, .undef, .undef, .undef, .undef, .undef, .undef, .undef, .undef, .undef, .undef, .undef, .undef, .undef, .undef, .undef, .undef, .undef, .undef, .undef, .undef, .undef, .undef, .undef, .undef, .undef, .undef, .undef, .undef, .undef, .undef, .undef, .undef, .undef, .undef, .undef, .undef, .undef, .undef, .undef, .undef, .undef, .undef, .undef, .undef, .undef, .undef, .undef, .undef, .undef, .undef, .undef, .undef, .undef, .undef, .undef, .undef, .undef, .undef, .undef, .undef, .undef, .undef, .undef, .undef, .undef, .undef, .undef, .undef, .undef, .undef, .undef, .undef, .undef, .undef, .undef, .undef, .undef, .undef, .undef, .undef, .undef, .undef, .undef, .undef, .undef, .undef, .undef, .undef, .undef, .undef, .undef, .undef, .undef, .undef, .undef, .undef, .undef, .undef, .undef, .undef, .undef, .undef, .undef, .undef, .undef, .undef, .undef, .undef, .undef, .undef, .undef, .undef, .undef, .undef, .undef, .undef, .undef, .undef, .undef, .undef, .undef, .undef, .undef, .undef, .undef, .undef, .undef, .undef, .undef, .undef, .undef, .undef, .undef, .undef, .undef, .undef, .undef, .undef, .undef, .undef, .undef, .undef, .undef, .undef, .undef, .undef, .undef, .undef, .undef, .undef, .undef, .undef, .undef, .undef, .undef, .undef, .undef, .undef, .undef, .undef, .undef, .undef, .undef, .undef, .undef, .undef, .undef, .undef, .undef, .undef, .undef, .undef, .undef, .undef, .undef, .undef, .undef, .undef, .undef, .undef, .undef, .undef, .undef, .undef, .undef, .undef, .undef, .undef, .undef, .undef, .undef, .undef, .undef, .undef, .undef, .undef, .undef, .undef], [([2], (.row false none (List.replicate 32 (CV.int .u8 0)))), ([3], (.row false none v.2.2.2.1)), ([7], (.row false none v.2.2.2.2.1)), ([13], (.row false none v.2.2.2.2.2))]⟩
def f11_S8 (v : Int × (List CV) × (List CV)) : St := ⟨[.undef, .undef, (.ptr [2] 1 0 0), .undef, .undef, .undef, .undef, (.ptr [7] 1 0 0), .undef, .undef, .undef, .undef, .undef, .undef, .undef, .undef, .undef, .undef, (.ptr [18] 1 0 0), (.v (CV.int .i64 v.1)), .undef, .undef, .undef, .undef, .undef, .undef, .undef, .undef, .undef, .undef, .undef, .undef, .undef, .undef, .undef, .undef, .undef, .undef, .undef, .undef, .undef, .undef, .undef, .undef, .undef, .undef, .undef, .undef, .undef, .undef, .undef, .undef, .undef, .undef, .undef, .undef, .undef, .undef, .undef, .undef, .undef, .undef, .undef, .undef, .undef, .undef, .undef, .undef, .undef, .undef, .undef, .undef, .undef, .undef, .undef, .undef, .undef, .undef, .undef, .undef, .undef, .undef, .undef, .undef, .undef, .undef, .undef, .undef, .undef, .undef, .undef, .undef, .undef, .undef, .undef, .undef, .undef, .undef, .undef, .undef, .undef, .undef, .undef, .undef, .undef, .undef, .undef, .undef, .undef, .undef, .undef, .undef, .undef, .undef, .undef, .undef, .undef, .undef, .undef, .undef, .undef, .undef, .undef, .undef, .undef, .undef, .undef, .undef, .undef, .undef, .undef, .undef, .undef, .undef, .undef, .undef, .undef, .undef, .undef, .undef, .undef, .undef, .undef, .undef, .undef, .undef, .undef, .undef, .undef, .undef, .undef, .undef, .undef, .undef, .undef, .undef, .undef, .undef, .undef, .undef, .undef, .undef, .undef, .undef, .undef, .undef, .undef, .undef, .undef, .undef, .undef, .undef, .undef, .undef, .undef, .undef, .undef, .undef, .undef, .undef, .undef, .undef, .undef, .undef, .undef, .undef, .undef, .undef, .undef, .undef, .undef, .undef, .undef, .undef, .undef, .undef, .undef, .undef, .undef, .undef, .undef, .undef, .undef, .undef, .undef, .undef, .undef, .undef, .undef, .undef, .undef, .undef, .undef, .undef, .undef, .undef, .undef, .undef, .undef, .undef, .undef, .undef, .undef, .undef, .undef, .undef, .undef, .undef, .undef, .undef, .undef, .undef, .undef, .undef, .undef, .undef, .undef, .undef, .undef, .undef, .undef, .undef, .undef, .undef, .undef, .undef, .undef, .undef, .undef, .undef, .undef, .undef, .undef, .undef, .undef, .undef, .undef, .undef, .undef, .undef, .undef, .undef, .undef, .undef, .undef, .undef, .undef, .undef, .undef, .undef, .undef, .undef, .undef, .undef, .undef, .undef, .undef, .undef, .undef, .undef, .undef, .undef, .undef, .undef, .undef, .undef], [([2], (.row false none (List.replicate 32 (CV.int .u8 0)))), ([7], (.row false none v.2.1)), ([18], (.row false none v.2.2))]⟩
def f11_J1 {X : Type} (R_f24 : f24_R) (k : Nat) (K : (List CV) → Option X) (rec5 : Nat × Int × Int × (List CV) × (List CV) × (List CV) → Option X) (v19_227 : Nat × Int × Int × (List CV) × (List CV) × (List CV)) (v289 : (List CV)) : Option X :=
rec5 (v19_227.1, v19_227.2.1, (IntKind.wrap .i64 (v19_227.2.2.1 + 1)), v19_227.2.2.2.1, v19_227.2.2.2.2.1, v289)
def f11_T8 {X : Type} (R_f24 : f24_R) (k : Nat) (K : (List CV) → Option X)   (rec8 : Int × (List CV) × (List CV) → Option X) (v13_447 : Int × (List CV) × (List CV)) : Option X :=
(bif (decide (v13_447.1 < 32)) then
grd (decide (0 ≤ (IntKind.wrap .i64 (Int.tdiv v13_447.1 4)))) <|
grd (decide ((IntKind.wrap .i64 (Int.tdiv v13_447.1 4)) < 8)) <|
Option.bind (v13_447.2.1)[(0 + (0 + ((Int.toNat (IntKind.wrap .i64 (Int.tdiv v13_447.1 4))) * 1)))]? fun e452 =>
grd (CV.isI .u32 e452) <|
grd (decide (0 ≤ (IntKind.wrap .i64 (24 - (IntKind.wrap .i64 (8 * (Int.tmod v13_447.1 4))))))) <|
grd (decide (0 ≤ v13_447.1)) <|
grd (decide (v13_447.1 < 32)) <|
grd (decide ((0 + (0 + ((Int.toNat v13_447.1) * 1))) < (List.length v13_447.2.2))) <|
rec8 ((IntKind.wrap .i64 (v13_447.1 + 1)), v13_447.2.1, (List.set v13_447.2.2 (0 + (0 + ((Int.toNat v13_447.1) * 1))) (CV.int .u8 (IntKind.wrap .u8 (Int.fdiv (CV.toI e452) (2 ^ (min (Int.toNat (IntKind.wrap .i64 (24 - (IntKind.wrap .i64 (8 * (Int.tmod v13_447.1 4)))))) 32)))))))
else
grd (decide (32 ≤ (List.length v13_447.2.2))) <|
grd (Nat.beq (List.length (List.take 32 (List.drop 0 v13_447.2.2))) 32) <|
grd (decide (32 ≤ 32)) <|
grd (decide (32 ≤ (List.length ((List.take 0 (List.replicate 32 (CV.int .u8 0))) ++ (List.take 32 (List.drop 0 v13_447.2.2)) ++ (List.drop 32 (List.replicate 32 (CV.int .u8 0))))))) <|
K ((List.take 32 (List.drop 0 ((List.take 0 (List.replicate 32 (CV.int .u8 0))) ++ (List.take 32 (List.drop 0 v13_447.2.2)) ++ (List.drop 32 (List.replicate 32 (CV.int .u8 0))))))))
def f11_L8 {X : Type} (R_f24 : f24_R) (k : Nat) (K : (List CV) → Option X)  (rec8 : Int × (List CV) × (List CV) → Option X) (v : Int × (List CV) × (List CV)) : Option X := f11_T8 R_f24 k K   rec8 v
set_option maxRecDepth 100000 in
theorem f11_L8_ev {X : Type} (R_f24 : f24_R) (hR_f24 : AnsOk Tryd.prog 24 (f24_cOf R_f24)) (k : Nat) (K : Out → Option X)  (r8 : St → Option X) (v : Int × (List CV) × (List CV)) : loopB (f11_cx R_f24 hR_f24) k [.r, .r, .r, .r, .r, .r, .r, .r, .r, .r, .l, .r, .b] (Tryd.f11.body.getD .skip) (retK (f11_cx R_f24 hR_f24) [] Tryd.f11.results.toList K) [] r8 (f11_S8 v) = f11_T8 R_f24 k (fun u => K (f11_out u))   (fun v => r8 (f11_S8 v)) v := by kernel_rfl
theorem f11_L8_it {X : Type} (R_f24 : f24_R) (hR_f24 : AnsOk Tryd.prog 24 (f24_cOf R_f24)) (k : Nat) (K : Out → Option X)  : (fun v => iter (loopB (f11_cx R_f24 hR_f24) k [.r, .r, .r, .r, .r, .r, .r, .r, .r, .r, .l, .r, .b] (Tryd.f11.body.getD .skip) (retK (f11_cx R_f24 hR_f24) [] Tryd.f11.results.toList K) []) k (f11_S8 v)) = iterV (f11_L8 R_f24 k (fun u => K (f11_out u)) ) k :=
  iter_map (fun r8 v => (f11_L8_ev R_f24 hR_f24 k K  r8 v).trans rfl) k
def f11_T7 {X : Type} (R_f24 : f24_R) (k : Nat) (K : (List CV) → Option X) (rec4 : Nat × Int × (List CV) × (List CV) → Option X)  (rec7 : Nat × Int × Int × (List CV) × (List CV) × (List CV) → Option X) (v21_438 : Nat × Int × Int × (List CV) × (List CV) × (List CV)) : Option X :=
(bif (decide (v21_438.2.2.1 < 8)) then
grd (decide (0 ≤ v21_438.2.2.1)) <|
grd (decide (v21_438.2.2.1 < 8)) <|
Option.bind (v21_438.2.2.2.2.1)[(0 + (0 + ((Int.toNat v21_438.2.2.1) * 1)))]? fun e446 =>
grd (CV.isI .u32 e446) <|
grd (decide (0 ≤ v21_438.2.2.1)) <|
grd (decide (v21_438.2.2.1 < 8)) <|
Option.bind (v21_438.2.2.2.2.2)[(0 + (0 + ((Int.toNat v21_438.2.2.1) * 1)))]? fun e447 =>
grd (CV.isI .u32 e447) <|
grd (decide (0 ≤ v21_438.2.2.1)) <|
grd (decide (v21_438.2.2.1 < 8)) <|
grd (decide ((0 + (0 + ((Int.toNat v21_438.2.2.1) * 1))) < (List.length v21_438.2.2.2.2.1))) <|
rec7 (v21_438.1, v21_438.2.1, (IntKind.wrap .i64 (v21_438.2.2.1 + 1)), v21_438.2.2.2.1, (List.set v21_438.2.2.2.2.1 (0 + (0 + ((Int.toNat v21_438.2.2.1) * 1))) (CV.int .u32 (IntKind.wrap .u32 ((CV.toI e446) + (CV.toI e447))))), v21_438.2.2.2.2.2)
else
rec4 (v21_438.1, (IntKind.wrap .i64 (v21_438.2.1 + 64)), v21_438.2.2.2.1, v21_438.2.2.2.2.1))
def f11_L7 {X : Type} (R_f24 : f24_R) (k : Nat) (K : (List CV) → Option X) (rec4 : Nat × Int × (List CV) × (List CV) → Option X) (rec7 : Nat × Int × Int × (List CV) × (List CV) × (List CV) → Option X) (v : Nat × Int × Int × (List CV) × (List CV) × (List CV)) : Option X := f11_T7 R_f24 k K rec4  rec7 v
set_option maxRecDepth 100000 in
theorem f11_L7_ev {X : Type} (R_f24 : f24_R) (hR_f24 : AnsOk Tryd.prog 24 (f24_cOf R_f24)) (k : Nat) (K : Out → Option X) (r4 : St → Option X) (r7 : St → Option X) (v : Nat × Int × Int × (List CV) × (List CV) × (List CV)) : loopB (f11_cx R_f24 hR_f24) k [.r, .r, .r, .r, .r, .r, .r, .r, .l, .r, .b, .o, .r, .l, .b, .r, .r, .r, .r, .r, .b] (Tryd.f11.body.getD .skip) (retK (f11_cx R_f24 hR_f24) [] Tryd.f11.results.toList K) [r4] r7 (f11_S7 v) = f11_T7 R_f24 k (fun u => K (f11_out u)) (fun v => r4 (f11_S4 v))  (fun v => r7 (f11_S7 v)) v := by kernel_rfl
theorem f11_L7_it {X : Type} (R_f24 : f24_R) (hR_f24 : AnsOk Tryd.prog 24 (f24_cOf R_f24)) (k : Nat) (K : Out → Option X) (r4 : St → Option X) : (fun v => iter (loopB (f11_cx R_f24 hR_f24) k [.r, .r, .r, .r, .r, .r, .r, .r, .l, .r, .b, .o, .r, .l, .b, .r, .r, .r, .r, .r, .b] (Tryd.f11.body.getD .skip) (retK (f11_cx R_f24 hR_f24) [] Tryd.f11.results.toList K) [r4]) k (f11_S7 v)) = iterV (f11_L7 R_f24 k (fun u => K (f11_out u)) (fun v => r4 (f11_S4 v))) k :=
  iter_map (fun r7 v => (f11_L7_ev R_f24 hR_f24 k K r4 r7 v).trans rfl) k
def f11_T6 {X : Type} (R_f24 : f24_R) (k : Nat) (K : (List CV) → Option X) (rec4 : Nat × Int × (List CV) × (List CV) → Option X) (loop7 : Nat × Int × Int × (List CV) × (List CV) × (List CV) → Option X) (rec6 : Nat × Int × Int × (List CV) × (List CV) × (List CV) × (List CV) → Option X) (v21_309 : Nat × Int × Int × (List CV) × (List CV) × (List CV) × (List CV)) : Option X :=
(bif (decide (v21_309.2.2.1 < 64)) then
Option.bind (v21_309.2.2.2.2.2.2)[7]? fun e407 =>
grd (CV.isI .u32 e407) <|
Option.bind (v21_309.2.2.2.2.2.2)[4]? fun e408 =>
grd (CV.isI .u32 e408) <|
R_f24 _ (fun u409 =>
Option.bind (v21_309.2.2.2.2.2.2)[4]? fun e410 =>
grd (CV.isI .u32 e410) <|
R_f24 _ (fun u411 =>
Option.bind (v21_309.2.2.2.2.2.2)[4]? fun e412 =>
grd (CV.isI .u32 e412) <|
R_f24 _ (fun u413 =>
Option.bind (v21_309.2.2.2.2.2.2)[4]? fun e414 =>
grd (CV.isI .u32 e414) <|
Option.bind (v21_309.2.2.2.2.2.2)[5]? fun e415 =>
grd (CV.isI .u32 e415) <|
Option.bind (v21_309.2.2.2.2.2.2)[4]? fun e416 =>
grd (CV.isI .u32 e416) <|
Option.bind (v21_309.2.2.2.2.2.2)[6]? fun e417 =>
grd (CV.isI .u32 e417) <|
grd (decide (0 ≤ v21_309.2.2.1)) <|
grd (decide (v21_309.2.2.1 < 64)) <|
Option.bind (CV.cell (CV.agg tab0) (0 + ((Int.toNat v21_309.2.2.1) * 1))) fun c418 =>
grd (CV.isI .u32 c418) <|
grd (decide (0 ≤ v21_309.2.2.1)) <|
grd (decide (v21_309.2.2.1 < 64)) <|
Option.bind (v21_309.2.2.2.2.2.1)[(0 + (0 + ((Int.toNat v21_309.2.2.1) * 1)))]? fun e419 =>
grd (CV.isI .u32 e419) <|
Option.bind (v21_309.2.2.2.2.2.2)[0]? fun e420 =>
grd (CV.isI .u32 e420) <|
R_f24 _ (fun u421 =>
Option.bind (v21_309.2.2.2.2.2.2)[0]? fun e422 =>
grd (CV.isI .u32 e422) <|
R_f24 _ (fun u423 =>
Option.bind (v21_309.2.2.2.2.2.2)[0]? fun e424 =>
grd (CV.isI .u32 e424) <|
R_f24 _ (fun u425 =>
Option.bind (v21_309.2.2.2.2.2.2)[0]? fun e426 =>
grd (CV.isI .u32 e426) <|
Option.bind (v21_309.2.2.2.2.2.2)[1]? fun e427 =>
grd (CV.isI .u32 e427) <|
Option.bind (v21_309.2.2.2.2.2.2)[0]? fun e428 =>
grd (CV.isI .u32 e428) <|
Option.bind (v21_309.2.2.2.2.2.2)[2]? fun e429 =>
grd (CV.isI .u32 e429) <|
Option.bind (v21_309.2.2.2.2.2.2)[1]? fun e430 =>
grd (CV.isI .u32 e430) <|
Option.bind (v21_309.2.2.2.2.2.2)[2]? fun e431 =>
grd (CV.isI .u32 e431) <|
Option.bind (v21_309.2.2.2.2.2.2)[0]? fun e432 =>
grd (CV.isI .u32 e432) <|
Option.bind (v21_309.2.2.2.2.2.2)[1]? fun e433 =>
grd (CV.isI .u32 e433) <|
Option.bind (v21_309.2.2.2.2.2.2)[2]? fun e434 =>
grd (CV.isI .u32 e434) <|
Option.bind (v21_309.2.2.2.2.2.2)[3]? fun e435 =>
grd (CV.isI .u32 e435) <|
Option.bind (v21_309.2.2.2.2.2.2)[4]? fun e436 =>
grd (CV.isI .u32 e436) <|
Option.bind (v21_309.2.2.2.2.2.2)[5]? fun e437 =>
grd (CV.isI .u32 e437) <|
Option.bind (v21_309.2.2.2.2.2.2)[6]? fun e438 =>
grd (CV.isI .u32 e438) <|
grd (decide (8 ≤ (List.length v21_309.2.2.2.2.2.2))) <|
rec6 (v21_309.1, v21_309.2.1, (IntKind.wrap .i64 (v21_309.2.2.1 + 1)), v21_309.2.2.2.1, v21_309.2.2.2.2.1, v21_309.2.2.2.2.2.1, ((List.take 0 v21_309.2.2.2.2.2.2) ++ [(CV.int .u32 (IntKind.wrap .u32 ((IntKind.wrap .u32 ((IntKind.wrap .u32 ((IntKind.wrap .u32 ((IntKind.wrap .u32 ((CV.toI e407) + (bop .xor .u32 (bop .xor .u32 u409 u411) u413))) + (bop .xor .u32 (bop .and .u32 (CV.toI e414) (CV.toI e415)) (bop .and .u32 (bop .xor .u32 4294967295 (CV.toI e416)) (CV.toI e417))))) + (CV.toI c418))) + (CV.toI e419))) + (IntKind.wrap .u32 ((bop .xor .u32 (bop .xor .u32 u421 u423) u425) + (bop .xor .u32 (bop .xor .u32 (bop .and .u32 (CV.toI e426) (CV.toI e427)) (bop .and .u32 (CV.toI e428) (CV.toI e429))) (bop .and .u32 (CV.toI e430) (CV.toI e431)))))))), (CV.int .u32 (CV.toI e432)), (CV.int .u32 (CV.toI e433)), (CV.int .u32 (CV.toI e434)), (CV.int .u32 (IntKind.wrap .u32 ((CV.toI e435) + (IntKind.wrap .u32 ((IntKind.wrap .u32 ((IntKind.wrap .u32 ((IntKind.wrap .u32 ((CV.toI e407) + (bop .xor .u32 (bop .xor .u32 u409 u411) u413))) + (bop .xor .u32 (bop .and .u32 (CV.toI e414) (CV.toI e415)) (bop .and .u32 (bop .xor .u32 4294967295 (CV.toI e416)) (CV.toI e417))))) + (CV.toI c418))) + (CV.toI e419)))))), (CV.int .u32 (CV.toI e436)), (CV.int .u32 (CV.toI e437)), (CV.int .u32 (CV.toI e438))] ++ (List.drop 8 v21_309.2.2.2.2.2.2)))) ((CV.toI e424)) (22)) ((CV.toI e422)) (13)) ((CV.toI e420)) (2)) ((CV.toI e412)) (25)) ((CV.toI e410)) (11)) ((CV.toI e408)) (6)
else
loop7 (v21_309.1, v21_309.2.1, 0, v21_309.2.2.2.1, v21_309.2.2.2.2.1, v21_309.2.2.2.2.2.2))
def f11_L6 {X : Type} (R_f24 : f24_R) (k : Nat) (K : (List CV) → Option X) (rec4 : Nat × Int × (List CV) × (List CV) → Option X) (rec6 : Nat × Int × Int × (List CV) × (List CV) × (List CV) × (List CV) → Option X) (v : Nat × Int × Int × (List CV) × (List CV) × (List CV) × (List CV)) : Option X := f11_T6 R_f24 k K rec4 (iterV (f11_L7 R_f24 k K rec4) k) rec6 v
set_option maxRecDepth 100000 in
theorem f11_L6_ev {X : Type} (R_f24 : f24_R) (hR_f24 : AnsOk Tryd.prog 24 (f24_cOf R_f24)) (k : Nat) (K : Out → Option X) (r4 : St → Option X) (r6 : St → Option X) (v : Nat × Int × Int × (List CV) × (List CV) × (List CV) × (List CV)) : loopB (f11_cx R_f24 hR_f24) k [.r, .r, .r, .r, .r, .r, .r, .r, .l, .r, .b, .o, .r, .l, .b, .r, .r, .r, .l, .r, .b] (Tryd.f11.body.getD .skip) (retK (f11_cx R_f24 hR_f24) [] Tryd.f11.results.toList K) [r4] r6 (f11_S6 v) = f11_T6 R_f24 k (fun u => K (f11_out u)) (fun v => r4 (f11_S4 v)) (fun v => iter (loopB (f11_cx R_f24 hR_f24) k [.r, .r, .r, .r, .r, .r, .r, .r, .l, .r, .b, .o, .r, .l, .b, .r, .r, .r, .r, .r, .b] (Tryd.f11.body.getD .skip) (retK (f11_cx R_f24 hR_f24) [] Tryd.f11.results.toList K) [r4]) k (f11_S7 v)) (fun v => r6 (f11_S6 v)) v := by kernel_rfl
theorem f11_L6_it {X : Type} (R_f24 : f24_R) (hR_f24 : AnsOk Tryd.prog 24 (f24_cOf R_f24)) (k : Nat) (K : Out → Option X) (r4 : St → Option X) : (fun v => iter (loopB (f11_cx R_f24 hR_f24) k [.r, .r, .r, .r, .r, .r, .r, .r, .l, .r, .b, .o, .r, .l, .b, .r, .r, .r, .l, .r, .b] (Tryd.f11.body.getD .skip) (retK (f11_cx R_f24 hR_f24) [] Tryd.f11.results.toList K) [r4]) k (f11_S6 v)) = iterV (f11_L6 R_f24 k (fun u => K (f11_out u)) (fun v => r4 (f11_S4 v))) k :=
  iter_map (fun r6 v => (f11_L6_ev R_f24 hR_f24 k K r4 r6 v).trans (by rw [f11_L7_it R_f24 hR_f24 k K r4]; rfl)) k
def f11_T5 {X : Type} (R_f24 : f24_R) (k : Nat) (K : (List CV) → Option X) (rec4 : Nat × Int × (List CV) × (List CV) → Option X) (loop6 : Nat × Int × Int × (List CV) × (List CV) × (List CV) × (List CV) → Option X) (rec5 : Nat × Int × Int × (List CV) × (List CV) × (List CV) → Option X) (v19_227 : Nat × Int × Int × (List CV) × (List CV) × (List CV)) : Option X :=
(bif (decide (v19_227.2.2.1 < 64)) then
(bif (decide (v19_227.2.2.1 < 16)) then
grd (decide (0 ≤ (IntKind.wrap .i64 (v19_227.2.1 + (IntKind.wrap .i64 (4 * v19_227.2.2.1)))))) <|
grd (decide ((IntKind.wrap .i64 (v19_227.2.1 + (IntKind.wrap .i64 (4 * v19_227.2.2.1)))) < (Nat.cast (v19_227.1) : Int))) <|
Option.bind (v19_227.2.2.2.1)[((0 + (Int.toNat (IntKind.wrap .i64 (v19_227.2.1 + (IntKind.wrap .i64 (4 * v19_227.2.2.1)))))) + 0)]? fun e294 =>
grd (CV.isI .u8 e294) <|
grd (decide (0 ≤ (IntKind.wrap .i64 ((IntKind.wrap .i64 (v19_227.2.1 + (IntKind.wrap .i64 (4 * v19_227.2.2.1)))) + 1)))) <|
grd (decide ((IntKind.wrap .i64 ((IntKind.wrap .i64 (v19_227.2.1 + (IntKind.wrap .i64 (4 * v19_227.2.2.1)))) + 1)) < (Nat.cast (v19_227.1) : Int))) <|
Option.bind (v19_227.2.2.2.1)[((0 + (Int.toNat (IntKind.wrap .i64 ((IntKind.wrap .i64 (v19_227.2.1 + (IntKind.wrap .i64 (4 * v19_227.2.2.1)))) + 1)))) + 0)]? fun e295 =>
grd (CV.isI .u8 e295) <|
grd (decide (0 ≤ (IntKind.wrap .i64 ((IntKind.wrap .i64 (v19_227.2.1 + (IntKind.wrap .i64 (4 * v19_227.2.2.1)))) + 2)))) <|
grd (decide ((IntKind.wrap .i64 ((IntKind.wrap .i64 (v19_227.2.1 + (IntKind.wrap .i64 (4 * v19_227.2.2.1)))) + 2)) < (Nat.cast (v19_227.1) : Int))) <|
Option.bind (v19_227.2.2.2.1)[((0 + (Int.toNat (IntKind.wrap .i64 ((IntKind.wrap .i64 (v19_227.2.1 + (IntKind.wrap .i64 (4 * v19_227.2.2.1)))) + 2)))) + 0)]? fun e296 =>
grd (CV.isI .u8 e296) <|
grd (decide (0 ≤ (IntKind.wrap .i64 ((IntKind.wrap .i64 (v19_227.2.1 + (IntKind.wrap .i64 (4 * v19_227.2.2.1)))) + 3)))) <|
grd (decide ((IntKind.wrap .i64 ((IntKind.wrap .i64 (v19_227.2.1 + (IntKind.wrap .i64 (4 * v19_227.2.2.1)))) + 3)) < (Nat.cast (v19_227.1) : Int))) <|
Option.bind (v19_227.2.2.2.1)[((0 + (Int.toNat (IntKind.wrap .i64 ((IntKind.wrap .i64 (v19_227.2.1 + (IntKind.wrap .i64 (4 * v19_227.2.2.1)))) + 3)))) + 0)]? fun e297 =>
grd (CV.isI .u8 e297) <|
grd (decide (0 ≤ v19_227.2.2.1)) <|
grd (decide (v19_227.2.2.1 < 64)) <|
grd (decide ((0 + (0 + ((Int.toNat v19_227.2.2.1) * 1))) < (List.length v19_227.2.2.2.2.2))) <|
f11_J1 R_f24 k K rec5 v19_227 ((List.set v19_227.2.2.2.2.2 (0 + (0 + ((Int.toNat v19_227.2.2.1) * 1))) (CV.int .u32 (IntKind.wrap .u32 ((IntKind.wrap .u32 ((IntKind.wrap .u32 ((IntKind.wrap .u32 ((IntKind.wrap .u32 (CV.toI e294)) * 16777216)) + (IntKind.wrap .u32 ((IntKind.wrap .u32 (CV.toI e295)) * 65536)))) + (IntKind.wrap .u32 ((IntKind.wrap .u32 (CV.toI e296)) * 256)))) + (IntKind.wrap .u32 (CV.toI e297)))))))
else
grd (decide (0 ≤ (IntKind.wrap .i64 (v19_227.2.2.1 - 15)))) <|
grd (decide ((IntKind.wrap .i64 (v19_227.2.2.1 - 15)) < 64)) <|
Option.bind (v19_227.2.2.2.2.2)[(0 + (0 + ((Int.toNat (IntKind.wrap .i64 (v19_227.2.2.1 - 15))) * 1)))]? fun e298 =>
grd (CV.isI .u32 e298) <|
R_f24 _ (fun u299 =>
grd (decide (0 ≤ (IntKind.wrap .i64 (v19_227.2.2.1 - 15)))) <|
grd (decide ((IntKind.wrap .i64 (v19_227.2.2.1 - 15)) < 64)) <|
Option.bind (v19_227.2.2.2.2.2)[(0 + (0 + ((Int.toNat (IntKind.wrap .i64 (v19_227.2.2.1 - 15))) * 1)))]? fun e300 =>
grd (CV.isI .u32 e300) <|
R_f24 _ (fun u301 =>
grd (decide (0 ≤ (IntKind.wrap .i64 (v19_227.2.2.1 - 15)))) <|
grd (decide ((IntKind.wrap .i64 (v19_227.2.2.1 - 15)) < 64)) <|
Option.bind (v19_227.2.2.2.2.2)[(0 + (0 + ((Int.toNat (IntKind.wrap .i64 (v19_227.2.2.1 - 15))) * 1)))]? fun e302 =>
grd (CV.isI .u32 e302) <|
grd (decide (0 ≤ (IntKind.wrap .i64 (v19_227.2.2.1 - 2)))) <|
grd (decide ((IntKind.wrap .i64 (v19_227.2.2.1 - 2)) < 64)) <|
Option.bind (v19_227.2.2.2.2.2)[(0 + (0 + ((Int.toNat (IntKind.wrap .i64 (v19_227.2.2.1 - 2))) * 1)))]? fun e303 =>
grd (CV.isI .u32 e303) <|
R_f24 _ (fun u304 =>
grd (decide (0 ≤ (IntKind.wrap .i64 (v19_227.2.2.1 - 2)))) <|
grd (decide ((IntKind.wrap .i64 (v19_227.2.2.1 - 2)) < 64)) <|
Option.bind (v19_227.2.2.2.2.2)[(0 + (0 + ((Int.toNat (IntKind.wrap .i64 (v19_227.2.2.1 - 2))) * 1)))]? fun e305 =>
grd (CV.isI .u32 e305) <|
R_f24 _ (fun u306 =>
grd (decide (0 ≤ (IntKind.wrap .i64 (v19_227.2.2.1 - 2)))) <|
grd (decide ((IntKind.wrap .i64 (v19_227.2.2.1 - 2)) < 64)) <|
Option.bind (v19_227.2.2.2.2.2)[(0 + (0 + ((Int.toNat (IntKind.wrap .i64 (v19_227.2.2.1 - 2))) * 1)))]? fun e307 =>
grd (CV.isI .u32 e307) <|
grd (decide (0 ≤ (IntKind.wrap .i64 (v19_227.2.2.1 - 16)))) <|
grd (decide ((IntKind.wrap .i64 (v19_227.2.2.1 - 16)) < 64)) <|
Option.bind (v19_227.2.2.2.2.2)[(0 + (0 + ((Int.toNat (IntKind.wrap .i64 (v19_227.2.2.1 - 16))) * 1)))]? fun e308 =>
grd (CV.isI .u32 e308) <|
grd (decide (0 ≤ (IntKind.wrap .i64 (v19_227.2.2.1 - 7)))) <|
grd (decide ((IntKind.wrap .i64 (v19_227.2.2.1 - 7)) < 64)) <|
Option.bind (v19_227.2.2.2.2.2)[(0 + (0 + ((Int.toNat (IntKind.wrap .i64 (v19_227.2.2.1 - 7))) * 1)))]? fun e309 =>
grd (CV.isI .u32 e309) <|
grd (decide (0 ≤ v19_227.2.2.1)) <|
grd (decide (v19_227.2.2.1 < 64)) <|
grd (decide ((0 + (0 + ((Int.toNat v19_227.2.2.1) * 1))) < (List.length v19_227.2.2.2.2.2))) <|
f11_J1 R_f24 k K rec5 v19_227 ((List.set v19_227.2.2.2.2.2 (0 + (0 + ((Int.toNat v19_227.2.2.1) * 1))) (CV.int .u32 (IntKind.wrap .u32 ((IntKind.wrap .u32 ((IntKind.wrap .u32 ((CV.toI e308) + (bop .xor .u32 (bop .xor .u32 u299 u301) (Int.fdiv (CV.toI e302) (2 ^ 3))))) + (CV.toI e309))) + (bop .xor .u32 (bop .xor .u32 u304 u306) (Int.fdiv (CV.toI e307) (2 ^ 10))))))))) ((CV.toI e305)) (19)) ((CV.toI e303)) (17)) ((CV.toI e300)) (18)) ((CV.toI e298)) (7))
else
grd (decide (8 ≤ (List.length v19_227.2.2.2.2.1))) <|
grd (Nat.beq (List.length (List.take 8 (List.drop 0 v19_227.2.2.2.2.1))) 8) <|
grd (decide (8 ≤ 8)) <|
loop6 (v19_227.1, v19_227.2.1, 0, v19_227.2.2.2.1, v19_227.2.2.2.2.1, v19_227.2.2.2.2.2, ((List.take 0 [(CV.int .u32 0), (CV.int .u32 0), (CV.int .u32 0), (CV.int .u32 0), (CV.int .u32 0), (CV.int .u32 0), (CV.int .u32 0), (CV.int .u32 0)]) ++ (List.take 8 (List.drop 0 v19_227.2.2.2.2.1)) ++ (List.drop 8 [(CV.int .u32 0), (CV.int .u32 0), (CV.int .u32 0), (CV.int .u32 0), (CV.int .u32 0), (CV.int .u32 0), (CV.int .u32 0), (CV.int .u32 0)]))))
def f11_L5 {X : Type} (R_f24 : f24_R) (k : Nat) (K : (List CV) → Option X) (rec4 : Nat × Int × (List CV) × (List CV) → Option X) (rec5 : Nat × Int × Int × (List CV) × (List CV) × (List CV) → Option X) (v : Nat × Int × Int × (List CV) × (List CV) × (List CV)) : Option X := f11_T5 R_f24 k K rec4 (iterV (f11_L6 R_f24 k K rec4) k) rec5 v
set_option maxRecDepth 100000 in
theorem f11_L5_ev {X : Type} (R_f24 : f24_R) (hR_f24 : AnsOk Tryd.prog 24 (f24_cOf R_f24)) (k : Nat) (K : Out → Option X) (r4 : St → Option X) (r5 : St → Option X) (v : Nat × Int × Int × (List CV) × (List CV) × (List CV)) : loopB (f11_cx R_f24 hR_f24) k [.r, .r, .r, .r, .r, .r, .r, .r, .l, .r, .b, .o, .r, .l, .b, .r, .l, .r, .b] (Tryd.f11.body.getD .skip) (retK (f11_cx R_f24 hR_f24) [] Tryd.f11.results.toList K) [r4] r5 (f11_S5 v) = f11_T5 R_f24 k (fun u => K (f11_out u)) (fun v => r4 (f11_S4 v)) (fun v => iter (loopB (f11_cx R_f24 hR_f24) k [.r, .r, .r, .r, .r, .r, .r, .r, .l, .r, .b, .o, .r, .l, .b, .r, .r, .r, .l, .r, .b] (Tryd.f11.body.getD .skip) (retK (f11_cx R_f24 hR_f24) [] Tryd.f11.results.toList K) [r4]) k (f11_S6 v)) (fun v => r5 (f11_S5 v)) v := by kernel_rfl
theorem f11_L5_it {X : Type} (R_f24 : f24_R) (hR_f24 : AnsOk Tryd.prog 24 (f24_cOf R_f24)) (k : Nat) (K : Out → Option X) (r4 : St → Option X) : (fun v => iter (loopB (f11_cx R_f24 hR_f24) k [.r, .r, .r, .r, .r, .r, .r, .r, .l, .r, .b, .o, .r, .l, .b, .r, .l, .r, .b] (Tryd.f11.body.getD .skip) (retK (f11_cx R_f24 hR_f24) [] Tryd.f11.results.toList K) [r4]) k (f11_S5 v)) = iterV (f11_L5 R_f24 k (fun u => K (f11_out u)) (fun v => r4 (f11_S4 v))) k :=
  iter_map (fun r5 v => (f11_L5_ev R_f24 hR_f24 k K r4 r5 v).trans (by rw [f11_L6_it R_f24 hR_f24 k K r4]; rfl)) k
def f11_T4 {X : Type} (R_f24 : f24_R) (k : Nat) (K : (List CV) → Option X)  (loop5 : Nat × Int × Int × (List CV) × (List CV) × (List CV) → Option X) (loop8 : Int × (List CV) × (List CV) → Option X) (rec4 : Nat × Int × (List CV) × (List CV) → Option X) (v11_7 : Nat × Int × (List CV) × (List CV)) : Option X :=
(bif (decide (v11_7.2.1 < (Nat.cast (v11_7.1) : Int))) then
grd (decide (64 ≤ 64)) <|
loop5 (v11_7.1, v11_7.2.1, 0, v11_7.2.2.1, v11_7.2.2.2, ((List.take 0 (List.replicate 64 (CV.int .u32 0))) ++ (List.replicate 64 (CV.int .u32 0)) ++ (List.drop 64 (List.replicate 64 (CV.int .u32 0)))))
else
grd (decide (32 ≤ 32)) <|
loop8 (0, v11_7.2.2.2, ((List.take 0 (List.replicate 32 (CV.int .u8 0))) ++ (List.replicate 32 (CV.int .u8 0)) ++ (List.drop 32 (List.replicate 32 (CV.int .u8 0))))))
def f11_L4 {X : Type} (R_f24 : f24_R) (k : Nat) (K : (List CV) → Option X)  (rec4 : Nat × Int × (List CV) × (List CV) → Option X) (v : Nat × Int × (List CV) × (List CV)) : Option X := f11_T4 R_f24 k K  (iterV (f11_L5 R_f24 k K rec4) k) (iterV (f11_L8 R_f24 k K ) k) rec4 v
set_option maxRecDepth 100000 in
theorem f11_L4_ev {X : Type} (R_f24 : f24_R) (hR_f24 : AnsOk Tryd.prog 24 (f24_cOf R_f24)) (k : Nat) (K : Out → Option X)  (r4 : St → Option X) (v : Nat × Int × (List CV) × (List CV)) : loopB (f11_cx R_f24 hR_f24) k [.r, .r, .r, .r, .r, .r, .r, .r, .l, .r, .b] (Tryd.f11.body.getD .skip) (retK (f11_cx R_f24 hR_f24) [] Tryd.f11.results.toList K) [] r4 (f11_S4 v) = f11_T4 R_f24 k (fun u => K (f11_out u))  (fun v => iter (loopB (f11_cx R_f24 hR_f24) k [.r, .r, .r, .r, .r, .r, .r, .r, .l, .r, .b, .o, .r, .l, .b, .r, .l, .r, .b] (Tryd.f11.body.getD .skip) (retK (f11_cx R_f24 hR_f24) [] Tryd.f11.results.toList K) [r4]) k (f11_S5 v)) (fun v => iter (loopB (f11_cx R_f24 hR_f24) k [.r, .r, .r, .r, .r, .r, .r, .r, .r, .r, .l, .r, .b] (Tryd.f11.body.getD .skip) (retK (f11_cx R_f24 hR_f24) [] Tryd.f11.results.toList K) []) k (f11_S8 v)) (fun v => r4 (f11_S4 v)) v := by kernel_rfl
theorem f11_L4_it {X : Type} (R_f24 : f24_R) (hR_f24 : AnsOk Tryd.prog 24 (f24_cOf R_f24)) (k : Nat) (K : Out → Option X)  : (fun v => iter (loopB (f11_cx R_f24 hR_f24) k [.r, .r, .r, .r, .r, .r, .r, .r, .l, .r, .b] (Tryd.f11.body.getD .skip) (retK (f11_cx R_f24 hR_f24) [] Tryd.f11.results.toList K) []) k (f11_S4 v)) = iterV (f11_L4 R_f24 k (fun u => K (f11_out u)) ) k :=
  iter_map (fun r4 v => (f11_L4_ev R_f24 hR_f24 k K  r4 v).trans (by rw [f11_L5_it R_f24 hR_f24 k K r4, f11_L8_it R_f24 hR_f24 k K ]; rfl)) k
def f11_T3 {X : Type} (R_f24 : f24_R) (k : Nat) (K : (List CV) → Option X)  (loop4 : Nat × Int × (List CV) × (List CV) → Option X) (rec3 : Nat × Int × Int × (List CV) → Option X) (v9_6 : Nat × Int × Int × (List CV)) : Option X :=
(bif (decide (v9_6.2.2.1 ≥ 0)) then
grd (decide (0 ≤ (IntKind.wrap .i64 (8 * v9_6.2.2.1)))) <|
grd (decide ((v9_6.1 + (List.length (List.take 1 (List.drop 0 [(CV.int .u8 (IntKind.wrap .u8 (Int.fdiv v9_6.2.1 (2 ^ (min (Int.toNat (IntKind.wrap .i64 (8 * v9_6.2.2.1))) 64)))))])))) * 1 ≤ 140737488355328)) <|
rec3 ((v9_6.1 + (List.length (List.take 1 (List.drop 0 [(CV.int .u8 (IntKind.wrap .u8 (Int.fdiv v9_6.2.1 (2 ^ (min (Int.toNat (IntKind.wrap .i64 (8 * v9_6.2.2.1))) 64)))))])))), v9_6.2.1, (IntKind.wrap .i64 (v9_6.2.2.1 - 1)), ((List.take v9_6.1 v9_6.2.2.2) ++ (List.take 1 (List.drop 0 [(CV.int .u8 (IntKind.wrap .u8 (Int.fdiv v9_6.2.1 (2 ^ (min (Int.toNat (IntKind.wrap .i64 (8 * v9_6.2.2.1))) 64)))))]))))
else
grd (decide (8 ≤ 8)) <|
loop4 (v9_6.1, 0, v9_6.2.2.2, ((List.take 0 [(CV.int .u32 0), (CV.int .u32 0), (CV.int .u32 0), (CV.int .u32 0), (CV.int .u32 0), (CV.int .u32 0), (CV.int .u32 0), (CV.int .u32 0)]) ++ [(CV.int .u32 1779033703), (CV.int .u32 3144134277), (CV.int .u32 1013904242), (CV.int .u32 2773480762), (CV.int .u32 1359893119), (CV.int .u32 2600822924), (CV.int .u32 528734635), (CV.int .u32 1541459225)] ++ (List.drop 8 [(CV.int .u32 0), (CV.int .u32 0), (CV.int .u32 0), (CV.int .u32 0), (CV.int .u32 0), (CV.int .u32 0), (CV.int .u32 0), (CV.int .u32 0)]))))
def f11_L3 {X : Type} (R_f24 : f24_R) (k : Nat) (K : (List CV) → Option X)  (rec3 : Nat × Int × Int × (List CV) → Option X) (v : Nat × Int × Int × (List CV)) : Option X := f11_T3 R_f24 k K  (iterV (f11_L4 R_f24 k K ) k) rec3 v
set_option maxRecDepth 100000 in
theorem f11_L3_ev {X : Type} (R_f24 : f24_R) (hR_f24 : AnsOk Tryd.prog 24 (f24_cOf R_f24)) (k : Nat) (K : Out → Option X)  (r3 : St → Option X) (v : Nat × Int × Int × (List CV)) : loopB (f11_cx R_f24 hR_f24) k [.r, .r, .r, .r, .r, .r, .l, .r, .b] (Tryd.f11.body.getD .skip) (retK (f11_cx R_f24 hR_f24) [] Tryd.f11.results.toList K) [] r3 (f11_S3 v) = f11_T3 R_f24 k (fun u => K (f11_out u))  (fun v => iter (loopB (f11_cx R_f24 hR_f24) k [.r, .r, .r, .r, .r, .r, .r, .r, .l, .r, .b] (Tryd.f11.body.getD .skip) (retK (f11_cx R_f24 hR_f24) [] Tryd.f11.results.toList K) []) k (f11_S4 v)) (fun v => r3 (f11_S3 v)) v := by kernel_rfl
theorem f11_L3_it {X : Type} (R_f24 : f24_R) (hR_f24 : AnsOk Tryd.prog 24 (f24_cOf R_f24)) (k : Nat) (K : Out → Option X)  : (fun v => iter (loopB (f11_cx R_f24 hR_f24) k [.r, .r, .r, .r, .r, .r, .l, .r, .b] (Tryd.f11.body.getD .skip) (retK (f11_cx R_f24 hR_f24) [] Tryd.f11.results.toList K) []) k (f11_S3 v)) = iterV (f11_L3 R_f24 k (fun u => K (f11_out u)) ) k :=
  iter_map (fun r3 v => (f11_L3_ev R_f24 hR_f24 k K  r3 v).trans (by rw [f11_L4_it R_f24 hR_f24 k K ]; rfl)) k
def f11_T2 {X : Type} (R_f24 : f24_R) (k : Nat) (K : (List CV) → Option X)  (loop3 : Nat × Int × Int × (List CV) → Option X) (rec2 : (List CV) × Nat × (List CV) → Option X) (v6_5 : (List CV) × Nat × (List CV)) : Option X :=
(bif ((Int.tmod (Nat.cast (v6_5.2.1) : Int) 64) != 56) then
grd (decide ((v6_5.2.1 + (List.length (List.take 1 (List.drop 0 [(CV.int .u8 0)])))) * 1 ≤ 140737488355328)) <|
rec2 (v6_5.1, (v6_5.2.1 + (List.length (List.take 1 (List.drop 0 [(CV.int .u8 0)])))), ((List.take v6_5.2.1 v6_5.2.2) ++ (List.take 1 (List.drop 0 [(CV.int .u8 0)]))))
else
loop3 (v6_5.2.1, (IntKind.wrap .u64 ((IntKind.wrap .u64 (Nat.cast ((List.length v6_5.1)) : Int)) * 8)), 7, v6_5.2.2))
def f11_L2 {X : Type} (R_f24 : f24_R) (k : Nat) (K : (List CV) → Option X)  (rec2 : (List CV) × Nat × (List CV) → Option X) (v : (List CV) × Nat × (List CV)) : Option X := f11_T2 R_f24 k K  (iterV (f11_L3 R_f24 k K ) k) rec2 v
set_option maxRecDepth 100000 in
theorem f11_L2_ev {X : Type} (R_f24 : f24_R) (hR_f24 : AnsOk Tryd.prog 24 (f24_cOf R_f24)) (k : Nat) (K : Out → Option X)  (r2 : St → Option X) (v : (List CV) × Nat × (List CV)) : loopB (f11_cx R_f24 hR_f24) k [.r, .r, .r, .r, .l, .b] (Tryd.f11.body.getD .skip) (retK (f11_cx R_f24 hR_f24) [] Tryd.f11.results.toList K) [] r2 (f11_S2 v) = f11_T2 R_f24 k (fun u => K (f11_out u))  (fun v => iter (loopB (f11_cx R_f24 hR_f24) k [.r, .r, .r, .r, .r, .r, .l, .r, .b] (Tryd.f11.body.getD .skip) (retK (f11_cx R_f24 hR_f24) [] Tryd.f11.results.toList K) []) k (f11_S3 v)) (fun v => r2 (f11_S2 v)) v := by kernel_rfl
theorem f11_L2_it {X : Type} (R_f24 : f24_R) (hR_f24 : AnsOk Tryd.prog 24 (f24_cOf R_f24)) (k : Nat) (K : Out → Option X)  : (fun v => iter (loopB (f11_cx R_f24 hR_f24) k [.r, .r, .r, .r, .l, .b] (Tryd.f11.body.getD .skip) (retK (f11_cx R_f24 hR_f24) [] Tryd.f11.results.toList K) []) k (f11_S2 v)) = iterV (f11_L2 R_f24 k (fun u => K (f11_out u)) ) k :=
  iter_map (fun r2 v => (f11_L2_ev R_f24 hR_f24 k K  r2 v).trans (by rw [f11_L3_it R_f24 hR_f24 k K ]; rfl)) k
def f11_T1 {X : Type} (R_f24 : f24_R) (k : Nat) (K : (List CV) → Option X)  (loop2 : (List CV) × Nat × (List CV) → Option X) (rec1 : (List CV) × Nat × Int × (List CV) → Option X) (v5_0 : (List CV) × Nat × Int × (List CV)) : Option X :=
(bif (decide (v5_0.2.2.1 < (Nat.cast ((List.length v5_0.1)) : Int))) then
grd (decide (0 ≤ v5_0.2.2.1)) <|
Option.bind (v5_0.1)[(Int.toNat v5_0.2.2.1)]? fun e5 =>
grd (CV.isI .u8 e5) <|
grd (decide ((v5_0.2.1 + (List.length (List.take 1 (List.drop 0 [(CV.int .u8 (CV.toI e5))])))) * 1 ≤ 140737488355328)) <|
rec1 (v5_0.1, (v5_0.2.1 + (List.length (List.take 1 (List.drop 0 [(CV.int .u8 (CV.toI e5))])))), (IntKind.wrap .i64 (v5_0.2.2.1 + 1)), ((List.take v5_0.2.1 v5_0.2.2.2) ++ (List.take 1 (List.drop 0 [(CV.int .u8 (CV.toI e5))]))))
else
grd (decide ((v5_0.2.1 + (List.length (List.take 1 (List.drop 0 [(CV.int .u8 128)])))) * 1 ≤ 140737488355328)) <|
loop2 (v5_0.1, (v5_0.2.1 + (List.length (List.take 1 (List.drop 0 [(CV.int .u8 128)])))), ((List.take v5_0.2.1 v5_0.2.2.2) ++ (List.take 1 (List.drop 0 [(CV.int .u8 128)])))))
def f11_L1 {X : Type} (R_f24 : f24_R) (k : Nat) (K : (List CV) → Option X)  (rec1 : (List CV) × Nat × Int × (List CV) → Option X) (v : (List CV) × Nat × Int × (List CV)) : Option X := f11_T1 R_f24 k K  (iterV (f11_L2 R_f24 k K ) k) rec1 v
set_option maxRecDepth 100000 in
theorem f11_L1_ev {X : Type} (R_f24 : f24_R) (hR_f24 : AnsOk Tryd.prog 24 (f24_cOf R_f24)) (k : Nat) (K : Out → Option X)  (r1 : St → Option X) (v : (List CV) × Nat × Int × (List CV)) : loopB (f11_cx R_f24 hR_f24) k [.r, .r, .l, .r, .b] (Tryd.f11.body.getD .skip) (retK (f11_cx R_f24 hR_f24) [] Tryd.f11.results.toList K) [] r1 (f11_S1 v) = f11_T1 R_f24 k (fun u => K (f11_out u))  (fun v => iter (loopB (f11_cx R_f24 hR_f24) k [.r, .r, .r, .r, .l, .b] (Tryd.f11.body.getD .skip) (retK (f11_cx R_f24 hR_f24) [] Tryd.f11.results.toList K) []) k (f11_S2 v)) (fun v => r1 (f11_S1 v)) v := by kernel_rfl
theorem f11_L1_it {X : Type} (R_f24 : f24_R) (hR_f24 : AnsOk Tryd.prog 24 (f24_cOf R_f24)) (k : Nat) (K : Out → Option X)  : (fun v => iter (loopB (f11_cx R_f24 hR_f24) k [.r, .r, .l, .r, .b] (Tryd.f11.body.getD .skip) (retK (f11_cx R_f24 hR_f24) [] Tryd.f11.results.toList K) []) k (f11_S1 v)) = iterV (f11_L1 R_f24 k (fun u => K (f11_out u)) ) k :=
  iter_map (fun r1 v => (f11_L1_ev R_f24 hR_f24 k K  r1 v).trans (by rw [f11_L2_it R_f24 hR_f24 k K ]; rfl)) k
def f11_T {X : Type} (R_f24 : f24_R) (k : Nat) (K : (List CV) → Option X) (loop1 : (List CV) × Nat × Int × (List CV) → Option X) (x0 : List CV) : Option X :=
loop1 (x0, 0, 0, [])
/-- "outpost/outpostref01.Sum" -/
def f11_A (R_f24 : f24_R) (k : Nat) : f11_R := fun X K x0 => f11_T R_f24 k K (iterV (f11_L1 R_f24 k K) k) x0
set_option maxRecDepth 100000 in
theorem f11_ev' {X : Type} (R_f24 : f24_R) (hR_f24 : AnsOk Tryd.prog 24 (f24_cOf R_f24)) (k : Nat) (K : Out → Option X) (x0 : List CV) : evFnK (f11_cx R_f24 hR_f24) [] k Tryd.f11.ntmps Tryd.f11.results.toList (Tryd.f11.body.getD .skip) [(.sl false none x0)] [] K = f11_T R_f24 k (fun u => K (f11_out u)) (fun v => iter (loopB (f11_cx R_f24 hR_f24) k [.r, .r, .l, .r, .b] (Tryd.f11.body.getD .skip) (retK (f11_cx R_f24 hR_f24) [] Tryd.f11.results.toList K) []) k (f11_S1 v)) x0 := by kernel_rfl
theorem f11_ev {X : Type} (R_f24 : f24_R) (hR_f24 : AnsOk Tryd.prog 24 (f24_cOf R_f24)) (k : Nat) (K : Out → Option X) (x0 : List CV) : evFnK (f11_cx R_f24 hR_f24) [] k Tryd.f11.ntmps Tryd.f11.results.toList (Tryd.f11.body.getD .skip) [(.sl false none x0)] [] K = f11_A R_f24 k X (fun u => K (f11_out u)) x0 := (f11_ev' R_f24 hR_f24 k K x0).trans (by rw [f11_L1_it R_f24 hR_f24 k K]; rfl)
theorem f11_okA (R_f24 : f24_R) (hR_f24 : AnsOk Tryd.prog 24 (f24_cOf R_f24)) (k : Nat) : AnsOk Tryd.prog 11 (f11_cOf (f11_A R_f24 k)) := by
  intro X xs ns K x h
  unfold f11_cOf at h ⊢
  split at h
  · exact ans_main S (f11_Cok R_f24 hR_f24) Tryd.func11 (ent_of Tryd.func11 (by kernel_rfl) rfl) rfl (fun X K => f11_ev R_f24 hR_f24 k K _) h
  · cases h
/-- "outpost/outpostref01.Sum" -/
def f11 {X : Type} (k : Nat) (K : (List CV) → Option X) (x0 : List CV) : Option X := f11_A (fun X => @f24 X k) k X K x0
theorem f11_ok (k : Nat) : AnsOk Tryd.prog 11 (f11_cOf (fun X => @f11 X k)) := f11_okA (fun X => @f24 X k) (f24_ok k) k
abbrev f3_R : Type 1 := (X : Type) → (Bool → Option X) → (List CV) → Option X
def f3_out (u : Bool) : Out := ⟨(.v (CV.bool u)), []⟩
def f3_cOf (R : f3_R) : FnC := fun X xs ns K => match xs, ns with
  | [(.sl true none x0)], [] => R X (fun u => K (f3_out u)) x0
  | _, _ => none
def f3_plan : Nat → Option (List Nat × List Wk)
  | 0 => some ([0], [])
  | 1 => some ([0], [])
  | 2 => some ([], [])
  | 3 => some ([0], [])
  | 4 => some ([], [])
  | 5 => some ([0], [])
  | 6 => some ([0, 3], [])
  | 7 => some ([0, 3, 4], [])
  | 8 => some ([0, 3, 4, 5], [])
  | 9 => some ([0, 3, 4, 5, 17, 18, 19], [])
  | 10 => some ([0, 3, 4, 5, 17, 18, 19], [])
  | 11 => some ([0, 3, 4, 5, 7, 17, 18, 19], [])
  | 12 => some ([0, 3, 4, 5, 7, 17, 18, 19], [])
  | 13 => some ([0, 3, 4, 5, 17, 18, 19], [])
  | 14 => some ([0, 3, 4, 5], [])
  | _ => none
def f3_C (R_f9 : f9_R) (R_f10 : f10_R) (R_f12 : f12_R) (R_f11 : f11_R) (R_f13 : f13_R) (R_f14 : f14_R) (R_f15 : f15_R) (R_f16 : f16_R) (R_f17 : f17_R) : Fns := (orC 9 (f9_cOf R_f9) (orC 10 (f10_cOf R_f10) (orC 11 (f11_cOf R_f11) (orC 12 (f12_cOf R_f12) (orC 13 (f13_cOf R_f13) (orC 14 (f14_cOf R_f14) (orC 15 (f15_cOf R_f15) (orC 16 (f16_cOf R_f16) (orC 17 (f17_cOf R_f17) noC)))))))))
theorem f3_Cok (R_f9 : f9_R) (R_f10 : f10_R) (R_f12 : f12_R) (R_f11 : f11_R) (R_f13 : f13_R) (R_f14 : f14_R) (R_f15 : f15_R) (R_f16 : f16_R) (R_f17 : f17_R) (hR_f9 : AnsOk Tryd.prog 9 (f9_cOf R_f9)) (hR_f10 : AnsOk Tryd.prog 10 (f10_cOf R_f10)) (hR_f12 : AnsOk Tryd.prog 12 (f12_cOf R_f12)) (hR_f11 : AnsOk Tryd.prog 11 (f11_cOf R_f11)) (hR_f13 : AnsOk Tryd.prog 13 (f13_cOf R_f13)) (hR_f14 : AnsOk Tryd.prog 14 (f14_cOf R_f14)) (hR_f15 : AnsOk Tryd.prog 15 (f15_cOf R_f15)) (hR_f16 : AnsOk Tryd.prog 16 (f16_cOf R_f16)) (hR_f17 : AnsOk Tryd.prog 17 (f17_cOf R_f17)) : CsOk Tryd.prog (f3_C R_f9 R_f10 R_f12 R_f11 R_f13 R_f14 R_f15 R_f16 R_f17) := (orC_ok hR_f9 (orC_ok hR_f10 (orC_ok hR_f11 (orC_ok hR_f12 (orC_ok hR_f13 (orC_ok hR_f14 (orC_ok hR_f15 (orC_ok hR_f16 (orC_ok hR_f17 noC_ok)))))))))
def f3_cx (R_f9 : f9_R) (R_f10 : f10_R) (R_f12 : f12_R) (R_f11 : f11_R) (R_f13 : f13_R) (R_f14 : f14_R) (R_f15 : f15_R) (R_f16 : f16_R) (R_f17 : f17_R) (hR_f9 : AnsOk Tryd.prog 9 (f9_cOf R_f9)) (hR_f10 : AnsOk Tryd.prog 10 (f10_cOf R_f10)) (hR_f12 : AnsOk Tryd.prog 12 (f12_cOf R_f12)) (hR_f11 : AnsOk Tryd.prog 11 (f11_cOf R_f11)) (hR_f13 : AnsOk Tryd.prog 13 (f13_cOf R_f13)) (hR_f14 : AnsOk Tryd.prog 14 (f14_cOf R_f14)) (hR_f15 : AnsOk Tryd.prog 15 (f15_cOf R_f15)) (hR_f16 : AnsOk Tryd.prog 16 (f16_cOf R_f16)) (hR_f17 : AnsOk Tryd.prog 17 (f17_cOf R_f17)) : Cx := mkCx (tabOf rows) (f3_C R_f9 R_f10 R_f12 R_f11 R_f13 R_f14 R_f15 R_f16 R_f17) md (cmpIn cmps) f3_plan (f3_Cok R_f9 R_f10 R_f12 R_f11 R_f13 R_f14 R_f15 R_f16 R_f17 hR_f9 hR_f10 hR_f12 hR_f11 hR_f13 hR_f14 hR_f15 hR_f16 hR_f17)
def f3_S1 (v : (List CV) × Int × (List CV) × Int × Int × (List CV) × (List CV)) : St := ⟨[(.sl true none v.1), .undef, .undef, (.ptr [3] 1 0 0), (.ptr [16] 1 0 0), (.v (CV.int .i64 v.2.1)), .undef, .undef, .undef, .undef, .undef, .undef, .undef, .undef, .undef, .undef, .undef, (.sl true none v.2.2.1), (.v (CV.int .i64 v.2.2.2.1)), (.v (CV.int .i64 v.2.2.2.2.1)), .undef, .undef, .undef, .undef, .undef, .undef, .undef, .undef, .undef, .undef, .undef, .undef, .undef, .undef, .undef, .undef, .undef, .undef, .undef, .undef, .undef, .undef, .undef, .undef, .undef, .undef, .undef], [([3], (.row false none v.2.2.2.2.2.1)), ([16], (.row false none v.2.2.2.2.2.2))]⟩
def f3_T1 {X : Type} (R_f9 : f9_R) (R_f10 : f10_R) (R_f12 : f12_R) (R_f11 : f11_R) (R_f13 : f13_R) (R_f14 : f14_R) (R_f15 : f15_R) (R_f16 : f16_R) (R_f17 : f17_R) (k : Nat) (K : Bool → Option X)   (rec1 : (List CV) × Int × (List CV) × Int × Int × (List CV) × (List CV) → Option X) (v9_7 : (List CV) × Int × (List CV) × Int × Int × (List CV) × (List CV)) : Option X :=
(bif (decide (v9_7.2.2.2.2.1 < v9_7.2.2.2.1)) then
grd (decide (0 ≤ v9_7.2.2.2.2.1)) <|
Option.bind (v9_7.2.2.1)[(Int.toNat v9_7.2.2.2.2.1)]? fun e15 =>
grd (CV.isL none e15) <|
R_f14 _ (fun u16 =>
rec1 (v9_7.1, (IntKind.wrap .i64 (v9_7.2.1 + (Nat.cast ((List.length (CV.toL e15))) : Int))), v9_7.2.2.1, v9_7.2.2.2.1, (IntKind.wrap .i64 (v9_7.2.2.2.2.1 + 1)), v9_7.2.2.2.2.2.1, u16)) ((CV.toL e15)) (v9_7.2.2.2.2.2.2)
else
R_f15 _ (fun u17 =>
grd (decide (32 ≤ (List.length v9_7.2.2.2.2.2.1))) <|
grd (numsAre .u8 32 u17 && numsAre .u8 32 (List.take 32 (List.drop 0 v9_7.2.2.2.2.2.1))) <|
(bif (intsOf u17 == intsOf (List.take 32 (List.drop 0 v9_7.2.2.2.2.2.1))) then
R_f16 _ (fun u18 =>
grd (decide (32 ≤ (List.length v9_7.2.2.2.2.2.1))) <|
grd (numsAre .u8 32 u18.1 && numsAre .u8 32 (List.take 32 (List.drop 0 v9_7.2.2.2.2.2.1))) <|
(bif (intsOf u18.1 == intsOf (List.take 32 (List.drop 0 v9_7.2.2.2.2.2.1))) then
R_f17 _ (fun u19 =>
K ((u19.1 == v9_7.2.1))) (u18.2)
else
K (false))) (v9_7.2.2.2.2.2.2)
else
K (false))) (v9_7.1))
def f3_L1 {X : Type} (R_f9 : f9_R) (R_f10 : f10_R) (R_f12 : f12_R) (R_f11 : f11_R) (R_f13 : f13_R) (R_f14 : f14_R) (R_f15 : f15_R) (R_f16 : f16_R) (R_f17 : f17_R) (k : Nat) (K : Bool → Option X)  (rec1 : (List CV) × Int × (List CV) × Int × Int × (List CV) × (List CV) → Option X) (v : (List CV) × Int × (List CV) × Int × Int × (List CV) × (List CV)) : Option X := f3_T1 R_f9 R_f10 R_f12 R_f11 R_f13 R_f14 R_f15 R_f16 R_f17 k K   rec1 v
set_option maxRecDepth 100000 in
theorem f3_L1_ev {X : Type} (R_f9 : f9_R) (R_f10 : f10_R) (R_f12 : f12_R) (R_f11 : f11_R) (R_f13 : f13_R) (R_f14 : f14_R) (R_f15 : f15_R) (R_f16 : f16_R) (R_f17 : f17_R) (hR_f9 : AnsOk Tryd.prog 9 (f9_cOf R_f9)) (hR_f10 : AnsOk Tryd.prog 10 (f10_cOf R_f10)) (hR_f12 : AnsOk Tryd.prog 12 (f12_cOf R_f12)) (hR_f11 : AnsOk Tryd.prog 11 (f11_cOf R_f11)) (hR_f13 : AnsOk Tryd.prog 13 (f13_cOf R_f13)) (hR_f14 : AnsOk Tryd.prog 14 (f14_cOf R_f14)) (hR_f15 : AnsOk Tryd.prog 15 (f15_cOf R_f15)) (hR_f16 : AnsOk Tryd.prog 16 (f16_cOf R_f16)) (hR_f17 : AnsOk Tryd.prog 17 (f17_cOf R_f17)) (k : Nat) (K : Out → Option X)  (r1 : St → Option X) (v : (List CV) × Int × (List CV) × Int × Int × (List CV) × (List CV)) : loopB (f3_cx R_f9 R_f10 R_f12 R_f11 R_f13 R_f14 R_f15 R_f16 R_f17 hR_f9 hR_f10 hR_f12 hR_f11 hR_f13 hR_f14 hR_f15 hR_f16 hR_f17) k [.r, .r, .r, .r, .r, .r, .l, .r, .b] (Tryd.f3.body.getD .skip) (retK (f3_cx R_f9 R_f10 R_f12 R_f11 R_f13 R_f14 R_f15 R_f16 R_f17 hR_f9 hR_f10 hR_f12 hR_f11 hR_f13 hR_f14 hR_f15 hR_f16 hR_f17) [] Tryd.f3.results.toList K) [] r1 (f3_S1 v) = f3_T1 R_f9 R_f10 R_f12 R_f11 R_f13 R_f14 R_f15 R_f16 R_f17 k (fun u => K (f3_out u))   (fun v => r1 (f3_S1 v)) v := by kernel_rfl
theorem f3_L1_it {X : Type} (R_f9 : f9_R) (R_f10 : f10_R) (R_f12 : f12_R) (R_f11 : f11_R) (R_f13 : f13_R) (R_f14 : f14_R) (R_f15 : f15_R) (R_f16 : f16_R) (R_f17 : f17_R) (hR_f9 : AnsOk Tryd.prog 9 (f9_cOf R_f9)) (hR_f10 : AnsOk Tryd.prog 10 (f10_cOf R_f10)) (hR_f12 : AnsOk Tryd.prog 12 (f12_cOf R_f12)) (hR_f11 : AnsOk Tryd.prog 11 (f11_cOf R_f11)) (hR_f13 : AnsOk Tryd.prog 13 (f13_cOf R_f13)) (hR_f14 : AnsOk Tryd.prog 14 (f14_cOf R_f14)) (hR_f15 : AnsOk Tryd.prog 15 (f15_cOf R_f15)) (hR_f16 : AnsOk Tryd.prog 16 (f16_cOf R_f16)) (hR_f17 : AnsOk Tryd.prog 17 (f17_cOf R_f17)) (k : Nat) (K : Out → Option X)  : (fun v => iter (loopB (f3_cx R_f9 R_f10 R_f12 R_f11 R_f13 R_f14 R_f15 R_f16 R_f17 hR_f9 hR_f10 hR_f12 hR_f11 hR_f13 hR_f14 hR_f15 hR_f16 hR_f17) k [.r, .r, .r, .r, .r, .r, .l, .r, .b] (Tryd.f3.body.getD .skip) (retK (f3_cx R_f9 R_f10 R_f12 R_f11 R_f13 R_f14 R_f15 R_f16 R_f17 hR_f9 hR_f10 hR_f12 hR_f11 hR_f13 hR_f14 hR_f15 hR_f16 hR_f17) [] Tryd.f3.results.toList K) []) k (f3_S1 v)) = iterV (f3_L1 R_f9 R_f10 R_f12 R_f11 R_f13 R_f14 R_f15 R_f16 R_f17 k (fun u => K (f3_out u)) ) k :=
  iter_map (fun r1 v => (f3_L1_ev R_f9 R_f10 R_f12 R_f11 R_f13 R_f14 R_f15 R_f16 R_f17 hR_f9 hR_f10 hR_f12 hR_f11 hR_f13 hR_f14 hR_f15 hR_f16 hR_f17 k K  r1 v).trans rfl) k
def f3_T {X : Type} (R_f9 : f9_R) (R_f10 : f10_R) (R_f12 : f12_R) (R_f11 : f11_R) (R_f13 : f13_R) (R_f14 : f14_R) (R_f15 : f15_R) (R_f16 : f16_R) (R_f17 : f17_R) (k : Nat) (K : Bool → Option X) (loop1 : (List CV) × Int × (List CV) × Int × Int × (List CV) × (List CV) → Option X) (x0 : List CV) : Option X :=
R_f9 _ (fun u2 =>
(bif (!u2) then
K (false)
else
R_f10 _ (fun u4 =>
(bif (!u4) then
K (true)
else
R_f12 _ (fun u5 =>
R_f11 _ (fun u6 =>
grd (Nat.beq (List.length u6) 32) <|
grd (decide (32 ≤ 32)) <|
R_f13 _ (fun u7 =>
loop1 (x0, 0, x0, (Nat.cast ((List.length x0)) : Int), 0, ((List.take 0 (List.replicate 32 (CV.int .u8 0))) ++ u6 ++ (List.drop 32 (List.replicate 32 (CV.int .u8 0)))), u7)) ) ((List.take u5.1 (List.drop 0 u5.2)))) (x0))) (x0) (8) (2000))) 
/-- "outpost/outpostlaw01.ShaSums" -/
def f3_A (R_f9 : f9_R) (R_f10 : f10_R) (R_f12 : f12_R) (R_f11 : f11_R) (R_f13 : f13_R) (R_f14 : f14_R) (R_f15 : f15_R) (R_f16 : f16_R) (R_f17 : f17_R) (k : Nat) : f3_R := fun X K x0 => f3_T R_f9 R_f10 R_f12 R_f11 R_f13 R_f14 R_f15 R_f16 R_f17 k K (iterV (f3_L1 R_f9 R_f10 R_f12 R_f11 R_f13 R_f14 R_f15 R_f16 R_f17 k K) k) x0
set_option maxRecDepth 100000 in
theorem f3_ev' {X : Type} (R_f9 : f9_R) (R_f10 : f10_R) (R_f12 : f12_R) (R_f11 : f11_R) (R_f13 : f13_R) (R_f14 : f14_R) (R_f15 : f15_R) (R_f16 : f16_R) (R_f17 : f17_R) (hR_f9 : AnsOk Tryd.prog 9 (f9_cOf R_f9)) (hR_f10 : AnsOk Tryd.prog 10 (f10_cOf R_f10)) (hR_f12 : AnsOk Tryd.prog 12 (f12_cOf R_f12)) (hR_f11 : AnsOk Tryd.prog 11 (f11_cOf R_f11)) (hR_f13 : AnsOk Tryd.prog 13 (f13_cOf R_f13)) (hR_f14 : AnsOk Tryd.prog 14 (f14_cOf R_f14)) (hR_f15 : AnsOk Tryd.prog 15 (f15_cOf R_f15)) (hR_f16 : AnsOk Tryd.prog 16 (f16_cOf R_f16)) (hR_f17 : AnsOk Tryd.prog 17 (f17_cOf R_f17)) (k : Nat) (K : Out → Option X) (x0 : List CV) : evFnK (f3_cx R_f9 R_f10 R_f12 R_f11 R_f13 R_f14 R_f15 R_f16 R_f17 hR_f9 hR_f10 hR_f12 hR_f11 hR_f13 hR_f14 hR_f15 hR_f16 hR_f17) [] k Tryd.f3.ntmps Tryd.f3.results.toList (Tryd.f3.body.getD .skip) [(.sl true none x0)] [] K = f3_T R_f9 R_f10 R_f12 R_f11 R_f13 R_f14 R_f15 R_f16 R_f17 k (fun u => K (f3_out u)) (fun v => iter (loopB (f3_cx R_f9 R_f10 R_f12 R_f11 R_f13 R_f14 R_f15 R_f16 R_f17 hR_f9 hR_f10 hR_f12 hR_f11 hR_f13 hR_f14 hR_f15 hR_f16 hR_f17) k [.r, .r, .r, .r, .r, .r, .l, .r, .b] (Tryd.f3.body.getD .skip) (retK (f3_cx R_f9 R_f10 R_f12 R_f11 R_f13 R_f14 R_f15 R_f16 R_f17 hR_f9 hR_f10 hR_f12 hR_f11 hR_f13 hR_f14 hR_f15 hR_f16 hR_f17) [] Tryd.f3.results.toList K) []) k (f3_S1 v)) x0 := by kernel_rfl
theorem f3_ev {X : Type} (R_f9 : f9_R) (R_f10 : f10_R) (R_f12 : f12_R) (R_f11 : f11_R) (R_f13 : f13_R) (R_f14 : f14_R) (R_f15 : f15_R) (R_f16 : f16_R) (R_f17 : f17_R) (hR_f9 : AnsOk Tryd.prog 9 (f9_cOf R_f9)) (hR_f10 : AnsOk Tryd.prog 10 (f10_cOf R_f10)) (hR_f12 : AnsOk Tryd.prog 12 (f12_cOf R_f12)) (hR_f11 : AnsOk Tryd.prog 11 (f11_cOf R_f11)) (hR_f13 : AnsOk Tryd.prog 13 (f13_cOf R_f13)) (hR_f14 : AnsOk Tryd.prog 14 (f14_cOf R_f14)) (hR_f15 : AnsOk Tryd.prog 15 (f15_cOf R_f15)) (hR_f16 : AnsOk Tryd.prog 16 (f16_cOf R_f16)) (hR_f17 : AnsOk Tryd.prog 17 (f17_cOf R_f17)) (k : Nat) (K : Out → Option X) (x0 : List CV) : evFnK (f3_cx R_f9 R_f10 R_f12 R_f11 R_f13 R_f14 R_f15 R_f16 R_f17 hR_f9 hR_f10 hR_f12 hR_f11 hR_f13 hR_f14 hR_f15 hR_f16 hR_f17) [] k Tryd.f3.ntmps Tryd.f3.results.toList (Tryd.f3.body.getD .skip) [(.sl true none x0)] [] K = f3_A R_f9 R_f10 R_f12 R_f11 R_f13 R_f14 R_f15 R_f16 R_f17 k X (fun u => K (f3_out u)) x0 := (f3_ev' R_f9 R_f10 R_f12 R_f11 R_f13 R_f14 R_f15 R_f16 R_f17 hR_f9 hR_f10 hR_f12 hR_f11 hR_f13 hR_f14 hR_f15 hR_f16 hR_f17 k K x0).trans (by rw [f3_L1_it R_f9 R_f10 R_f12 R_f11 R_f13 R_f14 R_f15 R_f16 R_f17 hR_f9 hR_f10 hR_f12 hR_f11 hR_f13 hR_f14 hR_f15 hR_f16 hR_f17 k K]; rfl)
theorem f3_okA (R_f9 : f9_R) (R_f10 : f10_R) (R_f12 : f12_R) (R_f11 : f11_R) (R_f13 : f13_R) (R_f14 : f14_R) (R_f15 : f15_R) (R_f16 : f16_R) (R_f17 : f17_R) (hR_f9 : AnsOk Tryd.prog 9 (f9_cOf R_f9)) (hR_f10 : AnsOk Tryd.prog 10 (f10_cOf R_f10)) (hR_f12 : AnsOk Tryd.prog 12 (f12_cOf R_f12)) (hR_f11 : AnsOk Tryd.prog 11 (f11_cOf R_f11)) (hR_f13 : AnsOk Tryd.prog 13 (f13_cOf R_f13)) (hR_f14 : AnsOk Tryd.prog 14 (f14_cOf R_f14)) (hR_f15 : AnsOk Tryd.prog 15 (f15_cOf R_f15)) (hR_f16 : AnsOk Tryd.prog 16 (f16_cOf R_f16)) (hR_f17 : AnsOk Tryd.prog 17 (f17_cOf R_f17)) (k : Nat) : AnsOk Tryd.prog 3 (f3_cOf (f3_A R_f9 R_f10 R_f12 R_f11 R_f13 R_f14 R_f15 R_f16 R_f17 k)) := by
  intro X xs ns K x h
  unfold f3_cOf at h ⊢
  split at h
  · exact ans_main S (f3_Cok R_f9 R_f10 R_f12 R_f11 R_f13 R_f14 R_f15 R_f16 R_f17 hR_f9 hR_f10 hR_f12 hR_f11 hR_f13 hR_f14 hR_f15 hR_f16 hR_f17) Tryd.func3 (ent_of Tryd.func3 (by kernel_rfl) rfl) rfl (fun X K => f3_ev R_f9 R_f10 R_f12 R_f11 R_f13 R_f14 R_f15 R_f16 R_f17 hR_f9 hR_f10 hR_f12 hR_f11 hR_f13 hR_f14 hR_f15 hR_f16 hR_f17 k K _) h
  · cases h
/-- "outpost/outpostlaw01.ShaSums" -/
def f3 {X : Type} (k : Nat) (K : Bool → Option X) (x0 : List CV) : Option X := f3_A (fun X => @f9 X k) (fun X => @f10 X k) (fun X => @f12 X k) (fun X => @f11 X k) (fun X => @f13 X k) (fun X => @f14 X k) (fun X => @f15 X k) (fun X => @f16 X k) (fun X => @f17 X k) k X K x0
theorem f3_ok (k : Nat) : AnsOk Tryd.prog 3 (f3_cOf (fun X => @f3 X k)) := f3_okA (fun X => @f9 X k) (fun X => @f10 X k) (fun X => @f12 X k) (fun X => @f11 X k) (fun X => @f13 X k) (fun X => @f14 X k) (fun X => @f15 X k) (fun X => @f16 X k) (fun X => @f17 X k) (f9_ok k) (f10_ok k) (f12_ok k) (f11_ok k) (f13_ok k) (f14_ok k) (f15_ok k) (f16_ok k) (f17_ok k) k
abbrev f8_R : Type 1 := (X : Type) → (Bool → Option X) → (List CV) → Int → Option X
def f8_out (u : Bool) : Out := ⟨(.v (CV.bool u)), []⟩
def f8_cOf (R : f8_R) : FnC := fun X xs ns K => match xs, ns with
  | [(.sl true none x0), (.v (CV.int .i64 x1))], [] => R X (fun u => K (f8_out u)) x0 x1
  | _, _ => none
def f8_plan : Nat → Option (List Nat × List Wk)
  | 0 => some ([0, 1], [])
  | 1 => some ([0, 1], [])
  | 2 => some ([], [])
  | 3 => some ([0, 1], [])
  | 4 => some ([], [])
  | 5 => some ([0, 1], [])
  | 6 => some ([0, 1, 5], [])
  | 7 => some ([0, 1, 5, 6], [])
  | 8 => some ([0, 1, 5, 6, 7], [])
  | 9 => some ([0, 1, 5, 6, 7], [])
  | 10 => some ([0, 1, 5, 6, 7], [])
  | 11 => some ([0, 1, 5, 6, 7], [])
  | 12 => some ([0, 1, 5, 6, 7], [])
  | 13 => some ([], [])
  | 14 => some ([], [])
  | _ => none
def f8_C (R_f9 : f9_R) (R_f13 : f13_R) (R_f14 : f14_R) (R_f16 : f16_R) (R_f11 : f11_R) (R_f17 : f17_R) : Fns := (orC 9 (f9_cOf R_f9) (orC 11 (f11_cOf R_f11) (orC 13 (f13_cOf R_f13) (orC 14 (f14_cOf R_f14) (orC 16 (f16_cOf R_f16) (orC 17 (f17_cOf R_f17) noC))))))
theorem f8_Cok (R_f9 : f9_R) (R_f13 : f13_R) (R_f14 : f14_R) (R_f16 : f16_R) (R_f11 : f11_R) (R_f17 : f17_R) (hR_f9 : AnsOk Tryd.prog 9 (f9_cOf R_f9)) (hR_f13 : AnsOk Tryd.prog 13 (f13_cOf R_f13)) (hR_f14 : AnsOk Tryd.prog 14 (f14_cOf R_f14)) (hR_f16 : AnsOk Tryd.prog 16 (f16_cOf R_f16)) (hR_f11 : AnsOk Tryd.prog 11 (f11_cOf R_f11)) (hR_f17 : AnsOk Tryd.prog 17 (f17_cOf R_f17)) : CsOk Tryd.prog (f8_C R_f9 R_f13 R_f14 R_f16 R_f11 R_f17) := (orC_ok hR_f9 (orC_ok hR_f11 (orC_ok hR_f13 (orC_ok hR_f14 (orC_ok hR_f16 (orC_ok hR_f17 noC_ok))))))
def f8_cx (R_f9 : f9_R) (R_f13 : f13_R) (R_f14 : f14_R) (R_f16 : f16_R) (R_f11 : f11_R) (R_f17 : f17_R) (hR_f9 : AnsOk Tryd.prog 9 (f9_cOf R_f9)) (hR_f13 : AnsOk Tryd.prog 13 (f13_cOf R_f13)) (hR_f14 : AnsOk Tryd.prog 14 (f14_cOf R_f14)) (hR_f16 : AnsOk Tryd.prog 16 (f16_cOf R_f16)) (hR_f11 : AnsOk Tryd.prog 11 (f11_cOf R_f11)) (hR_f17 : AnsOk Tryd.prog 17 (f17_cOf R_f17)) : Cx := mkCx (tabOf rows) (f8_C R_f9 R_f13 R_f14 R_f16 R_f11 R_f17) md (cmpIn cmps) f8_plan (f8_Cok R_f9 R_f13 R_f14 R_f16 R_f11 R_f17 hR_f9 hR_f13 hR_f14 hR_f16 hR_f11 hR_f17)
def f8_S1 (v : (List CV) × Int × Nat × Int × (List CV) × (List CV)) : St := ⟨[(.sl true none v.1), (.v (CV.int .i64 v.2.1)), .undef, .undef, .undef, (.ptr [13] 1 0 0), (.osl [6] none 0 v.2.2.1), (.v (CV.int .i64 v.2.2.2.1)), .undef, .undef, .undef, .undef, .undef, .undef, .undef, .undef, .undef, .undef, .undef, .undef, .undef, .undef, .undef, .undef, .undef, .undef, .undef, .undef, .undef, .undef, .undef, .undef, .undef, .undef, .undef, .undef, .undef, .undef, .undef, .undef], [([6], (.row false none v.2.2.2.2.1)), ([13], (.row false none v.2.2.2.2.2))]⟩
def f8_T1 {X : Type} (R_f9 : f9_R) (R_f13 : f13_R) (R_f14 : f14_R) (R_f16 : f16_R) (R_f11 : f11_R) (R_f17 : f17_R) (k : Nat) (K : Bool → Option X)   (rec1 : (List CV) × Int × Nat × Int × (List CV) × (List CV) → Option X) (v8_3 : (List CV) × Int × Nat × Int × (List CV) × (List CV)) : Option X :=
(bif (decide (v8_3.2.2.2.1 < (IntKind.wrap .i64 ((bop .and .i64 v8_3.2.1 15) + 1)))) then
R_f14 _ (fun u17 =>
grd (decide ((v8_3.2.2.1 + (List.length v8_3.1)) * 1 ≤ 140737488355328)) <|
R_f16 _ (fun u18 =>
R_f11 _ (fun u19 =>
grd (numsAre .u8 32 u18.1 && numsAre .u8 32 u19) <|
(bif (!(intsOf u18.1 == intsOf u19)) then
K (false)
else
R_f17 _ (fun u20 =>
(bif (u20.1 != (Nat.cast ((v8_3.2.2.1 + (List.length v8_3.1))) : Int)) then
K (false)
else
rec1 (v8_3.1, v8_3.2.1, (v8_3.2.2.1 + (List.length v8_3.1)), (IntKind.wrap .i64 (v8_3.2.2.2.1 + 1)), ((List.take v8_3.2.2.1 v8_3.2.2.2.2.1) ++ v8_3.1), u20.2))) (u18.2))) ((List.take (v8_3.2.2.1 + (List.length v8_3.1)) (List.drop 0 ((List.take v8_3.2.2.1 v8_3.2.2.2.2.1) ++ v8_3.1))))) (u17)) (v8_3.1) (v8_3.2.2.2.2.2)
else
K (true))
def f8_L1 {X : Type} (R_f9 : f9_R) (R_f13 : f13_R) (R_f14 : f14_R) (R_f16 : f16_R) (R_f11 : f11_R) (R_f17 : f17_R) (k : Nat) (K : Bool → Option X)  (rec1 : (List CV) × Int × Nat × Int × (List CV) × (List CV) → Option X) (v : (List CV) × Int × Nat × Int × (List CV) × (List CV)) : Option X := f8_T1 R_f9 R_f13 R_f14 R_f16 R_f11 R_f17 k K   rec1 v
set_option maxRecDepth 100000 in
theorem f8_L1_ev {X : Type} (R_f9 : f9_R) (R_f13 : f13_R) (R_f14 : f14_R) (R_f16 : f16_R) (R_f11 : f11_R) (R_f17 : f17_R) (hR_f9 : AnsOk Tryd.prog 9 (f9_cOf R_f9)) (hR_f13 : AnsOk Tryd.prog 13 (f13_cOf R_f13)) (hR_f14 : AnsOk Tryd.prog 14 (f14_cOf R_f14)) (hR_f16 : AnsOk Tryd.prog 16 (f16_cOf R_f16)) (hR_f11 : AnsOk Tryd.prog 11 (f11_cOf R_f11)) (hR_f17 : AnsOk Tryd.prog 17 (f17_cOf R_f17)) (k : Nat) (K : Out → Option X)  (r1 : St → Option X) (v : (List CV) × Int × Nat × Int × (List CV) × (List CV)) : loopB (f8_cx R_f9 R_f13 R_f14 R_f16 R_f11 R_f17 hR_f9 hR_f13 hR_f14 hR_f16 hR_f11 hR_f17) k [.r, .r, .r, .r, .r, .l, .r, .b] (Tryd.f8.body.getD .skip) (retK (f8_cx R_f9 R_f13 R_f14 R_f16 R_f11 R_f17 hR_f9 hR_f13 hR_f14 hR_f16 hR_f11 hR_f17) [] Tryd.f8.results.toList K) [] r1 (f8_S1 v) = f8_T1 R_f9 R_f13 R_f14 R_f16 R_f11 R_f17 k (fun u => K (f8_out u))   (fun v => r1 (f8_S1 v)) v := by kernel_rfl
theorem f8_L1_it {X : Type} (R_f9 : f9_R) (R_f13 : f13_R) (R_f14 : f14_R) (R_f16 : f16_R) (R_f11 : f11_R) (R_f17 : f17_R) (hR_f9 : AnsOk Tryd.prog 9 (f9_cOf R_f9)) (hR_f13 : AnsOk Tryd.prog 13 (f13_cOf R_f13)) (hR_f14 : AnsOk Tryd.prog 14 (f14_cOf R_f14)) (hR_f16 : AnsOk Tryd.prog 16 (f16_cOf R_f16)) (hR_f11 : AnsOk Tryd.prog 11 (f11_cOf R_f11)) (hR_f17 : AnsOk Tryd.prog 17 (f17_cOf R_f17)) (k : Nat) (K : Out → Option X)  : (fun v => iter (loopB (f8_cx R_f9 R_f13 R_f14 R_f16 R_f11 R_f17 hR_f9 hR_f13 hR_f14 hR_f16 hR_f11 hR_f17) k [.r, .r, .r, .r, .r, .l, .r, .b] (Tryd.f8.body.getD .skip) (retK (f8_cx R_f9 R_f13 R_f14 R_f16 R_f11 R_f17 hR_f9 hR_f13 hR_f14 hR_f16 hR_f11 hR_f17) [] Tryd.f8.results.toList K) []) k (f8_S1 v)) = iterV (f8_L1 R_f9 R_f13 R_f14 R_f16 R_f11 R_f17 k (fun u => K (f8_out u)) ) k :=
  iter_map (fun r1 v => (f8_L1_ev R_f9 R_f13 R_f14 R_f16 R_f11 R_f17 hR_f9 hR_f13 hR_f14 hR_f16 hR_f11 hR_f17 k K  r1 v).trans rfl) k
def f8_T {X : Type} (R_f9 : f9_R) (R_f13 : f13_R) (R_f14 : f14_R) (R_f16 : f16_R) (R_f11 : f11_R) (R_f17 : f17_R) (k : Nat) (K : Bool → Option X) (loop1 : (List CV) × Int × Nat × Int × (List CV) × (List CV) → Option X) (x0 : List CV) (x1 : Int) : Option X :=
R_f9 _ (fun u2 =>
(bif (!u2) then
K (false)
else
(bif (decide ((Nat.cast ((List.length x0)) : Int) > 100)) then
K (true)
else
R_f13 _ (fun u3 =>
loop1 (x0, x1, 0, 0, [], u3)) ))) 
/-- "outpost/outpostlaw01.ShaLong" -/
def f8_A (R_f9 : f9_R) (R_f13 : f13_R) (R_f14 : f14_R) (R_f16 : f16_R) (R_f11 : f11_R) (R_f17 : f17_R) (k : Nat) : f8_R := fun X K x0 x1 => f8_T R_f9 R_f13 R_f14 R_f16 R_f11 R_f17 k K (iterV (f8_L1 R_f9 R_f13 R_f14 R_f16 R_f11 R_f17 k K) k) x0 x1
set_option maxRecDepth 100000 in
theorem f8_ev' {X : Type} (R_f9 : f9_R) (R_f13 : f13_R) (R_f14 : f14_R) (R_f16 : f16_R) (R_f11 : f11_R) (R_f17 : f17_R) (hR_f9 : AnsOk Tryd.prog 9 (f9_cOf R_f9)) (hR_f13 : AnsOk Tryd.prog 13 (f13_cOf R_f13)) (hR_f14 : AnsOk Tryd.prog 14 (f14_cOf R_f14)) (hR_f16 : AnsOk Tryd.prog 16 (f16_cOf R_f16)) (hR_f11 : AnsOk Tryd.prog 11 (f11_cOf R_f11)) (hR_f17 : AnsOk Tryd.prog 17 (f17_cOf R_f17)) (k : Nat) (K : Out → Option X) (x0 : List CV) (x1 : Int) : evFnK (f8_cx R_f9 R_f13 R_f14 R_f16 R_f11 R_f17 hR_f9 hR_f13 hR_f14 hR_f16 hR_f11 hR_f17) [] k Tryd.f8.ntmps Tryd.f8.results.toList (Tryd.f8.body.getD .skip) [(.sl true none x0), (.v (CV.int .i64 x1))] [] K = f8_T R_f9 R_f13 R_f14 R_f16 R_f11 R_f17 k (fun u => K (f8_out u)) (fun v => iter (loopB (f8_cx R_f9 R_f13 R_f14 R_f16 R_f11 R_f17 hR_f9 hR_f13 hR_f14 hR_f16 hR_f11 hR_f17) k [.r, .r, .r, .r, .r, .l, .r, .b] (Tryd.f8.body.getD .skip) (retK (f8_cx R_f9 R_f13 R_f14 R_f16 R_f11 R_f17 hR_f9 hR_f13 hR_f14 hR_f16 hR_f11 hR_f17) [] Tryd.f8.results.toList K) []) k (f8_S1 v)) x0 x1 := by kernel_rfl
theorem f8_ev {X : Type} (R_f9 : f9_R) (R_f13 : f13_R) (R_f14 : f14_R) (R_f16 : f16_R) (R_f11 : f11_R) (R_f17 : f17_R) (hR_f9 : AnsOk Tryd.prog 9 (f9_cOf R_f9)) (hR_f13 : AnsOk Tryd.prog 13 (f13_cOf R_f13)) (hR_f14 : AnsOk Tryd.prog 14 (f14_cOf R_f14)) (hR_f16 : AnsOk Tryd.prog 16 (f16_cOf R_f16)) (hR_f11 : AnsOk Tryd.prog 11 (f11_cOf R_f11)) (hR_f17 : AnsOk Tryd.prog 17 (f17_cOf R_f17)) (k : Nat) (K : Out → Option X) (x0 : List CV) (x1 : Int) : evFnK (f8_cx R_f9 R_f13 R_f14 R_f16 R_f11 R_f17 hR_f9 hR_f13 hR_f14 hR_f16 hR_f11 hR_f17) [] k Tryd.f8.ntmps Tryd.f8.results.toList (Tryd.f8.body.getD .skip) [(.sl true none x0), (.v (CV.int .i64 x1))] [] K = f8_A R_f9 R_f13 R_f14 R_f16 R_f11 R_f17 k X (fun u => K (f8_out u)) x0 x1 := (f8_ev' R_f9 R_f13 R_f14 R_f16 R_f11 R_f17 hR_f9 hR_f13 hR_f14 hR_f16 hR_f11 hR_f17 k K x0 x1).trans (by rw [f8_L1_it R_f9 R_f13 R_f14 R_f16 R_f11 R_f17 hR_f9 hR_f13 hR_f14 hR_f16 hR_f11 hR_f17 k K]; rfl)
theorem f8_okA (R_f9 : f9_R) (R_f13 : f13_R) (R_f14 : f14_R) (R_f16 : f16_R) (R_f11 : f11_R) (R_f17 : f17_R) (hR_f9 : AnsOk Tryd.prog 9 (f9_cOf R_f9)) (hR_f13 : AnsOk Tryd.prog 13 (f13_cOf R_f13)) (hR_f14 : AnsOk Tryd.prog 14 (f14_cOf R_f14)) (hR_f16 : AnsOk Tryd.prog 16 (f16_cOf R_f16)) (hR_f11 : AnsOk Tryd.prog 11 (f11_cOf R_f11)) (hR_f17 : AnsOk Tryd.prog 17 (f17_cOf R_f17)) (k : Nat) : AnsOk Tryd.prog 8 (f8_cOf (f8_A R_f9 R_f13 R_f14 R_f16 R_f11 R_f17 k)) := by
  intro X xs ns K x h
  unfold f8_cOf at h ⊢
  split at h
  · exact ans_main S (f8_Cok R_f9 R_f13 R_f14 R_f16 R_f11 R_f17 hR_f9 hR_f13 hR_f14 hR_f16 hR_f11 hR_f17) Tryd.func8 (ent_of Tryd.func8 (by kernel_rfl) rfl) rfl (fun X K => f8_ev R_f9 R_f13 R_f14 R_f16 R_f11 R_f17 hR_f9 hR_f13 hR_f14 hR_f16 hR_f11 hR_f17 k K _ _) h
  · cases h
/-- "outpost/outpostlaw01.ShaLong" -/
def f8 {X : Type} (k : Nat) (K : Bool → Option X) (x0 : List CV) (x1 : Int) : Option X := f8_A (fun X => @f9 X k) (fun X => @f13 X k) (fun X => @f14 X k) (fun X => @f16 X k) (fun X => @f11 X k) (fun X => @f17 X k) k X K x0 x1
theorem f8_ok (k : Nat) : AnsOk Tryd.prog 8 (f8_cOf (fun X => @f8 X k)) := f8_okA (fun X => @f9 X k) (fun X => @f13 X k) (fun X => @f14 X k) (fun X => @f16 X k) (fun X => @f11 X k) (fun X => @f17 X k) (f9_ok k) (f13_ok k) (f14_ok k) (f16_ok k) (f11_ok k) (f17_ok k) k
end Go.Proofs.YtlaojkheenobaaaDoorD
