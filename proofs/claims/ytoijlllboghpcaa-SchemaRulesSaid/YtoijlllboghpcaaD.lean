/- Functions of the program, as plain Lean functions: each with the proof that the evaluator computes it. (Printed by wip/dec/dec.py.) -/
import Derived.Test.YtoijlllboghpcaaTN
import Derived.Test.YtoijlllboghpcaaTO
import Derived.Test.YtoijlllboghpcaaTQ
import Derived.Test.YtoijlllboghpcaaProg
import Derived.Test.YtoijlllboghpcaaChecked
namespace Go.Proofs.YtoijlllboghpcaaD
open Go Go.Proofs.YtoijlllboghpcaaS Go.Proofs
set_option linter.unusedVariables false
def rows : List (Nat × TI) := [
  (2, ⟨(.int .i64), 1, 8, .v (.int .i64 0)⟩),
  (3, ⟨(.int .i64), 1, 8, .v (.int .i64 0)⟩),
  (4, ⟨.bool, 1, 1, .v (.bool false)⟩),
  (5, ⟨(.int .u8), 1, 1, .v (.int .u8 0)⟩),
  (9, ⟨.str, 1, 16, .v (.str ⟨#[]⟩)⟩),
  (22, ⟨(.slice 28), 1, 24, .nil0 (some 8)⟩),
  (24, ⟨(.struct [(0, 3), (1, 3), (2, 4), (3, 22)]), 4, 48, .agg [.v (.int .i64 0), .v (.int .i64 0), .v (.bool false), .nil0 (some 8)]⟩),
  (28, ⟨(.struct [(0, 3), (1, 3), (2, 4), (3, 4), (4, 4), (5, 2), (6, 2), (7, 4)]), 8, 48, .v (.agg [(.int .i64 0), (.int .i64 0), (.bool false), (.bool false), (.bool false), (.int .i64 0), (.int .i64 0), (.bool false)])⟩),
  (29, ⟨(.slice 5), 1, 24, .nil0 none⟩),
  (31, ⟨(.struct [(0, 3), (1, 2), (2, 9), (3, 29), (4, 3), (5, 3)]), 6, 72, .agg [.v (.int .i64 0), .v (.int .i64 0), .v (.str ⟨#[]⟩), .nil0 none, .v (.int .i64 0), .v (.int .i64 0)]⟩),
  (36, ⟨(.slice 24), 1, 24, .nil0 (some 4)⟩),
  (53, ⟨(.int .u8), 1, 1, .v (.int .u8 0)⟩)]
set_option maxRecDepth 100000 in
theorem rows_ok : rowsAre Try.prog rows = true := by kernel_rfl
def cmps : List Nat := [28]
theorem cmps_ok : cmpsAre Try.prog cmps = true := by kernel_rfl
def S : Seat Try.prog := ⟨rows, rows_ok, Try.checked.mixed, cmps, cmps_ok⟩
def md (g : FuncId) (i : Nat) : Nat := 0
def setCell {X : Type} (e : CV) (j : Nat) (c : CV) (K : CV → Option X) : Option X := match e with
  | .agg ds => grd (Nat.blt j ds.length) (K (.agg (ds.set j c)))
  | _ => none
abbrev f26_R : Type 1 := (X : Type) → (CV → Option X) → Int → Int → Int → Int → Int → Option X
def f26_out (u : CV) : Out := ⟨(.v u), []⟩
def f26_cOf (R : f26_R) : FnC := fun X xs ns K => match xs, ns with
  | [(.v (CV.int .i64 x0)), (.v (CV.int .i64 x1)), (.v (CV.int .u8 x2)), (.v (CV.int .i64 x3)), (.v (CV.int .i64 x4))], [] => R X (fun u => K (f26_out u)) x0 x1 x2 x3 x4
  | _, _ => none
def f26_plan : Nat → Option (List Nat × List Wk)
  | 0 => some ([0, 1, 2, 3, 4], [])
  | 1 => some ([0, 1, 2, 3, 4, 10], [])
  | _ => none
def f26_C : Fns := noC
theorem f26_Cok : CsOk Try.prog (f26_C) := noC_ok
def f26_cx : Cx := mkCx (tabOf rows) (f26_C) md (cmpIn cmps) f26_plan (f26_Cok)
def f26_T {X : Type} (k : Nat) (K : CV → Option X)  (x0 : Int) (x1 : Int) (x2 : Int) (x3 : Int) (x4 : Int) : Option X :=
K ((CV.agg [(CV.int .i64 x0), (CV.int .i64 x1), (CV.bool ((bop .and .u8 x2 1) != 0)), (CV.bool ((bop .and .u8 x2 2) != 0)), (CV.bool ((bop .and .u8 x2 4) != 0)), (CV.int .i64 x3), (CV.int .i64 x4), (CV.bool ((bop .and .u8 x2 8) != 0))]))
/-- "outpost/schema.rule" -/
def f26_A (k : Nat) : f26_R := fun X K x0 x1 x2 x3 x4 => f26_T k K  x0 x1 x2 x3 x4
set_option maxRecDepth 100000 in
theorem f26_ev' {X : Type} (k : Nat) (K : Out → Option X) (x0 : Int) (x1 : Int) (x2 : Int) (x3 : Int) (x4 : Int) : evFn (f26_cx) [] k Try.f26.ntmps Try.f26.results.toList (Try.f26.body.getD .skip) [(.v (CV.int .i64 x0)), (.v (CV.int .i64 x1)), (.v (CV.int .u8 x2)), (.v (CV.int .i64 x3)), (.v (CV.int .i64 x4))] [] K = f26_T k (fun u => K (f26_out u)) x0 x1 x2 x3 x4 := by kernel_rfl
theorem f26_ev {X : Type} (k : Nat) (K : Out → Option X) (x0 : Int) (x1 : Int) (x2 : Int) (x3 : Int) (x4 : Int) : evFn (f26_cx) [] k Try.f26.ntmps Try.f26.results.toList (Try.f26.body.getD .skip) [(.v (CV.int .i64 x0)), (.v (CV.int .i64 x1)), (.v (CV.int .u8 x2)), (.v (CV.int .i64 x3)), (.v (CV.int .i64 x4))] [] K = f26_A k X (fun u => K (f26_out u)) x0 x1 x2 x3 x4 := (f26_ev' k K x0 x1 x2 x3 x4).trans rfl
theorem f26_okA (k : Nat) : AnsOk Try.prog 26 (f26_cOf (f26_A k)) := by
  intro X xs ns K x h
  unfold f26_cOf at h ⊢
  split at h
  · exact ans_main S (f26_Cok) Try.func26 (ent_of Try.func26 (by kernel_rfl) rfl) rfl (fun X K => f26_ev k K _ _ _ _ _) h
  · cases h
/-- "outpost/schema.rule" -/
def f26 {X : Type} (k : Nat) (K : CV → Option X) (x0 : Int) (x1 : Int) (x2 : Int) (x3 : Int) (x4 : Int) : Option X := f26_A k X K x0 x1 x2 x3 x4
theorem f26_ok (k : Nat) : AnsOk Try.prog 26 (f26_cOf (fun X => @f26 X k)) := f26_okA k
abbrev f25_R : Type 1 := (X : Type) → (CV → Option X) → Int → Int → Int → Int → Option X
def f25_out (u : CV) : Out := ⟨(.v u), []⟩
def f25_cOf (R : f25_R) : FnC := fun X xs ns K => match xs, ns with
  | [(.v (CV.int .i64 x0)), (.v (CV.int .u8 x1)), (.v (CV.int .i64 x2)), (.v (CV.int .i64 x3))], [] => R X (fun u => K (f25_out u)) x0 x1 x2 x3
  | _, _ => none
def f25_plan : Nat → Option (List Nat × List Wk)
  | 0 => some ([0, 1, 2, 3], [])
  | 1 => some ([0, 1, 2, 3, 8], [])
  | _ => none
def f25_C (R_f26 : f26_R) : Fns := (orC 26 (f26_cOf R_f26) noC)
theorem f25_Cok (R_f26 : f26_R) (hR_f26 : AnsOk Try.prog 26 (f26_cOf R_f26)) : CsOk Try.prog (f25_C R_f26) := (orC_ok hR_f26 noC_ok)
def f25_cx (R_f26 : f26_R) (hR_f26 : AnsOk Try.prog 26 (f26_cOf R_f26)) : Cx := mkCx (tabOf rows) (f25_C R_f26) md (cmpIn cmps) f25_plan (f25_Cok R_f26 hR_f26)
def f25_T {X : Type} (R_f26 : f26_R) (k : Nat) (K : CV → Option X)  (x0 : Int) (x1 : Int) (x2 : Int) (x3 : Int) : Option X :=
R_f26 _ (fun u1 =>
grd (CV.isA 8 u1) <|
grd (CV.isI .i64 (CV.cellD 0 u1)) <|
grd (CV.isI .i64 (CV.cellD 1 u1)) <|
grd (CV.isB (CV.cellD 2 u1)) <|
grd (CV.isB (CV.cellD 3 u1)) <|
grd (CV.isB (CV.cellD 4 u1)) <|
grd (CV.isI .i64 (CV.cellD 5 u1)) <|
grd (CV.isI .i64 (CV.cellD 6 u1)) <|
grd (CV.isB (CV.cellD 7 u1)) <|
K ((CV.agg [(CV.int .i64 (CV.toI (CV.cellD 0 u1))), (CV.int .i64 (CV.toI (CV.cellD 1 u1))), (CV.bool (CV.toB (CV.cellD 2 u1))), (CV.bool (CV.toB (CV.cellD 3 u1))), (CV.bool (CV.toB (CV.cellD 4 u1))), (CV.int .i64 (CV.toI (CV.cellD 5 u1))), (CV.int .i64 (CV.toI (CV.cellD 6 u1))), (CV.bool (CV.toB (CV.cellD 7 u1)))]))) (x0) (3) (x1) (x2) (x3)
/-- "outpost/schema.text" -/
def f25_A (R_f26 : f26_R) (k : Nat) : f25_R := fun X K x0 x1 x2 x3 => f25_T R_f26 k K  x0 x1 x2 x3
set_option maxRecDepth 100000 in
theorem f25_ev' {X : Type} (R_f26 : f26_R) (hR_f26 : AnsOk Try.prog 26 (f26_cOf R_f26)) (k : Nat) (K : Out → Option X) (x0 : Int) (x1 : Int) (x2 : Int) (x3 : Int) : evFn (f25_cx R_f26 hR_f26) [] k Try.f25.ntmps Try.f25.results.toList (Try.f25.body.getD .skip) [(.v (CV.int .i64 x0)), (.v (CV.int .u8 x1)), (.v (CV.int .i64 x2)), (.v (CV.int .i64 x3))] [] K = f25_T R_f26 k (fun u => K (f25_out u)) x0 x1 x2 x3 := by kernel_rfl
theorem f25_ev {X : Type} (R_f26 : f26_R) (hR_f26 : AnsOk Try.prog 26 (f26_cOf R_f26)) (k : Nat) (K : Out → Option X) (x0 : Int) (x1 : Int) (x2 : Int) (x3 : Int) : evFn (f25_cx R_f26 hR_f26) [] k Try.f25.ntmps Try.f25.results.toList (Try.f25.body.getD .skip) [(.v (CV.int .i64 x0)), (.v (CV.int .u8 x1)), (.v (CV.int .i64 x2)), (.v (CV.int .i64 x3))] [] K = f25_A R_f26 k X (fun u => K (f25_out u)) x0 x1 x2 x3 := (f25_ev' R_f26 hR_f26 k K x0 x1 x2 x3).trans rfl
theorem f25_okA (R_f26 : f26_R) (hR_f26 : AnsOk Try.prog 26 (f26_cOf R_f26)) (k : Nat) : AnsOk Try.prog 25 (f25_cOf (f25_A R_f26 k)) := by
  intro X xs ns K x h
  unfold f25_cOf at h ⊢
  split at h
  · exact ans_main S (f25_Cok R_f26 hR_f26) Try.func25 (ent_of Try.func25 (by kernel_rfl) rfl) rfl (fun X K => f25_ev R_f26 hR_f26 k K _ _ _ _) h
  · cases h
/-- "outpost/schema.text" -/
def f25 {X : Type} (k : Nat) (K : CV → Option X) (x0 : Int) (x1 : Int) (x2 : Int) (x3 : Int) : Option X := f25_A (fun X => @f26 X k) k X K x0 x1 x2 x3
theorem f25_ok (k : Nat) : AnsOk Try.prog 25 (f25_cOf (fun X => @f25 X k)) := f25_okA (fun X => @f26 X k) (f26_ok k) k
abbrev f27_R : Type 1 := (X : Type) → (CV → Option X) → Int → Int → Int → Int → Option X
def f27_out (u : CV) : Out := ⟨(.v u), []⟩
def f27_cOf (R : f27_R) : FnC := fun X xs ns K => match xs, ns with
  | [(.v (CV.int .i64 x0)), (.v (CV.int .u8 x1)), (.v (CV.int .i64 x2)), (.v (CV.int .i64 x3))], [] => R X (fun u => K (f27_out u)) x0 x1 x2 x3
  | _, _ => none
def f27_plan : Nat → Option (List Nat × List Wk)
  | 0 => some ([0, 1, 2, 3], [])
  | 1 => some ([0, 1, 2, 3, 8], [])
  | _ => none
def f27_C (R_f26 : f26_R) : Fns := (orC 26 (f26_cOf R_f26) noC)
theorem f27_Cok (R_f26 : f26_R) (hR_f26 : AnsOk Try.prog 26 (f26_cOf R_f26)) : CsOk Try.prog (f27_C R_f26) := (orC_ok hR_f26 noC_ok)
def f27_cx (R_f26 : f26_R) (hR_f26 : AnsOk Try.prog 26 (f26_cOf R_f26)) : Cx := mkCx (tabOf rows) (f27_C R_f26) md (cmpIn cmps) f27_plan (f27_Cok R_f26 hR_f26)
def f27_T {X : Type} (R_f26 : f26_R) (k : Nat) (K : CV → Option X)  (x0 : Int) (x1 : Int) (x2 : Int) (x3 : Int) : Option X :=
R_f26 _ (fun u1 =>
grd (CV.isA 8 u1) <|
grd (CV.isI .i64 (CV.cellD 0 u1)) <|
grd (CV.isI .i64 (CV.cellD 1 u1)) <|
grd (CV.isB (CV.cellD 2 u1)) <|
grd (CV.isB (CV.cellD 3 u1)) <|
grd (CV.isB (CV.cellD 4 u1)) <|
grd (CV.isI .i64 (CV.cellD 5 u1)) <|
grd (CV.isI .i64 (CV.cellD 6 u1)) <|
grd (CV.isB (CV.cellD 7 u1)) <|
K ((CV.agg [(CV.int .i64 (CV.toI (CV.cellD 0 u1))), (CV.int .i64 (CV.toI (CV.cellD 1 u1))), (CV.bool (CV.toB (CV.cellD 2 u1))), (CV.bool (CV.toB (CV.cellD 3 u1))), (CV.bool (CV.toB (CV.cellD 4 u1))), (CV.int .i64 (CV.toI (CV.cellD 5 u1))), (CV.int .i64 (CV.toI (CV.cellD 6 u1))), (CV.bool (CV.toB (CV.cellD 7 u1)))]))) (x0) (1) (x1) (x2) (x3)
/-- "outpost/schema.number" -/
def f27_A (R_f26 : f26_R) (k : Nat) : f27_R := fun X K x0 x1 x2 x3 => f27_T R_f26 k K  x0 x1 x2 x3
set_option maxRecDepth 100000 in
theorem f27_ev' {X : Type} (R_f26 : f26_R) (hR_f26 : AnsOk Try.prog 26 (f26_cOf R_f26)) (k : Nat) (K : Out → Option X) (x0 : Int) (x1 : Int) (x2 : Int) (x3 : Int) : evFn (f27_cx R_f26 hR_f26) [] k Try.f27.ntmps Try.f27.results.toList (Try.f27.body.getD .skip) [(.v (CV.int .i64 x0)), (.v (CV.int .u8 x1)), (.v (CV.int .i64 x2)), (.v (CV.int .i64 x3))] [] K = f27_T R_f26 k (fun u => K (f27_out u)) x0 x1 x2 x3 := by kernel_rfl
theorem f27_ev {X : Type} (R_f26 : f26_R) (hR_f26 : AnsOk Try.prog 26 (f26_cOf R_f26)) (k : Nat) (K : Out → Option X) (x0 : Int) (x1 : Int) (x2 : Int) (x3 : Int) : evFn (f27_cx R_f26 hR_f26) [] k Try.f27.ntmps Try.f27.results.toList (Try.f27.body.getD .skip) [(.v (CV.int .i64 x0)), (.v (CV.int .u8 x1)), (.v (CV.int .i64 x2)), (.v (CV.int .i64 x3))] [] K = f27_A R_f26 k X (fun u => K (f27_out u)) x0 x1 x2 x3 := (f27_ev' R_f26 hR_f26 k K x0 x1 x2 x3).trans rfl
theorem f27_okA (R_f26 : f26_R) (hR_f26 : AnsOk Try.prog 26 (f26_cOf R_f26)) (k : Nat) : AnsOk Try.prog 27 (f27_cOf (f27_A R_f26 k)) := by
  intro X xs ns K x h
  unfold f27_cOf at h ⊢
  split at h
  · exact ans_main S (f27_Cok R_f26 hR_f26) Try.func27 (ent_of Try.func27 (by kernel_rfl) rfl) rfl (fun X K => f27_ev R_f26 hR_f26 k K _ _ _ _) h
  · cases h
/-- "outpost/schema.number" -/
def f27 {X : Type} (k : Nat) (K : CV → Option X) (x0 : Int) (x1 : Int) (x2 : Int) (x3 : Int) : Option X := f27_A (fun X => @f26 X k) k X K x0 x1 x2 x3
theorem f27_ok (k : Nat) : AnsOk Try.prog 27 (f27_cOf (fun X => @f27 X k)) := f27_okA (fun X => @f26 X k) (f26_ok k) k
abbrev f28_R : Type 1 := (X : Type) → (CV → Option X) → Int → Option X
def f28_out (u : CV) : Out := ⟨(.v u), []⟩
def f28_cOf (R : f28_R) : FnC := fun X xs ns K => match xs, ns with
  | [(.v (CV.int .i64 x0))], [] => R X (fun u => K (f28_out u)) x0
  | _, _ => none
def f28_plan : Nat → Option (List Nat × List Wk)
  | 0 => some ([0], [])
  | 1 => some ([0, 2], [])
  | _ => none
def f28_C (R_f26 : f26_R) : Fns := (orC 26 (f26_cOf R_f26) noC)
theorem f28_Cok (R_f26 : f26_R) (hR_f26 : AnsOk Try.prog 26 (f26_cOf R_f26)) : CsOk Try.prog (f28_C R_f26) := (orC_ok hR_f26 noC_ok)
def f28_cx (R_f26 : f26_R) (hR_f26 : AnsOk Try.prog 26 (f26_cOf R_f26)) : Cx := mkCx (tabOf rows) (f28_C R_f26) md (cmpIn cmps) f28_plan (f28_Cok R_f26 hR_f26)
def f28_T {X : Type} (R_f26 : f26_R) (k : Nat) (K : CV → Option X)  (x0 : Int) : Option X :=
R_f26 _ (fun u1 =>
grd (CV.isA 8 u1) <|
grd (CV.isI .i64 (CV.cellD 0 u1)) <|
grd (CV.isI .i64 (CV.cellD 1 u1)) <|
grd (CV.isB (CV.cellD 2 u1)) <|
grd (CV.isB (CV.cellD 3 u1)) <|
grd (CV.isB (CV.cellD 4 u1)) <|
grd (CV.isI .i64 (CV.cellD 5 u1)) <|
grd (CV.isI .i64 (CV.cellD 6 u1)) <|
grd (CV.isB (CV.cellD 7 u1)) <|
K ((CV.agg [(CV.int .i64 (CV.toI (CV.cellD 0 u1))), (CV.int .i64 (CV.toI (CV.cellD 1 u1))), (CV.bool (CV.toB (CV.cellD 2 u1))), (CV.bool (CV.toB (CV.cellD 3 u1))), (CV.bool (CV.toB (CV.cellD 4 u1))), (CV.int .i64 (CV.toI (CV.cellD 5 u1))), (CV.int .i64 (CV.toI (CV.cellD 6 u1))), (CV.bool (CV.toB (CV.cellD 7 u1)))]))) (x0) (0) (4) (0) (0)
/-- "outpost/schema.run" -/
def f28_A (R_f26 : f26_R) (k : Nat) : f28_R := fun X K x0 => f28_T R_f26 k K  x0
set_option maxRecDepth 100000 in
theorem f28_ev' {X : Type} (R_f26 : f26_R) (hR_f26 : AnsOk Try.prog 26 (f26_cOf R_f26)) (k : Nat) (K : Out → Option X) (x0 : Int) : evFn (f28_cx R_f26 hR_f26) [] k Try.f28.ntmps Try.f28.results.toList (Try.f28.body.getD .skip) [(.v (CV.int .i64 x0))] [] K = f28_T R_f26 k (fun u => K (f28_out u)) x0 := by kernel_rfl
theorem f28_ev {X : Type} (R_f26 : f26_R) (hR_f26 : AnsOk Try.prog 26 (f26_cOf R_f26)) (k : Nat) (K : Out → Option X) (x0 : Int) : evFn (f28_cx R_f26 hR_f26) [] k Try.f28.ntmps Try.f28.results.toList (Try.f28.body.getD .skip) [(.v (CV.int .i64 x0))] [] K = f28_A R_f26 k X (fun u => K (f28_out u)) x0 := (f28_ev' R_f26 hR_f26 k K x0).trans rfl
theorem f28_okA (R_f26 : f26_R) (hR_f26 : AnsOk Try.prog 26 (f26_cOf R_f26)) (k : Nat) : AnsOk Try.prog 28 (f28_cOf (f28_A R_f26 k)) := by
  intro X xs ns K x h
  unfold f28_cOf at h ⊢
  split at h
  · exact ans_main S (f28_Cok R_f26 hR_f26) Try.func28 (ent_of Try.func28 (by kernel_rfl) rfl) rfl (fun X K => f28_ev R_f26 hR_f26 k K _) h
  · cases h
/-- "outpost/schema.run" -/
def f28 {X : Type} (k : Nat) (K : CV → Option X) (x0 : Int) : Option X := f28_A (fun X => @f26 X k) k X K x0
theorem f28_ok (k : Nat) : AnsOk Try.prog 28 (f28_cOf (fun X => @f28 X k)) := f28_okA (fun X => @f26 X k) (f26_ok k) k
abbrev f14_R : Type 1 := (X : Type) → ((List CV) → Option X) → Option X
def f14_out (u : (List CV)) : Out := ⟨(.osl [2000] (some 4) 0 5), [([2000], (.row false (some 4) u))]⟩
def f14_cOf (R : f14_R) : FnC := fun X xs ns K => match xs, ns with
  | [], [] => R X (fun u => K (f14_out u)) 
  | _, _ => none
def f14_plan : Nat → Option (List Nat × List Wk)
  | 0 => some ([], [])
  | 1 => some ([], [])
  | _ => none
def f14_C (R_f25 : f25_R) (R_f26 : f26_R) (R_f27 : f27_R) (R_f28 : f28_R) : Fns := (orC 25 (f25_cOf R_f25) (orC 26 (f26_cOf R_f26) (orC 27 (f27_cOf R_f27) (orC 28 (f28_cOf R_f28) noC))))
theorem f14_Cok (R_f25 : f25_R) (R_f26 : f26_R) (R_f27 : f27_R) (R_f28 : f28_R) (hR_f25 : AnsOk Try.prog 25 (f25_cOf R_f25)) (hR_f26 : AnsOk Try.prog 26 (f26_cOf R_f26)) (hR_f27 : AnsOk Try.prog 27 (f27_cOf R_f27)) (hR_f28 : AnsOk Try.prog 28 (f28_cOf R_f28)) : CsOk Try.prog (f14_C R_f25 R_f26 R_f27 R_f28) := (orC_ok hR_f25 (orC_ok hR_f26 (orC_ok hR_f27 (orC_ok hR_f28 noC_ok))))
def f14_cx (R_f25 : f25_R) (R_f26 : f26_R) (R_f27 : f27_R) (R_f28 : f28_R) (hR_f25 : AnsOk Try.prog 25 (f25_cOf R_f25)) (hR_f26 : AnsOk Try.prog 26 (f26_cOf R_f26)) (hR_f27 : AnsOk Try.prog 27 (f27_cOf R_f27)) (hR_f28 : AnsOk Try.prog 28 (f28_cOf R_f28)) : Cx := mkCx (tabOf rows) (f14_C R_f25 R_f26 R_f27 R_f28) md (cmpIn cmps) f14_plan (f14_Cok R_f25 R_f26 R_f27 R_f28 hR_f25 hR_f26 hR_f27 hR_f28)
def f14_T {X : Type} (R_f25 : f25_R) (R_f26 : f26_R) (R_f27 : f27_R) (R_f28 : f28_R) (k : Nat) (K : (List CV) → Option X)   : Option X :=
R_f25 _ (fun u1 =>
R_f26 _ (fun u2 =>
R_f27 _ (fun u3 =>
grd (fitSh (some 8) u1) <|
grd (fitSh (some 8) u2) <|
grd (fitSh (some 8) u3) <|
R_f27 _ (fun u4 =>
R_f27 _ (fun u5 =>
R_f27 _ (fun u6 =>
R_f27 _ (fun u7 =>
R_f26 _ (fun u8 =>
R_f25 _ (fun u9 =>
R_f28 _ (fun u10 =>
grd (fitSh (some 8) u4) <|
grd (fitSh (some 8) u5) <|
grd (fitSh (some 8) u6) <|
grd (fitSh (some 8) u7) <|
grd (fitSh (some 8) u8) <|
grd (fitSh (some 8) u9) <|
grd (fitSh (some 8) u10) <|
R_f27 _ (fun u11 =>
R_f27 _ (fun u12 =>
R_f26 _ (fun u13 =>
R_f27 _ (fun u14 =>
grd (fitSh (some 8) u11) <|
grd (fitSh (some 8) u12) <|
grd (fitSh (some 8) u13) <|
grd (fitSh (some 8) u14) <|
R_f25 _ (fun u15 =>
R_f25 _ (fun u16 =>
R_f25 _ (fun u17 =>
R_f28 _ (fun u18 =>
R_f27 _ (fun u19 =>
R_f27 _ (fun u20 =>
R_f26 _ (fun u21 =>
R_f25 _ (fun u22 =>
grd (fitSh (some 8) u15) <|
grd (fitSh (some 8) u16) <|
grd (fitSh (some 8) u17) <|
grd (fitSh (some 8) u18) <|
grd (fitSh (some 8) u19) <|
grd (fitSh (some 8) u20) <|
grd (fitSh (some 8) u21) <|
grd (fitSh (some 8) u22) <|
R_f26 _ (fun u23 =>
R_f25 _ (fun u24 =>
R_f28 _ (fun u25 =>
R_f27 _ (fun u26 =>
R_f27 _ (fun u27 =>
R_f25 _ (fun u28 =>
R_f25 _ (fun u29 =>
R_f27 _ (fun u30 =>
grd (fitSh (some 8) u23) <|
grd (fitSh (some 8) u24) <|
grd (fitSh (some 8) u25) <|
grd (fitSh (some 8) u26) <|
grd (fitSh (some 8) u27) <|
grd (fitSh (some 8) u28) <|
grd (fitSh (some 8) u29) <|
grd (fitSh (some 8) u30) <|
K ((List.take 5 [(CV.agg [(CV.int .i64 0), (CV.int .i64 2), (CV.bool false), (CV.slc (some 8) (List.take 3 (List.drop 0 [u1, u2, u3])))]), (CV.agg [(CV.int .i64 1), (CV.int .i64 2), (CV.bool false), (CV.slc (some 8) (List.take 7 (List.drop 0 [u4, u5, u6, u7, u8, u9, u10])))]), (CV.agg [(CV.int .i64 2), (CV.int .i64 8), (CV.bool true), (CV.slc (some 8) (List.take 4 (List.drop 0 [u11, u12, u13, u14])))]), (CV.agg [(CV.int .i64 3), (CV.int .i64 1), (CV.bool false), (CV.slc (some 8) (List.take 8 (List.drop 0 [u15, u16, u17, u18, u19, u20, u21, u22])))]), (CV.agg [(CV.int .i64 5), (CV.int .i64 1), (CV.bool false), (CV.slc (some 8) (List.take 8 (List.drop 0 [u23, u24, u25, u26, u27, u28, u29, u30])))])]))) (9) (9) (0) (2)) (7) (1) (0) (40)) (6) (1) (0) (40)) (5) (9) (0) (9)) (3) (9) (0) (3)) (2)) (1) (3) (0) (100)) (0) (4) (2) (0) (200)) (14) (3) (0) (6)) (13) (5) (3) (0) (1099511627776)) (11) (9) (0) (32)) (9) (1) (0) (100)) (4)) (3) (1) (0) (40)) (1) (1) (0) (40)) (0) (1) (0) (40)) (3) (11) (0) (65535)) (2) (4) (3) (0) (64)) (1) (9) (0) (65535)) (0) (9) (0) (65534)) (8)) (7) (11) (1) (3)) (6) (2) (11) (0) (0)) (3) (3) (0) (65535)) (2) (3) (0) (65535)) (1) (11) (1) (86400)) (0) (9) (1) (65534)) (10) (8) (1) (65534)) (1) (2) (8) (0) (0)) (0) (8) (1) (100)
/-- "outpost/schema.All" -/
def f14_A (R_f25 : f25_R) (R_f26 : f26_R) (R_f27 : f27_R) (R_f28 : f28_R) (k : Nat) : f14_R := fun X K  => f14_T R_f25 R_f26 R_f27 R_f28 k K  
set_option maxRecDepth 100000 in
theorem f14_ev' {X : Type} (R_f25 : f25_R) (R_f26 : f26_R) (R_f27 : f27_R) (R_f28 : f28_R) (hR_f25 : AnsOk Try.prog 25 (f25_cOf R_f25)) (hR_f26 : AnsOk Try.prog 26 (f26_cOf R_f26)) (hR_f27 : AnsOk Try.prog 27 (f27_cOf R_f27)) (hR_f28 : AnsOk Try.prog 28 (f28_cOf R_f28)) (k : Nat) (K : Out → Option X)  : evFn (f14_cx R_f25 R_f26 R_f27 R_f28 hR_f25 hR_f26 hR_f27 hR_f28) [] k Try.f14.ntmps Try.f14.results.toList (Try.f14.body.getD .skip) [] [] K = f14_T R_f25 R_f26 R_f27 R_f28 k (fun u => K (f14_out u))  := by kernel_rfl
theorem f14_ev {X : Type} (R_f25 : f25_R) (R_f26 : f26_R) (R_f27 : f27_R) (R_f28 : f28_R) (hR_f25 : AnsOk Try.prog 25 (f25_cOf R_f25)) (hR_f26 : AnsOk Try.prog 26 (f26_cOf R_f26)) (hR_f27 : AnsOk Try.prog 27 (f27_cOf R_f27)) (hR_f28 : AnsOk Try.prog 28 (f28_cOf R_f28)) (k : Nat) (K : Out → Option X)  : evFn (f14_cx R_f25 R_f26 R_f27 R_f28 hR_f25 hR_f26 hR_f27 hR_f28) [] k Try.f14.ntmps Try.f14.results.toList (Try.f14.body.getD .skip) [] [] K = f14_A R_f25 R_f26 R_f27 R_f28 k X (fun u => K (f14_out u))  := (f14_ev' R_f25 R_f26 R_f27 R_f28 hR_f25 hR_f26 hR_f27 hR_f28 k K ).trans rfl
theorem f14_okA (R_f25 : f25_R) (R_f26 : f26_R) (R_f27 : f27_R) (R_f28 : f28_R) (hR_f25 : AnsOk Try.prog 25 (f25_cOf R_f25)) (hR_f26 : AnsOk Try.prog 26 (f26_cOf R_f26)) (hR_f27 : AnsOk Try.prog 27 (f27_cOf R_f27)) (hR_f28 : AnsOk Try.prog 28 (f28_cOf R_f28)) (k : Nat) : AnsOk Try.prog 14 (f14_cOf (f14_A R_f25 R_f26 R_f27 R_f28 k)) := by
  intro X xs ns K x h
  unfold f14_cOf at h ⊢
  split at h
  · exact ans_main S (f14_Cok R_f25 R_f26 R_f27 R_f28 hR_f25 hR_f26 hR_f27 hR_f28) Try.func14 (ent_of Try.func14 (by kernel_rfl) rfl) rfl (fun X K => f14_ev R_f25 R_f26 R_f27 R_f28 hR_f25 hR_f26 hR_f27 hR_f28 k K ) h
  · cases h
/-- "outpost/schema.All" -/
def f14 {X : Type} (k : Nat) (K : (List CV) → Option X)  : Option X := f14_A (fun X => @f25 X k) (fun X => @f26 X k) (fun X => @f27 X k) (fun X => @f28 X k) k X K 
theorem f14_ok (k : Nat) : AnsOk Try.prog 14 (f14_cOf (fun X => @f14 X k)) := f14_okA (fun X => @f25 X k) (fun X => @f26 X k) (fun X => @f27 X k) (fun X => @f28 X k) (f25_ok k) (f26_ok k) (f27_ok k) (f28_ok k) k
abbrev f29_R : Type 1 := (X : Type) → (CV → Option X) → Int → Int → ByteArray → Int → Int → Option X
def f29_out (u : CV) : Out := ⟨(.v u), []⟩
def f29_cOf (R : f29_R) : FnC := fun X xs ns K => match xs, ns with
  | [(.v (CV.int .i64 x0)), (.v (CV.int .i64 x1)), (.v (CV.str x2)), (.v (CV.int .i64 x3)), (.v (CV.int .i64 x4))], [] => R X (fun u => K (f29_out u)) x0 x1 x2 x3 x4
  | _, _ => none
def f29_plan : Nat → Option (List Nat × List Wk)
  | 0 => some ([0, 1, 2, 3, 4], [])
  | 1 => some ([0, 1, 2, 3, 4, 10], [])
  | 2 => some ([2, 10, 11], [])
  | 3 => some ([2, 10, 11, 12], [])
  | 4 => some ([2, 10, 11, 12], [])
  | 5 => some ([2, 10, 11, 12], [])
  | 6 => some ([2, 10, 11, 12, 26], [])
  | 7 => some ([2, 10, 11, 12], [])
  | 8 => some ([2, 10, 11, 12, 26], [])
  | 9 => some ([2, 10, 11, 12], [])
  | 10 => some ([2, 10, 11, 12, 26], [])
  | 11 => some ([2, 10, 11, 12], [])
  | 12 => some ([2, 10, 11, 12, 26], [])
  | 13 => some ([2, 10, 11, 12], [])
  | 14 => some ([10, 11], [])
  | _ => none
def f29_C : Fns := noC
theorem f29_Cok : CsOk Try.prog (f29_C) := noC_ok
def f29_cx : Cx := mkCx (tabOf rows) (f29_C) md (cmpIn cmps) f29_plan (f29_Cok)
def f29_S1 (v : ByteArray × Int × Int × Int × Bool × Bool × Bool × Int × Int × Bool) : St := ⟨[.undef, .undef, (.v (CV.str v.1)), .undef, .undef, .undef, .undef, .undef, .undef, .undef, (.ptr [10] 0 0 0), (.ptr [11] 0 0 0), (.v (CV.int .i64 v.2.1)), .undef, .undef, .undef, .undef, .undef, .undef, .undef, .undef, .undef, .undef, .undef, .undef, .undef, .undef, .undef, .undef, .undef, .undef, .undef, .undef, .undef, .undef, .undef, .undef, .undef, .undef, .undef], [([10], (.obj [(.v (CV.int .i64 0)), (.v (CV.int .i64 0)), (.v (CV.bool false)), (.v (CV.bool false)), (.v (CV.bool false)), (.v (CV.int .i64 0)), (.v (CV.int .i64 0)), (.v (CV.bool false))])), ([11], (.obj [(.v (CV.int .i64 v.2.2.1)), (.v (CV.int .i64 v.2.2.2.1)), (.v (CV.bool v.2.2.2.2.1)), (.v (CV.bool v.2.2.2.2.2.1)), (.v (CV.bool v.2.2.2.2.2.2.1)), (.v (CV.int .i64 v.2.2.2.2.2.2.2.1)), (.v (CV.int .i64 v.2.2.2.2.2.2.2.2.1)), (.v (CV.bool v.2.2.2.2.2.2.2.2.2))]))]⟩
def f29_J1 {X : Type} (k : Nat) (K : CV → Option X) (rec1 : ByteArray × Int × Int × Int × Bool × Bool × Bool × Int × Int × Bool → Option X) (v5_0 : ByteArray × Int × Int × Int × Bool × Bool × Bool × Int × Int × Bool) (v5 : Bool × Bool × Bool × Bool) : Option X :=
rec1 (v5_0.1, (IntKind.wrap .i64 (v5_0.2.1 + 1)), v5_0.2.2.1, v5_0.2.2.2.1, v5.1, v5.2.1, v5.2.2.1, v5_0.2.2.2.2.2.2.2.1, v5_0.2.2.2.2.2.2.2.2.1, v5.2.2.2)
def f29_T1 {X : Type} (k : Nat) (K : CV → Option X)   (rec1 : ByteArray × Int × Int × Int × Bool × Bool × Bool × Int × Int × Bool → Option X) (v5_0 : ByteArray × Int × Int × Int × Bool × Bool × Bool × Int × Int × Bool) : Option X :=
(bif (decide (v5_0.2.1 < (Nat.cast ((ByteArray.size v5_0.1)) : Int))) then
grd (decide (0 ≤ v5_0.2.1)) <|
Option.bind (ByteArray.data v5_0.1)[(Int.toNat v5_0.2.1)]? fun b6 =>
(bif ((Nat.cast ((UInt8.toNat b6)) : Int) == 114) then
f29_J1 k K rec1 v5_0 (true, v5_0.2.2.2.2.2.1, v5_0.2.2.2.2.2.2.1, v5_0.2.2.2.2.2.2.2.2.2)
else
(bif ((Nat.cast ((UInt8.toNat b6)) : Int) == 119) then
f29_J1 k K rec1 v5_0 (v5_0.2.2.2.2.1, true, v5_0.2.2.2.2.2.2.1, v5_0.2.2.2.2.2.2.2.2.2)
else
(bif ((Nat.cast ((UInt8.toNat b6)) : Int) == 120) then
f29_J1 k K rec1 v5_0 (v5_0.2.2.2.2.1, v5_0.2.2.2.2.2.1, true, v5_0.2.2.2.2.2.2.2.2.2)
else
(bif ((Nat.cast ((UInt8.toNat b6)) : Int) == 109) then
f29_J1 k K rec1 v5_0 (v5_0.2.2.2.2.1, v5_0.2.2.2.2.2.1, v5_0.2.2.2.2.2.2.1, true)
else
f29_J1 k K rec1 v5_0 (v5_0.2.2.2.2.1, v5_0.2.2.2.2.2.1, v5_0.2.2.2.2.2.2.1, v5_0.2.2.2.2.2.2.2.2.2)))))
else
K ((CV.agg [(CV.int .i64 v5_0.2.2.1), (CV.int .i64 v5_0.2.2.2.1), (CV.bool v5_0.2.2.2.2.1), (CV.bool v5_0.2.2.2.2.2.1), (CV.bool v5_0.2.2.2.2.2.2.1), (CV.int .i64 v5_0.2.2.2.2.2.2.2.1), (CV.int .i64 v5_0.2.2.2.2.2.2.2.2.1), (CV.bool v5_0.2.2.2.2.2.2.2.2.2)])))
def f29_L1 {X : Type} (k : Nat) (K : CV → Option X)  (rec1 : ByteArray × Int × Int × Int × Bool × Bool × Bool × Int × Int × Bool → Option X) (v : ByteArray × Int × Int × Int × Bool × Bool × Bool × Int × Int × Bool) : Option X := f29_T1 k K   rec1 v
set_option maxRecDepth 100000 in
theorem f29_L1_ev {X : Type} (k : Nat) (K : Out → Option X)  (r1 : St → Option X) (v : ByteArray × Int × Int × Int × Bool × Bool × Bool × Int × Int × Bool) : loopB (f29_cx) k [.r, .r, .l, .r, .b] (Try.f29.body.getD .skip) (retK (f29_cx) [] Try.f29.results.toList K) [] r1 (f29_S1 v) = f29_T1 k (fun u => K (f29_out u))   (fun v => r1 (f29_S1 v)) v := by kernel_rfl
theorem f29_L1_it {X : Type} (k : Nat) (K : Out → Option X)  : (fun v => iter (loopB (f29_cx) k [.r, .r, .l, .r, .b] (Try.f29.body.getD .skip) (retK (f29_cx) [] Try.f29.results.toList K) []) k (f29_S1 v)) = iterV (f29_L1 k (fun u => K (f29_out u)) ) k :=
  iter_map (fun r1 v => (f29_L1_ev k K  r1 v).trans rfl) k
def f29_T {X : Type} (k : Nat) (K : CV → Option X) (loop1 : ByteArray × Int × Int × Int × Bool × Bool × Bool × Int × Int × Bool → Option X) (x0 : Int) (x1 : Int) (x2 : ByteArray) (x3 : Int) (x4 : Int) : Option X :=
loop1 (x2, 0, x0, x1, false, false, false, x3, x4, false)
/-- "outpost/outpostref18.line" -/
def f29_A (k : Nat) : f29_R := fun X K x0 x1 x2 x3 x4 => f29_T k K (iterV (f29_L1 k K) k) x0 x1 x2 x3 x4
set_option maxRecDepth 100000 in
theorem f29_ev' {X : Type} (k : Nat) (K : Out → Option X) (x0 : Int) (x1 : Int) (x2 : ByteArray) (x3 : Int) (x4 : Int) : evFn (f29_cx) [] k Try.f29.ntmps Try.f29.results.toList (Try.f29.body.getD .skip) [(.v (CV.int .i64 x0)), (.v (CV.int .i64 x1)), (.v (CV.str x2)), (.v (CV.int .i64 x3)), (.v (CV.int .i64 x4))] [] K = f29_T k (fun u => K (f29_out u)) (fun v => iter (loopB (f29_cx) k [.r, .r, .l, .r, .b] (Try.f29.body.getD .skip) (retK (f29_cx) [] Try.f29.results.toList K) []) k (f29_S1 v)) x0 x1 x2 x3 x4 := by kernel_rfl
theorem f29_ev {X : Type} (k : Nat) (K : Out → Option X) (x0 : Int) (x1 : Int) (x2 : ByteArray) (x3 : Int) (x4 : Int) : evFn (f29_cx) [] k Try.f29.ntmps Try.f29.results.toList (Try.f29.body.getD .skip) [(.v (CV.int .i64 x0)), (.v (CV.int .i64 x1)), (.v (CV.str x2)), (.v (CV.int .i64 x3)), (.v (CV.int .i64 x4))] [] K = f29_A k X (fun u => K (f29_out u)) x0 x1 x2 x3 x4 := (f29_ev' k K x0 x1 x2 x3 x4).trans (by rw [f29_L1_it k K]; rfl)
theorem f29_okA (k : Nat) : AnsOk Try.prog 29 (f29_cOf (f29_A k)) := by
  intro X xs ns K x h
  unfold f29_cOf at h ⊢
  split at h
  · exact ans_main S (f29_Cok) Try.func29 (ent_of Try.func29 (by kernel_rfl) rfl) rfl (fun X K => f29_ev k K _ _ _ _ _) h
  · cases h
/-- "outpost/outpostref18.line" -/
def f29 {X : Type} (k : Nat) (K : CV → Option X) (x0 : Int) (x1 : Int) (x2 : ByteArray) (x3 : Int) (x4 : Int) : Option X := f29_A k X K x0 x1 x2 x3 x4
theorem f29_ok (k : Nat) : AnsOk Try.prog 29 (f29_cOf (fun X => @f29 X k)) := f29_okA k
abbrev f16_R : Type 1 := (X : Type) → ((List CV) → Option X) → Option X
def f16_out (u : (List CV)) : Out := ⟨(.osl [2000] (some 4) 0 5), [([2000], (.row false (some 4) u))]⟩
def f16_cOf (R : f16_R) : FnC := fun X xs ns K => match xs, ns with
  | [], [] => R X (fun u => K (f16_out u)) 
  | _, _ => none
def f16_plan : Nat → Option (List Nat × List Wk)
  | 0 => some ([], [])
  | 1 => some ([], [])
  | _ => none
def f16_C (R_f29 : f29_R) : Fns := (orC 29 (f29_cOf R_f29) noC)
theorem f16_Cok (R_f29 : f29_R) (hR_f29 : AnsOk Try.prog 29 (f29_cOf R_f29)) : CsOk Try.prog (f16_C R_f29) := (orC_ok hR_f29 noC_ok)
def f16_cx (R_f29 : f29_R) (hR_f29 : AnsOk Try.prog 29 (f29_cOf R_f29)) : Cx := mkCx (tabOf rows) (f16_C R_f29) md (cmpIn cmps) f16_plan (f16_Cok R_f29 hR_f29)
def f16_T {X : Type} (R_f29 : f29_R) (k : Nat) (K : (List CV) → Option X)   : Option X :=
R_f29 _ (fun u1 =>
R_f29 _ (fun u2 =>
R_f29 _ (fun u3 =>
grd (fitSh (some 8) u1) <|
grd (fitSh (some 8) u2) <|
grd (fitSh (some 8) u3) <|
R_f29 _ (fun u4 =>
R_f29 _ (fun u5 =>
R_f29 _ (fun u6 =>
R_f29 _ (fun u7 =>
R_f29 _ (fun u8 =>
R_f29 _ (fun u9 =>
R_f29 _ (fun u10 =>
grd (fitSh (some 8) u4) <|
grd (fitSh (some 8) u5) <|
grd (fitSh (some 8) u6) <|
grd (fitSh (some 8) u7) <|
grd (fitSh (some 8) u8) <|
grd (fitSh (some 8) u9) <|
grd (fitSh (some 8) u10) <|
R_f29 _ (fun u11 =>
R_f29 _ (fun u12 =>
R_f29 _ (fun u13 =>
R_f29 _ (fun u14 =>
grd (fitSh (some 8) u11) <|
grd (fitSh (some 8) u12) <|
grd (fitSh (some 8) u13) <|
grd (fitSh (some 8) u14) <|
R_f29 _ (fun u15 =>
R_f29 _ (fun u16 =>
R_f29 _ (fun u17 =>
R_f29 _ (fun u18 =>
R_f29 _ (fun u19 =>
R_f29 _ (fun u20 =>
R_f29 _ (fun u21 =>
R_f29 _ (fun u22 =>
grd (fitSh (some 8) u15) <|
grd (fitSh (some 8) u16) <|
grd (fitSh (some 8) u17) <|
grd (fitSh (some 8) u18) <|
grd (fitSh (some 8) u19) <|
grd (fitSh (some 8) u20) <|
grd (fitSh (some 8) u21) <|
grd (fitSh (some 8) u22) <|
R_f29 _ (fun u23 =>
R_f29 _ (fun u24 =>
R_f29 _ (fun u25 =>
R_f29 _ (fun u26 =>
R_f29 _ (fun u27 =>
R_f29 _ (fun u28 =>
R_f29 _ (fun u29 =>
R_f29 _ (fun u30 =>
grd (fitSh (some 8) u23) <|
grd (fitSh (some 8) u24) <|
grd (fitSh (some 8) u25) <|
grd (fitSh (some 8) u26) <|
grd (fitSh (some 8) u27) <|
grd (fitSh (some 8) u28) <|
grd (fitSh (some 8) u29) <|
grd (fitSh (some 8) u30) <|
K ((List.take 5 [(CV.agg [(CV.int .i64 0), (CV.int .i64 2), (CV.bool false), (CV.slc (some 8) (List.take 3 (List.drop 0 [u1, u2, u3])))]), (CV.agg [(CV.int .i64 1), (CV.int .i64 2), (CV.bool false), (CV.slc (some 8) (List.take 7 (List.drop 0 [u4, u5, u6, u7, u8, u9, u10])))]), (CV.agg [(CV.int .i64 2), (CV.int .i64 8), (CV.bool true), (CV.slc (some 8) (List.take 4 (List.drop 0 [u11, u12, u13, u14])))]), (CV.agg [(CV.int .i64 3), (CV.int .i64 1), (CV.bool false), (CV.slc (some 8) (List.take 8 (List.drop 0 [u15, u16, u17, u18, u19, u20, u21, u22])))]), (CV.agg [(CV.int .i64 5), (CV.int .i64 1), (CV.bool false), (CV.slc (some 8) (List.take 8 (List.drop 0 [u23, u24, u25, u26, u27, u28, u29, u30])))])]))) (9) (1) (⟨#[114, 109]⟩) (0) (2)) (7) (3) (⟨#[114]⟩) (0) (40)) (6) (3) (⟨#[114]⟩) (0) (40)) (5) (1) (⟨#[114, 109]⟩) (0) (9)) (3) (1) (⟨#[114, 109]⟩) (0) (3)) (2) (0) (⟨#[120]⟩) (0) (0)) (1) (3) (⟨#[114, 119]⟩) (0) (100)) (0) (4) (⟨#[119]⟩) (0) (200)) (14) (3) (⟨#[114, 119]⟩) (0) (6)) (13) (5) (⟨#[114, 119]⟩) (0) (1099511627776)) (11) (1) (⟨#[114, 109]⟩) (0) (32)) (9) (1) (⟨#[114]⟩) (0) (100)) (4) (0) (⟨#[120]⟩) (0) (0)) (3) (3) (⟨#[114]⟩) (0) (40)) (1) (3) (⟨#[114]⟩) (0) (40)) (0) (3) (⟨#[114]⟩) (0) (40)) (3) (1) (⟨#[114, 119, 109]⟩) (0) (65535)) (2) (4) (⟨#[114, 119]⟩) (0) (64)) (1) (1) (⟨#[114, 109]⟩) (0) (65535)) (0) (1) (⟨#[114, 109]⟩) (0) (65534)) (8) (0) (⟨#[120]⟩) (0) (0)) (7) (3) (⟨#[114, 119, 109]⟩) (1) (3)) (6) (2) (⟨#[114, 119, 109]⟩) (0) (0)) (3) (1) (⟨#[114, 119]⟩) (0) (65535)) (2) (1) (⟨#[114, 119]⟩) (0) (65535)) (1) (1) (⟨#[114, 119, 109]⟩) (1) (86400)) (0) (1) (⟨#[114, 109]⟩) (1) (65534)) (10) (1) (⟨#[109]⟩) (1) (65534)) (1) (2) (⟨#[109]⟩) (0) (0)) (0) (3) (⟨#[109]⟩) (1) (100)
/-- "outpost/outpostref18.All" -/
def f16_A (R_f29 : f29_R) (k : Nat) : f16_R := fun X K  => f16_T R_f29 k K  
set_option maxRecDepth 100000 in
theorem f16_ev' {X : Type} (R_f29 : f29_R) (hR_f29 : AnsOk Try.prog 29 (f29_cOf R_f29)) (k : Nat) (K : Out → Option X)  : evFn (f16_cx R_f29 hR_f29) [] k Try.f16.ntmps Try.f16.results.toList (Try.f16.body.getD .skip) [] [] K = f16_T R_f29 k (fun u => K (f16_out u))  := by kernel_rfl
theorem f16_ev {X : Type} (R_f29 : f29_R) (hR_f29 : AnsOk Try.prog 29 (f29_cOf R_f29)) (k : Nat) (K : Out → Option X)  : evFn (f16_cx R_f29 hR_f29) [] k Try.f16.ntmps Try.f16.results.toList (Try.f16.body.getD .skip) [] [] K = f16_A R_f29 k X (fun u => K (f16_out u))  := (f16_ev' R_f29 hR_f29 k K ).trans rfl
theorem f16_okA (R_f29 : f29_R) (hR_f29 : AnsOk Try.prog 29 (f29_cOf R_f29)) (k : Nat) : AnsOk Try.prog 16 (f16_cOf (f16_A R_f29 k)) := by
  intro X xs ns K x h
  unfold f16_cOf at h ⊢
  split at h
  · exact ans_main S (f16_Cok R_f29 hR_f29) Try.func16 (ent_of Try.func16 (by kernel_rfl) rfl) rfl (fun X K => f16_ev R_f29 hR_f29 k K ) h
  · cases h
/-- "outpost/outpostref18.All" -/
def f16 {X : Type} (k : Nat) (K : (List CV) → Option X)  : Option X := f16_A (fun X => @f29 X k) k X K 
theorem f16_ok (k : Nat) : AnsOk Try.prog 16 (f16_cOf (fun X => @f16 X k)) := f16_okA (fun X => @f29 X k) (f29_ok k) k
abbrev f15_R : Type 1 := (X : Type) → (Bool → Option X) → CV → CV → Option X
def f15_out (u : Bool) : Out := ⟨(.v (CV.bool u)), []⟩
def f15_cOf (R : f15_R) : FnC := fun X xs ns K => match xs, ns with
  | [(.v x0), (.v x1)], [] => R X (fun u => K (f15_out u)) x0 x1
  | _, _ => none
def f15_plan : Nat → Option (List Nat × List Wk)
  | 0 => some ([0, 1], [])
  | 1 => some ([2, 3], [])
  | 2 => some ([], [])
  | 3 => some ([2, 3], [])
  | 4 => some ([2, 3, 5], [])
  | 5 => some ([2, 3, 5], [])
  | 6 => some ([2, 3, 5], [])
  | 7 => some ([], [])
  | 8 => some ([], [])
  | _ => none
def f15_C : Fns := noC
theorem f15_Cok : CsOk Try.prog (f15_C) := noC_ok
def f15_cx : Cx := mkCx (tabOf rows) (f15_C) md (cmpIn cmps) f15_plan (f15_Cok)
def f15_S1 (v : Int × Int × Int × Bool × (List CV) × Int × Int × Bool × (List CV)) : St := ⟨[.undef, .undef, (.ptr [2] 0 0 0), (.ptr [3] 0 0 0), .undef, (.v (CV.int .i64 v.1)), .undef, .undef, .undef, .undef, .undef, .undef, .undef, .undef, .undef, .undef, .undef, .undef, .undef, .undef, .undef, .undef, .undef, .undef, .undef, .undef, .undef, .undef, .undef, .undef, .undef, .undef, .undef, .undef, .undef, .undef, .undef, .undef, .undef, .undef, .undef, .undef, .undef, .undef, .undef, .undef, .undef, .undef, .undef, .undef, .undef, .undef], [([2], (.obj [(.v (CV.int .i64 v.2.1)), (.v (CV.int .i64 v.2.2.1)), (.v (CV.bool v.2.2.2.1)), (.sl true (some 8) v.2.2.2.2.1)])), ([3], (.obj [(.v (CV.int .i64 v.2.2.2.2.2.1)), (.v (CV.int .i64 v.2.2.2.2.2.2.1)), (.v (CV.bool v.2.2.2.2.2.2.2.1)), (.sl true (some 8) v.2.2.2.2.2.2.2.2)]))]⟩
def f15_T1 {X : Type} (k : Nat) (K : Bool → Option X)   (rec1 : Int × Int × Int × Bool × (List CV) × Int × Int × Bool × (List CV) → Option X) (v5_0 : Int × Int × Int × Bool × (List CV) × Int × Int × Bool × (List CV)) : Option X :=
(bif (decide (v5_0.1 < (Nat.cast ((List.length v5_0.2.2.2.2.1)) : Int))) then
grd (decide (0 ≤ v5_0.1)) <|
Option.bind (v5_0.2.2.2.2.1)[(Int.toNat v5_0.1)]? fun e8 =>
grd (decide (0 ≤ v5_0.1)) <|
Option.bind (v5_0.2.2.2.2.2.2.2.2)[(Int.toNat v5_0.1)]? fun e9 =>
grd (CV.isA 8 e8) <|
grd (CV.isI .i64 (CV.cellD 0 e8)) <|
grd (CV.isI .i64 (CV.cellD 1 e8)) <|
grd (CV.isB (CV.cellD 2 e8)) <|
grd (CV.isB (CV.cellD 3 e8)) <|
grd (CV.isB (CV.cellD 4 e8)) <|
grd (CV.isI .i64 (CV.cellD 5 e8)) <|
grd (CV.isI .i64 (CV.cellD 6 e8)) <|
grd (CV.isB (CV.cellD 7 e8)) <|
grd (CV.isA 8 e9) <|
grd (CV.isI .i64 (CV.cellD 0 e9)) <|
grd (CV.isI .i64 (CV.cellD 1 e9)) <|
grd (CV.isB (CV.cellD 2 e9)) <|
grd (CV.isB (CV.cellD 3 e9)) <|
grd (CV.isB (CV.cellD 4 e9)) <|
grd (CV.isI .i64 (CV.cellD 5 e9)) <|
grd (CV.isI .i64 (CV.cellD 6 e9)) <|
grd (CV.isB (CV.cellD 7 e9)) <|
(bif (!(((CV.toI (CV.cellD 0 e8)) == (CV.toI (CV.cellD 0 e9))) && (((CV.toI (CV.cellD 1 e8)) == (CV.toI (CV.cellD 1 e9))) && (((CV.toB (CV.cellD 2 e8)) == (CV.toB (CV.cellD 2 e9))) && (((CV.toB (CV.cellD 3 e8)) == (CV.toB (CV.cellD 3 e9))) && (((CV.toB (CV.cellD 4 e8)) == (CV.toB (CV.cellD 4 e9))) && (((CV.toI (CV.cellD 5 e8)) == (CV.toI (CV.cellD 5 e9))) && (((CV.toI (CV.cellD 6 e8)) == (CV.toI (CV.cellD 6 e9))) && (((CV.toB (CV.cellD 7 e8)) == (CV.toB (CV.cellD 7 e9))) && true))))))))) then
K (false)
else
rec1 ((IntKind.wrap .i64 (v5_0.1 + 1)), v5_0.2.1, v5_0.2.2.1, v5_0.2.2.2.1, v5_0.2.2.2.2.1, v5_0.2.2.2.2.2.1, v5_0.2.2.2.2.2.2.1, v5_0.2.2.2.2.2.2.2.1, v5_0.2.2.2.2.2.2.2.2))
else
K (true))
def f15_L1 {X : Type} (k : Nat) (K : Bool → Option X)  (rec1 : Int × Int × Int × Bool × (List CV) × Int × Int × Bool × (List CV) → Option X) (v : Int × Int × Int × Bool × (List CV) × Int × Int × Bool × (List CV)) : Option X := f15_T1 k K   rec1 v
set_option maxRecDepth 100000 in
theorem f15_L1_ev {X : Type} (k : Nat) (K : Out → Option X)  (r1 : St → Option X) (v : Int × Int × Int × Bool × (List CV) × Int × Int × Bool × (List CV)) : loopB (f15_cx) k [.r, .r, .l, .r, .b] (Try.f15.body.getD .skip) (retK (f15_cx) [] Try.f15.results.toList K) [] r1 (f15_S1 v) = f15_T1 k (fun u => K (f15_out u))   (fun v => r1 (f15_S1 v)) v := by kernel_rfl
theorem f15_L1_it {X : Type} (k : Nat) (K : Out → Option X)  : (fun v => iter (loopB (f15_cx) k [.r, .r, .l, .r, .b] (Try.f15.body.getD .skip) (retK (f15_cx) [] Try.f15.results.toList K) []) k (f15_S1 v)) = iterV (f15_L1 k (fun u => K (f15_out u)) ) k :=
  iter_map (fun r1 v => (f15_L1_ev k K  r1 v).trans rfl) k
def f15_T {X : Type} (k : Nat) (K : Bool → Option X) (loop1 : Int × Int × Int × Bool × (List CV) × Int × Int × Bool × (List CV) → Option X) (x0 : CV) (x1 : CV) : Option X :=
grd (CV.isA 4 x0) <|
grd (CV.isI .i64 (CV.cellD 0 x0)) <|
grd (CV.isI .i64 (CV.cellD 1 x0)) <|
grd (CV.isB (CV.cellD 2 x0)) <|
grd (CV.isL (some 8) (CV.cellD 3 x0)) <|
grd (CV.isA 4 x1) <|
grd (CV.isI .i64 (CV.cellD 0 x1)) <|
grd (CV.isI .i64 (CV.cellD 1 x1)) <|
grd (CV.isB (CV.cellD 2 x1)) <|
grd (CV.isL (some 8) (CV.cellD 3 x1)) <|
(bif ((CV.toI (CV.cellD 0 x0)) != (CV.toI (CV.cellD 0 x1))) then
K (false)
else
(bif ((CV.toI (CV.cellD 1 x0)) != (CV.toI (CV.cellD 1 x1))) then
K (false)
else
(bif (!((CV.toB (CV.cellD 2 x0)) == (CV.toB (CV.cellD 2 x1)))) then
K (false)
else
(bif ((Nat.cast ((List.length (CV.toL (CV.cellD 3 x0)))) : Int) != (Nat.cast ((List.length (CV.toL (CV.cellD 3 x1)))) : Int)) then
K (false)
else
loop1 (0, (CV.toI (CV.cellD 0 x0)), (CV.toI (CV.cellD 1 x0)), (CV.toB (CV.cellD 2 x0)), (CV.toL (CV.cellD 3 x0)), (CV.toI (CV.cellD 0 x1)), (CV.toI (CV.cellD 1 x1)), (CV.toB (CV.cellD 2 x1)), (CV.toL (CV.cellD 3 x1)))))))
/-- "outpost/outpostref18.Same" -/
def f15_A (k : Nat) : f15_R := fun X K x0 x1 => f15_T k K (iterV (f15_L1 k K) k) x0 x1
set_option maxRecDepth 100000 in
theorem f15_ev' {X : Type} (k : Nat) (K : Out → Option X) (x0 : CV) (x1 : CV) : evFn (f15_cx) [] k Try.f15.ntmps Try.f15.results.toList (Try.f15.body.getD .skip) [(.v x0), (.v x1)] [] K = f15_T k (fun u => K (f15_out u)) (fun v => iter (loopB (f15_cx) k [.r, .r, .l, .r, .b] (Try.f15.body.getD .skip) (retK (f15_cx) [] Try.f15.results.toList K) []) k (f15_S1 v)) x0 x1 := by kernel_rfl
theorem f15_ev {X : Type} (k : Nat) (K : Out → Option X) (x0 : CV) (x1 : CV) : evFn (f15_cx) [] k Try.f15.ntmps Try.f15.results.toList (Try.f15.body.getD .skip) [(.v x0), (.v x1)] [] K = f15_A k X (fun u => K (f15_out u)) x0 x1 := (f15_ev' k K x0 x1).trans (by rw [f15_L1_it k K]; rfl)
theorem f15_okA (k : Nat) : AnsOk Try.prog 15 (f15_cOf (f15_A k)) := by
  intro X xs ns K x h
  unfold f15_cOf at h ⊢
  split at h
  · exact ans_main S (f15_Cok) Try.func15 (ent_of Try.func15 (by kernel_rfl) rfl) rfl (fun X K => f15_ev k K _ _) h
  · cases h
/-- "outpost/outpostref18.Same" -/
def f15 {X : Type} (k : Nat) (K : Bool → Option X) (x0 : CV) (x1 : CV) : Option X := f15_A k X K x0 x1
theorem f15_ok (k : Nat) : AnsOk Try.prog 15 (f15_cOf (fun X => @f15 X k)) := f15_okA k
abbrev f36_R : Type 1 := (X : Type) → (Bool → Option X) → Int → Option X
def f36_out (u : Bool) : Out := ⟨(.v (CV.bool u)), []⟩
def f36_cOf (R : f36_R) : FnC := fun X xs ns K => match xs, ns with
  | [(.v (CV.int .i64 x0))], [] => R X (fun u => K (f36_out u)) x0
  | _, _ => none
def f36_plan : Nat → Option (List Nat × List Wk)
  | 0 => some ([0], [])
  | 1 => some ([0], [])
  | _ => none
def f36_C : Fns := noC
theorem f36_Cok : CsOk Try.prog (f36_C) := noC_ok
def f36_cx : Cx := mkCx (tabOf rows) (f36_C) md (cmpIn cmps) f36_plan (f36_Cok)
def f36_T {X : Type} (k : Nat) (K : Bool → Option X)  (x0 : Int) : Option X :=
(bif (x0 == 3) then
K (true)
else
K ((x0 == 4)))
/-- "outpost/schema.sized" -/
def f36_A (k : Nat) : f36_R := fun X K x0 => f36_T k K  x0
set_option maxRecDepth 100000 in
theorem f36_ev' {X : Type} (k : Nat) (K : Out → Option X) (x0 : Int) : evFn (f36_cx) [] k Try.f36.ntmps Try.f36.results.toList (Try.f36.body.getD .skip) [(.v (CV.int .i64 x0))] [] K = f36_T k (fun u => K (f36_out u)) x0 := by kernel_rfl
theorem f36_ev {X : Type} (k : Nat) (K : Out → Option X) (x0 : Int) : evFn (f36_cx) [] k Try.f36.ntmps Try.f36.results.toList (Try.f36.body.getD .skip) [(.v (CV.int .i64 x0))] [] K = f36_A k X (fun u => K (f36_out u)) x0 := (f36_ev' k K x0).trans rfl
theorem f36_okA (k : Nat) : AnsOk Try.prog 36 (f36_cOf (f36_A k)) := by
  intro X xs ns K x h
  unfold f36_cOf at h ⊢
  split at h
  · exact ans_main S (f36_Cok) Try.func36 (ent_of Try.func36 (by kernel_rfl) rfl) rfl (fun X K => f36_ev k K _) h
  · cases h
/-- "outpost/schema.sized" -/
def f36 {X : Type} (k : Nat) (K : Bool → Option X) (x0 : Int) : Option X := f36_A k X K x0
theorem f36_ok (k : Nat) : AnsOk Try.prog 36 (f36_cOf (fun X => @f36 X k)) := f36_okA k
abbrev f20_R : Type 1 := (X : Type) → (Bool → Option X) → CV → Option X
def f20_out (u : Bool) : Out := ⟨(.v (CV.bool u)), []⟩
def f20_cOf (R : f20_R) : FnC := fun X xs ns K => match xs, ns with
  | [(.v x0)], [] => R X (fun u => K (f20_out u)) x0
  | _, _ => none
def f20_plan : Nat → Option (List Nat × List Wk)
  | 0 => some ([0], [])
  | 1 => some ([1], [])
  | 2 => some ([], [])
  | 3 => some ([1], [])
  | 4 => some ([1], [])
  | 5 => some ([1], [])
  | 6 => some ([], [])
  | 7 => some ([1], [])
  | _ => none
def f20_C (R_f36 : f36_R) : Fns := (orC 36 (f36_cOf R_f36) noC)
theorem f20_Cok (R_f36 : f36_R) (hR_f36 : AnsOk Try.prog 36 (f36_cOf R_f36)) : CsOk Try.prog (f20_C R_f36) := (orC_ok hR_f36 noC_ok)
def f20_cx (R_f36 : f36_R) (hR_f36 : AnsOk Try.prog 36 (f36_cOf R_f36)) : Cx := mkCx (tabOf rows) (f20_C R_f36) md (cmpIn cmps) f20_plan (f20_Cok R_f36 hR_f36)
def f20_J1 {X : Type} (R_f36 : f36_R) (k : Nat) (K : Bool → Option X) (x0 : CV) (v2 : Unit) : Option X :=
(bif (decide ((CV.toI (CV.cellD 1 x0)) ≥ 1)) then
(bif (decide ((CV.toI (CV.cellD 1 x0)) ≤ 6)) then
K ((decide ((CV.toI (CV.cellD 5 x0)) ≤ (CV.toI (CV.cellD 6 x0)))))
else
K (false))
else
K (false))
def f20_T {X : Type} (R_f36 : f36_R) (k : Nat) (K : Bool → Option X)  (x0 : CV) : Option X :=
grd (CV.isA 8 x0) <|
grd (CV.isI .i64 (CV.cellD 0 x0)) <|
grd (CV.isI .i64 (CV.cellD 1 x0)) <|
grd (CV.isB (CV.cellD 2 x0)) <|
grd (CV.isB (CV.cellD 3 x0)) <|
grd (CV.isB (CV.cellD 4 x0)) <|
grd (CV.isI .i64 (CV.cellD 5 x0)) <|
grd (CV.isI .i64 (CV.cellD 6 x0)) <|
grd (CV.isB (CV.cellD 7 x0)) <|
(bif (decide ((CV.toI (CV.cellD 0 x0)) < 0)) then
K (false)
else
(bif (decide ((CV.toI (CV.cellD 0 x0)) > 65535)) then
K (false)
else
(bif (CV.toB (CV.cellD 4 x0)) then
K ((((CV.toI (CV.cellD 0 x0)) == (CV.toI (CV.cellD 0 x0))) && (((CV.toI (CV.cellD 1 x0)) == 0) && (((CV.toB (CV.cellD 2 x0)) == false) && (((CV.toB (CV.cellD 3 x0)) == false) && (((CV.toB (CV.cellD 4 x0)) == true) && (((CV.toI (CV.cellD 5 x0)) == 0) && (((CV.toI (CV.cellD 6 x0)) == 0) && (((CV.toB (CV.cellD 7 x0)) == false) && true)))))))))
else
R_f36 _ (fun u3 =>
(bif u3 then
(bif (decide ((CV.toI (CV.cellD 5 x0)) < 0)) then
K (false)
else
(bif (decide ((CV.toI (CV.cellD 6 x0)) > 200)) then
K (false)
else
f20_J1 R_f36 k K x0 (())))
else
f20_J1 R_f36 k K x0 (()))) ((CV.toI (CV.cellD 1 x0))))))
/-- "outpost/schema.rightRule" -/
def f20_A (R_f36 : f36_R) (k : Nat) : f20_R := fun X K x0 => f20_T R_f36 k K  x0
set_option maxRecDepth 100000 in
theorem f20_ev' {X : Type} (R_f36 : f36_R) (hR_f36 : AnsOk Try.prog 36 (f36_cOf R_f36)) (k : Nat) (K : Out → Option X) (x0 : CV) : evFn (f20_cx R_f36 hR_f36) [] k Try.f20.ntmps Try.f20.results.toList (Try.f20.body.getD .skip) [(.v x0)] [] K = f20_T R_f36 k (fun u => K (f20_out u)) x0 := by kernel_rfl
theorem f20_ev {X : Type} (R_f36 : f36_R) (hR_f36 : AnsOk Try.prog 36 (f36_cOf R_f36)) (k : Nat) (K : Out → Option X) (x0 : CV) : evFn (f20_cx R_f36 hR_f36) [] k Try.f20.ntmps Try.f20.results.toList (Try.f20.body.getD .skip) [(.v x0)] [] K = f20_A R_f36 k X (fun u => K (f20_out u)) x0 := (f20_ev' R_f36 hR_f36 k K x0).trans rfl
theorem f20_okA (R_f36 : f36_R) (hR_f36 : AnsOk Try.prog 36 (f36_cOf R_f36)) (k : Nat) : AnsOk Try.prog 20 (f20_cOf (f20_A R_f36 k)) := by
  intro X xs ns K x h
  unfold f20_cOf at h ⊢
  split at h
  · exact ans_main S (f20_Cok R_f36 hR_f36) Try.func20 (ent_of Try.func20 (by kernel_rfl) rfl) rfl (fun X K => f20_ev R_f36 hR_f36 k K _) h
  · cases h
/-- "outpost/schema.rightRule" -/
def f20 {X : Type} (k : Nat) (K : Bool → Option X) (x0 : CV) : Option X := f20_A (fun X => @f36 X k) k X K x0
theorem f20_ok (k : Nat) : AnsOk Try.prog 20 (f20_cOf (fun X => @f20 X k)) := f20_okA (fun X => @f36 X k) (f36_ok k) k
abbrev f7_R : Type 1 := (X : Type) → (Bool → Option X) → CV → Option X
def f7_out (u : Bool) : Out := ⟨(.v (CV.bool u)), []⟩
def f7_cOf (R : f7_R) : FnC := fun X xs ns K => match xs, ns with
  | [(.v x0)], [] => R X (fun u => K (f7_out u)) x0
  | _, _ => none
def f7_plan : Nat → Option (List Nat × List Wk)
  | 0 => some ([0], [])
  | 1 => some ([1], [])
  | 2 => some ([], [])
  | 3 => some ([1], [])
  | 4 => some ([1, 30, 31, 32], [])
  | 5 => some ([1, 30, 31, 32], [])
  | 6 => some ([1, 3, 4, 30, 31, 32], [])
  | 7 => some ([], [])
  | 8 => some ([1, 30, 31, 32], [])
  | 9 => some ([], [])
  | _ => none
def f7_C (R_f20 : f20_R) : Fns := (orC 20 (f20_cOf R_f20) noC)
theorem f7_Cok (R_f20 : f20_R) (hR_f20 : AnsOk Try.prog 20 (f20_cOf R_f20)) : CsOk Try.prog (f7_C R_f20) := (orC_ok hR_f20 noC_ok)
def f7_cx (R_f20 : f20_R) (hR_f20 : AnsOk Try.prog 20 (f20_cOf R_f20)) : Cx := mkCx (tabOf rows) (f7_C R_f20) md (cmpIn cmps) f7_plan (f7_Cok R_f20 hR_f20)
def f7_S1 (v : (List CV) × Int × Int × Int × Int × Bool × (List CV)) : St := ⟨[.undef, (.ptr [1] 0 0 0), .undef, .undef, .undef, .undef, .undef, .undef, .undef, .undef, .undef, .undef, .undef, .undef, .undef, .undef, .undef, .undef, .undef, .undef, .undef, .undef, .undef, .undef, .undef, .undef, .undef, .undef, .undef, .undef, (.sl true (some 8) v.1), (.v (CV.int .i64 v.2.1)), (.v (CV.int .i64 v.2.2.1)), .undef, .undef, .undef, .undef, .undef, .undef, .undef, .undef, .undef, .undef, .undef, .undef, .undef, .undef, .undef, .undef, .undef, .undef, .undef, .undef, .undef, .undef, .undef, .undef], [([1], (.obj [(.v (CV.int .i64 v.2.2.2.1)), (.v (CV.int .i64 v.2.2.2.2.1)), (.v (CV.bool v.2.2.2.2.2.1)), (.sl true (some 8) v.2.2.2.2.2.2)]))]⟩
def f7_J1 {X : Type} (R_f20 : f20_R) (k : Nat) (K : Bool → Option X) (rec1 : (List CV) × Int × Int × Int × Int × Bool × (List CV) → Option X) (v5_0 : (List CV) × Int × Int × Int × Int × Bool × (List CV)) (v14 : Unit) : Option X :=
rec1 (v5_0.1, v5_0.2.1, (IntKind.wrap .i64 (v5_0.2.2.1 + 1)), v5_0.2.2.2.1, v5_0.2.2.2.2.1, v5_0.2.2.2.2.2.1, v5_0.2.2.2.2.2.2)
def f7_T1 {X : Type} (R_f20 : f20_R) (k : Nat) (K : Bool → Option X)   (rec1 : (List CV) × Int × Int × Int × Int × Bool × (List CV) → Option X) (v5_0 : (List CV) × Int × Int × Int × Int × Bool × (List CV)) : Option X :=
(bif (decide (v5_0.2.2.1 < v5_0.2.1)) then
grd (decide (0 ≤ v5_0.2.2.1)) <|
Option.bind (v5_0.1)[(Int.toNat v5_0.2.2.1)]? fun e15 =>
grd (CV.isA 8 e15) <|
grd (CV.isI .i64 (CV.cellD 0 e15)) <|
grd (CV.isI .i64 (CV.cellD 1 e15)) <|
grd (CV.isB (CV.cellD 2 e15)) <|
grd (CV.isB (CV.cellD 3 e15)) <|
grd (CV.isB (CV.cellD 4 e15)) <|
grd (CV.isI .i64 (CV.cellD 5 e15)) <|
grd (CV.isI .i64 (CV.cellD 6 e15)) <|
grd (CV.isB (CV.cellD 7 e15)) <|
R_f20 _ (fun u16 =>
(bif (!u16) then
K (false)
else
(bif (decide (v5_0.2.2.1 > 0)) then
grd (decide (0 ≤ (IntKind.wrap .i64 (v5_0.2.2.1 - 1)))) <|
Option.bind (v5_0.2.2.2.2.2.2)[(Int.toNat (IntKind.wrap .i64 (v5_0.2.2.1 - 1)))]? fun e17 =>
Option.bind (CV.cell e17 0) fun c18 =>
grd (CV.isI .i64 c18) <|
(bif (decide ((CV.toI c18) ≥ (CV.toI (CV.cellD 0 e15)))) then
K (false)
else
f7_J1 R_f20 k K rec1 v5_0 (()))
else
f7_J1 R_f20 k K rec1 v5_0 (())))) ((CV.agg [(CV.int .i64 (CV.toI (CV.cellD 0 e15))), (CV.int .i64 (CV.toI (CV.cellD 1 e15))), (CV.bool (CV.toB (CV.cellD 2 e15))), (CV.bool (CV.toB (CV.cellD 3 e15))), (CV.bool (CV.toB (CV.cellD 4 e15))), (CV.int .i64 (CV.toI (CV.cellD 5 e15))), (CV.int .i64 (CV.toI (CV.cellD 6 e15))), (CV.bool (CV.toB (CV.cellD 7 e15)))]))
else
K (true))
def f7_L1 {X : Type} (R_f20 : f20_R) (k : Nat) (K : Bool → Option X)  (rec1 : (List CV) × Int × Int × Int × Int × Bool × (List CV) → Option X) (v : (List CV) × Int × Int × Int × Int × Bool × (List CV)) : Option X := f7_T1 R_f20 k K   rec1 v
set_option maxRecDepth 100000 in
theorem f7_L1_ev {X : Type} (R_f20 : f20_R) (hR_f20 : AnsOk Try.prog 20 (f20_cOf R_f20)) (k : Nat) (K : Out → Option X)  (r1 : St → Option X) (v : (List CV) × Int × Int × Int × Int × Bool × (List CV)) : loopB (f7_cx R_f20 hR_f20) k [.r, .r, .l, .r, .b] (Try.f7.body.getD .skip) (retK (f7_cx R_f20 hR_f20) [] Try.f7.results.toList K) [] r1 (f7_S1 v) = f7_T1 R_f20 k (fun u => K (f7_out u))   (fun v => r1 (f7_S1 v)) v := by kernel_rfl
theorem f7_L1_it {X : Type} (R_f20 : f20_R) (hR_f20 : AnsOk Try.prog 20 (f20_cOf R_f20)) (k : Nat) (K : Out → Option X)  : (fun v => iter (loopB (f7_cx R_f20 hR_f20) k [.r, .r, .l, .r, .b] (Try.f7.body.getD .skip) (retK (f7_cx R_f20 hR_f20) [] Try.f7.results.toList K) []) k (f7_S1 v)) = iterV (f7_L1 R_f20 k (fun u => K (f7_out u)) ) k :=
  iter_map (fun r1 v => (f7_L1_ev R_f20 hR_f20 k K  r1 v).trans rfl) k
def f7_T {X : Type} (R_f20 : f20_R) (k : Nat) (K : Bool → Option X) (loop1 : (List CV) × Int × Int × Int × Int × Bool × (List CV) → Option X) (x0 : CV) : Option X :=
grd (CV.isA 4 x0) <|
grd (CV.isI .i64 (CV.cellD 0 x0)) <|
grd (CV.isI .i64 (CV.cellD 1 x0)) <|
grd (CV.isB (CV.cellD 2 x0)) <|
grd (CV.isL (some 8) (CV.cellD 3 x0)) <|
(bif (decide ((CV.toI (CV.cellD 0 x0)) < 0)) then
K (false)
else
(bif (decide ((CV.toI (CV.cellD 0 x0)) > 65534)) then
K (false)
else
(bif (decide ((CV.toI (CV.cellD 1 x0)) < 1)) then
K (false)
else
(bif (decide ((CV.toI (CV.cellD 1 x0)) > 8)) then
K (false)
else
(bif (decide ((Nat.cast ((List.length (CV.toL (CV.cellD 3 x0)))) : Int) > 32)) then
K (false)
else
loop1 ((CV.toL (CV.cellD 3 x0)), (Nat.cast ((List.length (CV.toL (CV.cellD 3 x0)))) : Int), 0, (CV.toI (CV.cellD 0 x0)), (CV.toI (CV.cellD 1 x0)), (CV.toB (CV.cellD 2 x0)), (CV.toL (CV.cellD 3 x0))))))))
/-- "outpost/schema.Right" -/
def f7_A (R_f20 : f20_R) (k : Nat) : f7_R := fun X K x0 => f7_T R_f20 k K (iterV (f7_L1 R_f20 k K) k) x0
set_option maxRecDepth 100000 in
theorem f7_ev' {X : Type} (R_f20 : f20_R) (hR_f20 : AnsOk Try.prog 20 (f20_cOf R_f20)) (k : Nat) (K : Out → Option X) (x0 : CV) : evFn (f7_cx R_f20 hR_f20) [] k Try.f7.ntmps Try.f7.results.toList (Try.f7.body.getD .skip) [(.v x0)] [] K = f7_T R_f20 k (fun u => K (f7_out u)) (fun v => iter (loopB (f7_cx R_f20 hR_f20) k [.r, .r, .l, .r, .b] (Try.f7.body.getD .skip) (retK (f7_cx R_f20 hR_f20) [] Try.f7.results.toList K) []) k (f7_S1 v)) x0 := by kernel_rfl
theorem f7_ev {X : Type} (R_f20 : f20_R) (hR_f20 : AnsOk Try.prog 20 (f20_cOf R_f20)) (k : Nat) (K : Out → Option X) (x0 : CV) : evFn (f7_cx R_f20 hR_f20) [] k Try.f7.ntmps Try.f7.results.toList (Try.f7.body.getD .skip) [(.v x0)] [] K = f7_A R_f20 k X (fun u => K (f7_out u)) x0 := (f7_ev' R_f20 hR_f20 k K x0).trans (by rw [f7_L1_it R_f20 hR_f20 k K]; rfl)
theorem f7_okA (R_f20 : f20_R) (hR_f20 : AnsOk Try.prog 20 (f20_cOf R_f20)) (k : Nat) : AnsOk Try.prog 7 (f7_cOf (f7_A R_f20 k)) := by
  intro X xs ns K x h
  unfold f7_cOf at h ⊢
  split at h
  · exact ans_main S (f7_Cok R_f20 hR_f20) Try.func7 (ent_of Try.func7 (by kernel_rfl) rfl) rfl (fun X K => f7_ev R_f20 hR_f20 k K _) h
  · cases h
/-- "outpost/schema.Right" -/
def f7 {X : Type} (k : Nat) (K : Bool → Option X) (x0 : CV) : Option X := f7_A (fun X => @f20 X k) k X K x0
theorem f7_ok (k : Nat) : AnsOk Try.prog 7 (f7_cOf (fun X => @f7 X k)) := f7_okA (fun X => @f20 X k) (f20_ok k) k
abbrev f31_R : Type 1 := (X : Type) → (Bool → Option X) → CV → Int → Option X
def f31_out (u : Bool) : Out := ⟨(.v (CV.bool u)), []⟩
def f31_cOf (R : f31_R) : FnC := fun X xs ns K => match xs, ns with
  | [(.v x0), (.bptr none (CV.int .i64 x1) 0)], [] => R X (fun u => K (f31_out u)) x0 x1
  | _, _ => none
def f31_plan : Nat → Option (List Nat × List Wk)
  | 0 => some ([0, 1], [])
  | 1 => some ([1, 2], [])
  | _ => none
def f31_C : Fns := noC
theorem f31_Cok : CsOk Try.prog (f31_C) := noC_ok
def f31_cx : Cx := mkCx (tabOf rows) (f31_C) md (cmpIn cmps) f31_plan (f31_Cok)
def f31_T {X : Type} (k : Nat) (K : Bool → Option X)  (x0 : CV) (x1 : Int) : Option X :=
grd (CV.isA 4 x0) <|
grd (CV.isI .i64 (CV.cellD 0 x0)) <|
grd (CV.isI .i64 (CV.cellD 1 x0)) <|
grd (CV.isB (CV.cellD 2 x0)) <|
grd (CV.isL (some 8) (CV.cellD 3 x0)) <|
K (((CV.toI (CV.cellD 0 x0)) == x1))
/-- "outpost/schema.Find$1" -/
def f31_A (k : Nat) : f31_R := fun X K x0 x1 => f31_T k K  x0 x1
set_option maxRecDepth 100000 in
theorem f31_ev' {X : Type} (k : Nat) (K : Out → Option X) (x0 : CV) (x1 : Int) : evFn (f31_cx) [] k Try.f31.ntmps Try.f31.results.toList (Try.f31.body.getD .skip) [(.v x0), (.bptr none (CV.int .i64 x1) 0)] [] K = f31_T k (fun u => K (f31_out u)) x0 x1 := by kernel_rfl
theorem f31_ev {X : Type} (k : Nat) (K : Out → Option X) (x0 : CV) (x1 : Int) : evFn (f31_cx) [] k Try.f31.ntmps Try.f31.results.toList (Try.f31.body.getD .skip) [(.v x0), (.bptr none (CV.int .i64 x1) 0)] [] K = f31_A k X (fun u => K (f31_out u)) x0 x1 := (f31_ev' k K x0 x1).trans rfl
theorem f31_okA (k : Nat) : AnsOk Try.prog 31 (f31_cOf (f31_A k)) := by
  intro X xs ns K x h
  unfold f31_cOf at h ⊢
  split at h
  · exact ans_main S (f31_Cok) Try.func31 (ent_of Try.func31 (by kernel_rfl) rfl) rfl (fun X K => f31_ev k K _ _) h
  · cases h
/-- "outpost/schema.Find$1" -/
def f31 {X : Type} (k : Nat) (K : Bool → Option X) (x0 : CV) (x1 : Int) : Option X := f31_A k X K x0 x1
theorem f31_ok (k : Nat) : AnsOk Try.prog 31 (f31_cOf (fun X => @f31 X k)) := f31_okA k
abbrev f30_R : Type 1 := (X : Type) → (Int → Option X) → (List CV) → Int → Option X
def f30_out (u : Int) : Out := ⟨(.v (CV.int .i64 u)), []⟩
def f30_cOf (R : f30_R) : FnC := fun X xs ns K => match xs, ns with
  | [(.sl false (some 4) x0), (.fn 31 [(.bptr none (CV.int .i64 x1) 0)])], [] => R X (fun u => K (f30_out u)) x0 x1
  | _, _ => none
def f30_plan : Nat → Option (List Nat × List Wk)
  | 0 => some ([0, 1], [])
  | 1 => some ([0, 1], [])
  | 2 => some ([0, 1, 7, 8], [])
  | 3 => some ([0, 1, 7, 8], [])
  | 4 => some ([0, 1, 5, 7, 8], [])
  | 5 => some ([5], [])
  | 6 => some ([0, 1, 7, 8], [])
  | 7 => some ([], [])
  | _ => none
def f30_C (R_f31 : f31_R) : Fns := (orC 31 (f31_cOf R_f31) noC)
theorem f30_Cok (R_f31 : f31_R) (hR_f31 : AnsOk Try.prog 31 (f31_cOf R_f31)) : CsOk Try.prog (f30_C R_f31) := (orC_ok hR_f31 noC_ok)
def f30_cx (R_f31 : f31_R) (hR_f31 : AnsOk Try.prog 31 (f31_cOf R_f31)) : Cx := mkCx (tabOf rows) (f30_C R_f31) md (cmpIn cmps) f30_plan (f30_Cok R_f31 hR_f31)
def f30_S1 (v : (List CV) × Int × Int × Int) : St := ⟨[(.sl false (some 4) v.1), (.fn 31 [(.bptr none (CV.int .i64 v.2.1) 0)]), .undef, .undef, .undef, .undef, .undef, (.v (CV.int .i64 v.2.2.1)), (.v (CV.int .i64 v.2.2.2)), .undef, .undef, .undef, .undef, .undef, .undef, .undef, .undef, .undef, .undef], []⟩
def f30_T1 {X : Type} (R_f31 : f31_R) (k : Nat) (K : Int → Option X)   (rec1 : (List CV) × Int × Int × Int → Option X) (v4_0 : (List CV) × Int × Int × Int) : Option X :=
(bif (decide (v4_0.2.2.2 < v4_0.2.2.1)) then
grd (decide (0 ≤ v4_0.2.2.2)) <|
Option.bind (v4_0.1)[(Int.toNat v4_0.2.2.2)]? fun e8 =>
R_f31 _ (fun u9 =>
(bif u9 then
K (v4_0.2.2.2)
else
rec1 (v4_0.1, v4_0.2.1, v4_0.2.2.1, (IntKind.wrap .i64 (v4_0.2.2.2 + 1))))) (e8) (v4_0.2.1)
else
K ((-1)))
def f30_L1 {X : Type} (R_f31 : f31_R) (k : Nat) (K : Int → Option X)  (rec1 : (List CV) × Int × Int × Int → Option X) (v : (List CV) × Int × Int × Int) : Option X := f30_T1 R_f31 k K   rec1 v
set_option maxRecDepth 100000 in
theorem f30_L1_ev {X : Type} (R_f31 : f31_R) (hR_f31 : AnsOk Try.prog 31 (f31_cOf R_f31)) (k : Nat) (K : Out → Option X)  (r1 : St → Option X) (v : (List CV) × Int × Int × Int) : loopB (f30_cx R_f31 hR_f31) k [.r, .l, .r, .b] (Try.f30.body.getD .skip) (retK (f30_cx R_f31 hR_f31) [] Try.f30.results.toList K) [] r1 (f30_S1 v) = f30_T1 R_f31 k (fun u => K (f30_out u))   (fun v => r1 (f30_S1 v)) v := by kernel_rfl
theorem f30_L1_it {X : Type} (R_f31 : f31_R) (hR_f31 : AnsOk Try.prog 31 (f31_cOf R_f31)) (k : Nat) (K : Out → Option X)  : (fun v => iter (loopB (f30_cx R_f31 hR_f31) k [.r, .l, .r, .b] (Try.f30.body.getD .skip) (retK (f30_cx R_f31 hR_f31) [] Try.f30.results.toList K) []) k (f30_S1 v)) = iterV (f30_L1 R_f31 k (fun u => K (f30_out u)) ) k :=
  iter_map (fun r1 v => (f30_L1_ev R_f31 hR_f31 k K  r1 v).trans rfl) k
def f30_T {X : Type} (R_f31 : f31_R) (k : Nat) (K : Int → Option X) (loop1 : (List CV) × Int × Int × Int → Option X) (x0 : List CV) (x1 : Int) : Option X :=
loop1 (x0, x1, (Nat.cast ((List.length x0)) : Int), 0)
/-- "slices.IndexFunc[[]outpost/api.Obj,outpost/api.Obj]" -/
def f30_A (R_f31 : f31_R) (k : Nat) : f30_R := fun X K x0 x1 => f30_T R_f31 k K (iterV (f30_L1 R_f31 k K) k) x0 x1
set_option maxRecDepth 100000 in
theorem f30_ev' {X : Type} (R_f31 : f31_R) (hR_f31 : AnsOk Try.prog 31 (f31_cOf R_f31)) (k : Nat) (K : Out → Option X) (x0 : List CV) (x1 : Int) : evFn (f30_cx R_f31 hR_f31) [] k Try.f30.ntmps Try.f30.results.toList (Try.f30.body.getD .skip) [(.sl false (some 4) x0), (.fn 31 [(.bptr none (CV.int .i64 x1) 0)])] [] K = f30_T R_f31 k (fun u => K (f30_out u)) (fun v => iter (loopB (f30_cx R_f31 hR_f31) k [.r, .l, .r, .b] (Try.f30.body.getD .skip) (retK (f30_cx R_f31 hR_f31) [] Try.f30.results.toList K) []) k (f30_S1 v)) x0 x1 := by kernel_rfl
theorem f30_ev {X : Type} (R_f31 : f31_R) (hR_f31 : AnsOk Try.prog 31 (f31_cOf R_f31)) (k : Nat) (K : Out → Option X) (x0 : List CV) (x1 : Int) : evFn (f30_cx R_f31 hR_f31) [] k Try.f30.ntmps Try.f30.results.toList (Try.f30.body.getD .skip) [(.sl false (some 4) x0), (.fn 31 [(.bptr none (CV.int .i64 x1) 0)])] [] K = f30_A R_f31 k X (fun u => K (f30_out u)) x0 x1 := (f30_ev' R_f31 hR_f31 k K x0 x1).trans (by rw [f30_L1_it R_f31 hR_f31 k K]; rfl)
theorem f30_okA (R_f31 : f31_R) (hR_f31 : AnsOk Try.prog 31 (f31_cOf R_f31)) (k : Nat) : AnsOk Try.prog 30 (f30_cOf (f30_A R_f31 k)) := by
  intro X xs ns K x h
  unfold f30_cOf at h ⊢
  split at h
  · exact ans_main S (f30_Cok R_f31 hR_f31) Try.func30 (ent_of Try.func30 (by kernel_rfl) rfl) rfl (fun X K => f30_ev R_f31 hR_f31 k K _ _) h
  · cases h
/-- "slices.IndexFunc[[]outpost/api.Obj,outpost/api.Obj]" -/
def f30 {X : Type} (k : Nat) (K : Int → Option X) (x0 : List CV) (x1 : Int) : Option X := f30_A (fun X => @f31 X k) k X K x0 x1
theorem f30_ok (k : Nat) : AnsOk Try.prog 30 (f30_cOf (fun X => @f30 X k)) := f30_okA (fun X => @f31 X k) (f31_ok k) k
def f44_plan : Nat → Option (List Nat × List Wk)
  | 0 => some ([0], [])
  | 1 => some ([0], [])
  | 2 => some ([], [])
  | 3 => some ([0], [])
  | _ => none
def f44_cx : Cx := mkCx (tabOf rows) noC md (cmpIn cmps) f44_plan (noC_ok (P := Try.prog))
/-- "slices.Clone[[]outpost/api.Rule,outpost/api.Rule]" -/
def f44 {X : Type} (k : Nat) (K : List CV → Option X) (x0 : List CV) : Option X := grd (decide ((0 + List.length x0) * 48 ≤ 140737488355328)) (K x0)
def f44_out (u : List CV) : Out := ⟨.osl [2000] (some 8) 0 (List.length u), [([2000], .row false (some 8) u)]⟩
set_option maxRecDepth 100000 in
theorem f44_fn (x0 : List CV) (hl : (decide ((0 + List.length x0) * 48 ≤ 140737488355328)) = true) : FnOk Try.prog 44 [.sl false (some 8) x0] [] (f44_out x0) := by
  refine nilsplit (cx := f44_cx) (xs := x0) (p := false) (sh := (some 8)) (fuel := 1) (ws := [⟨0, [], some [2000]⟩]) (tabOf_tabOk S.hr) (tabOf_noOther S.hr) (CsOk.fns (noC_ok (P := Try.prog)) (cmpsAre_ok cmps_ok)) S.hm Try.func44 rfl rfl Try.underlying22 (s1 := ⟨[(.sl false (some 8) x0), .undef, (.nil0 (some 8)), .undef, .undef, .undef, .undef, .undef], []⟩) (s2 := ⟨[(.sl false (some 8) x0), .undef, .undef, .undef, .undef, .undef, .undef, .undef], []⟩) (s3 := ⟨[(.sl false (some 8) x0), .undef, .undef, (.sl false (some 8) x0), .undef, .undef, .undef, .undef], []⟩) ?_ ?_ ?_ rfl ?_ (fun h => ?_) ⟨rfl, rfl⟩
  · kernel_rfl
  · kernel_rfl
  · kernel_rfl
  · refine Eq.trans (b := grd (decide ((0 + List.length x0) * 48 ≤ 140737488355328)) (some ⟨.osl [2000] (some 8) 0 (0 + List.length x0), [([2000], .row false (some 8) (List.take (0 + (0 + List.length x0)) (List.take 0 [] ++ x0)))]⟩)) (by kernel_rfl) ?_
    rw [hl]
    simp [grd, f44_out]
  · subst h
    kernel_rfl
abbrev f44_R : Type 1 := (X : Type) → (List CV → Option X) → List CV → Option X
def f44_cOf (R : f44_R) : FnC := fun X xs ns K => match xs, ns with
  | [.sl false (some 8) x0], [] => R X (fun u => K (f44_out u)) x0
  | _, _ => none
theorem f44_ok (k : Nat) : AnsOk Try.prog 44 (f44_cOf (fun X => @f44 X k)) := by
  intro X xs ns K x h
  unfold f44_cOf at h ⊢
  split at h
  · next x0 =>
    obtain ⟨h1, h2⟩ := grd_some (show grd (decide ((0 + List.length x0) * 48 ≤ 140737488355328)) (K (f44_out x0)) = some x from h)
    exact ⟨trivial, _, (f44_fn x0 h1).toX (ent_of Try.func44 (by kernel_rfl) rfl), h2, fun Y K' => by show grd _ _ = _; rw [h1]; rfl⟩
  · cases h
abbrev f32_R : Type 1 := (X : Type) → (Int × Int × Bool × Nat × (List CV) → Option X) → CV → Option X
def f32_out (u : Int × Int × Bool × Nat × (List CV)) : Out := ⟨(.agg [(.v (CV.int .i64 u.1)), (.v (CV.int .i64 u.2.1)), (.v (CV.bool u.2.2.1)), (.osl [3, 2000] (some 8) 0 u.2.2.2.1)]), [([3, 2000], (.row false (some 8) u.2.2.2.2))]⟩
def f32_cOf (R : f32_R) : FnC := fun X xs ns K => match xs, ns with
  | [(.v x0)], [] => R X (fun u => K (f32_out u)) x0
  | _, _ => none
def f32_plan : Nat → Option (List Nat × List Wk)
  | 0 => some ([0], [])
  | 1 => some ([1, 2], [])
  | 2 => some ([1, 2], [])
  | _ => none
def f32_C (R_f44 : f44_R) : Fns := (orC 44 (f44_cOf R_f44) noC)
theorem f32_Cok (R_f44 : f44_R) (hR_f44 : AnsOk Try.prog 44 (f44_cOf R_f44)) : CsOk Try.prog (f32_C R_f44) := (orC_ok hR_f44 noC_ok)
def f32_cx (R_f44 : f44_R) (hR_f44 : AnsOk Try.prog 44 (f44_cOf R_f44)) : Cx := mkCx (tabOf rows) (f32_C R_f44) md (cmpIn cmps) f32_plan (f32_Cok R_f44 hR_f44)
def f32_T {X : Type} (R_f44 : f44_R) (k : Nat) (K : Int × Int × Bool × Nat × (List CV) → Option X)  (x0 : CV) : Option X :=
grd (CV.isA 4 x0) <|
grd (CV.isI .i64 (CV.cellD 0 x0)) <|
grd (CV.isI .i64 (CV.cellD 1 x0)) <|
grd (CV.isB (CV.cellD 2 x0)) <|
grd (CV.isL (some 8) (CV.cellD 3 x0)) <|
R_f44 _ (fun u1 =>
K ((CV.toI (CV.cellD 0 x0)), (CV.toI (CV.cellD 1 x0)), (CV.toB (CV.cellD 2 x0)), (List.length u1), (List.take (0 + (List.length u1)) u1))) ((CV.toL (CV.cellD 3 x0)))
/-- "outpost/schema.copied" -/
def f32_A (R_f44 : f44_R) (k : Nat) : f32_R := fun X K x0 => f32_T R_f44 k K  x0
set_option maxRecDepth 100000 in
theorem f32_ev' {X : Type} (R_f44 : f44_R) (hR_f44 : AnsOk Try.prog 44 (f44_cOf R_f44)) (k : Nat) (K : Out → Option X) (x0 : CV) : evFn (f32_cx R_f44 hR_f44) [] k Try.f32.ntmps Try.f32.results.toList (Try.f32.body.getD .skip) [(.v x0)] [] K = f32_T R_f44 k (fun u => K (f32_out u)) x0 := by kernel_rfl
theorem f32_ev {X : Type} (R_f44 : f44_R) (hR_f44 : AnsOk Try.prog 44 (f44_cOf R_f44)) (k : Nat) (K : Out → Option X) (x0 : CV) : evFn (f32_cx R_f44 hR_f44) [] k Try.f32.ntmps Try.f32.results.toList (Try.f32.body.getD .skip) [(.v x0)] [] K = f32_A R_f44 k X (fun u => K (f32_out u)) x0 := (f32_ev' R_f44 hR_f44 k K x0).trans rfl
theorem f32_okA (R_f44 : f44_R) (hR_f44 : AnsOk Try.prog 44 (f44_cOf R_f44)) (k : Nat) : AnsOk Try.prog 32 (f32_cOf (f32_A R_f44 k)) := by
  intro X xs ns K x h
  unfold f32_cOf at h ⊢
  split at h
  · exact ans_main S (f32_Cok R_f44 hR_f44) Try.func32 (ent_of Try.func32 (by kernel_rfl) rfl) rfl (fun X K => f32_ev R_f44 hR_f44 k K _) h
  · cases h
/-- "outpost/schema.copied" -/
def f32 {X : Type} (k : Nat) (K : Int × Int × Bool × Nat × (List CV) → Option X) (x0 : CV) : Option X := f32_A (fun X => @f44 X k) k X K x0
theorem f32_ok (k : Nat) : AnsOk Try.prog 32 (f32_cOf (fun X => @f32 X k)) := f32_okA (fun X => @f44 X k) (f44_ok k) k
abbrev f17_R : Type 1 := (X : Type) → (Int × Int × Bool × Nat × Bool × (List CV) → Option X) → (List CV) → Int → Option X
def f17_out (u : Int × Int × Bool × Nat × Bool × (List CV)) : Out := ⟨(.tup [(.agg [(.v (CV.int .i64 u.1)), (.v (CV.int .i64 u.2.1)), (.v (CV.bool u.2.2.1)), (.osl [3, 0, 2000] (some 8) 0 u.2.2.2.1)]), (.v (CV.bool u.2.2.2.2.1))]), [([3, 0, 2000], (.row false (some 8) u.2.2.2.2.2))]⟩
def f17_cOf (R : f17_R) : FnC := fun X xs ns K => match xs, ns with
  | [(.sl false (some 4) x0), (.v (CV.int .i64 x1))], [] => R X (fun u => K (f17_out u)) x0 x1
  | _, _ => none
def f17_plan : Nat → Option (List Nat × List Wk)
  | 0 => some ([0, 1], [])
  | 1 => some ([0, 3, 4], [])
  | 2 => some ([0, 4, 6], [])
  | 3 => some ([4], [])
  | 4 => some ([0, 4, 6], [])
  | _ => none
def f17_C (R_f30 : f30_R) (R_f32 : f32_R) : Fns := (orC 30 (f30_cOf R_f30) (orC 32 (f32_cOf R_f32) noC))
theorem f17_Cok (R_f30 : f30_R) (R_f32 : f32_R) (hR_f30 : AnsOk Try.prog 30 (f30_cOf R_f30)) (hR_f32 : AnsOk Try.prog 32 (f32_cOf R_f32)) : CsOk Try.prog (f17_C R_f30 R_f32) := (orC_ok hR_f30 (orC_ok hR_f32 noC_ok))
def f17_cx (R_f30 : f30_R) (R_f32 : f32_R) (hR_f30 : AnsOk Try.prog 30 (f30_cOf R_f30)) (hR_f32 : AnsOk Try.prog 32 (f32_cOf R_f32)) : Cx := mkCx (tabOf rows) (f17_C R_f30 R_f32) md (cmpIn cmps) f17_plan (f17_Cok R_f30 R_f32 hR_f30 hR_f32)
def f17_T {X : Type} (R_f30 : f30_R) (R_f32 : f32_R) (k : Nat) (K : Int × Int × Bool × Nat × Bool × (List CV) → Option X)  (x0 : List CV) (x1 : Int) : Option X :=
R_f30 _ (fun u1 =>
(bif (decide (u1 < 0)) then
K (0, 0, false, 0, false, (List.take 0 []))
else
grd (decide (0 ≤ u1)) <|
Option.bind (x0)[(Int.toNat u1)]? fun e2 =>
R_f32 _ (fun u3 =>
K (u3.1, u3.2.1, u3.2.2.1, u3.2.2.2.1, true, (List.take (0 + u3.2.2.2.1) u3.2.2.2.2))) (e2))) (x0) (x1)
/-- "outpost/schema.Find" -/
def f17_A (R_f30 : f30_R) (R_f32 : f32_R) (k : Nat) : f17_R := fun X K x0 x1 => f17_T R_f30 R_f32 k K  x0 x1
set_option maxRecDepth 100000 in
theorem f17_ev' {X : Type} (R_f30 : f30_R) (R_f32 : f32_R) (hR_f30 : AnsOk Try.prog 30 (f30_cOf R_f30)) (hR_f32 : AnsOk Try.prog 32 (f32_cOf R_f32)) (k : Nat) (K : Out → Option X) (x0 : List CV) (x1 : Int) : evFn (f17_cx R_f30 R_f32 hR_f30 hR_f32) [] k Try.f17.ntmps Try.f17.results.toList (Try.f17.body.getD .skip) [(.sl false (some 4) x0), (.v (CV.int .i64 x1))] [] K = f17_T R_f30 R_f32 k (fun u => K (f17_out u)) x0 x1 := by kernel_rfl
theorem f17_ev {X : Type} (R_f30 : f30_R) (R_f32 : f32_R) (hR_f30 : AnsOk Try.prog 30 (f30_cOf R_f30)) (hR_f32 : AnsOk Try.prog 32 (f32_cOf R_f32)) (k : Nat) (K : Out → Option X) (x0 : List CV) (x1 : Int) : evFn (f17_cx R_f30 R_f32 hR_f30 hR_f32) [] k Try.f17.ntmps Try.f17.results.toList (Try.f17.body.getD .skip) [(.sl false (some 4) x0), (.v (CV.int .i64 x1))] [] K = f17_A R_f30 R_f32 k X (fun u => K (f17_out u)) x0 x1 := (f17_ev' R_f30 R_f32 hR_f30 hR_f32 k K x0 x1).trans rfl
theorem f17_okA (R_f30 : f30_R) (R_f32 : f32_R) (hR_f30 : AnsOk Try.prog 30 (f30_cOf R_f30)) (hR_f32 : AnsOk Try.prog 32 (f32_cOf R_f32)) (k : Nat) : AnsOk Try.prog 17 (f17_cOf (f17_A R_f30 R_f32 k)) := by
  intro X xs ns K x h
  unfold f17_cOf at h ⊢
  split at h
  · exact ans_main S (f17_Cok R_f30 R_f32 hR_f30 hR_f32) Try.func17 (ent_of Try.func17 (by kernel_rfl) rfl) rfl (fun X K => f17_ev R_f30 R_f32 hR_f30 hR_f32 k K _ _) h
  · cases h
/-- "outpost/schema.Find" -/
def f17 {X : Type} (k : Nat) (K : Int × Int × Bool × Nat × Bool × (List CV) → Option X) (x0 : List CV) (x1 : Int) : Option X := f17_A (fun X => @f30 X k) (fun X => @f32 X k) k X K x0 x1
theorem f17_ok (k : Nat) : AnsOk Try.prog 17 (f17_cOf (fun X => @f17 X k)) := f17_okA (fun X => @f30 X k) (fun X => @f32 X k) (f30_ok k) (f32_ok k) k
abbrev f34_R : Type 1 := (X : Type) → (Bool → Option X) → CV → Int → Option X
def f34_out (u : Bool) : Out := ⟨(.v (CV.bool u)), []⟩
def f34_cOf (R : f34_R) : FnC := fun X xs ns K => match xs, ns with
  | [(.v x0), (.bptr none (CV.int .i64 x1) 0)], [] => R X (fun u => K (f34_out u)) x0 x1
  | _, _ => none
def f34_plan : Nat → Option (List Nat × List Wk)
  | 0 => some ([0, 1], [])
  | 1 => some ([1, 2], [])
  | _ => none
def f34_C : Fns := noC
theorem f34_Cok : CsOk Try.prog (f34_C) := noC_ok
def f34_cx : Cx := mkCx (tabOf rows) (f34_C) md (cmpIn cmps) f34_plan (f34_Cok)
def f34_T {X : Type} (k : Nat) (K : Bool → Option X)  (x0 : CV) (x1 : Int) : Option X :=
grd (CV.isA 8 x0) <|
grd (CV.isI .i64 (CV.cellD 0 x0)) <|
grd (CV.isI .i64 (CV.cellD 1 x0)) <|
grd (CV.isB (CV.cellD 2 x0)) <|
grd (CV.isB (CV.cellD 3 x0)) <|
grd (CV.isB (CV.cellD 4 x0)) <|
grd (CV.isI .i64 (CV.cellD 5 x0)) <|
grd (CV.isI .i64 (CV.cellD 6 x0)) <|
grd (CV.isB (CV.cellD 7 x0)) <|
K (((CV.toI (CV.cellD 0 x0)) == x1))
/-- "outpost/schema.Rule$1" -/
def f34_A (k : Nat) : f34_R := fun X K x0 x1 => f34_T k K  x0 x1
set_option maxRecDepth 100000 in
theorem f34_ev' {X : Type} (k : Nat) (K : Out → Option X) (x0 : CV) (x1 : Int) : evFn (f34_cx) [] k Try.f34.ntmps Try.f34.results.toList (Try.f34.body.getD .skip) [(.v x0), (.bptr none (CV.int .i64 x1) 0)] [] K = f34_T k (fun u => K (f34_out u)) x0 x1 := by kernel_rfl
theorem f34_ev {X : Type} (k : Nat) (K : Out → Option X) (x0 : CV) (x1 : Int) : evFn (f34_cx) [] k Try.f34.ntmps Try.f34.results.toList (Try.f34.body.getD .skip) [(.v x0), (.bptr none (CV.int .i64 x1) 0)] [] K = f34_A k X (fun u => K (f34_out u)) x0 x1 := (f34_ev' k K x0 x1).trans rfl
theorem f34_okA (k : Nat) : AnsOk Try.prog 34 (f34_cOf (f34_A k)) := by
  intro X xs ns K x h
  unfold f34_cOf at h ⊢
  split at h
  · exact ans_main S (f34_Cok) Try.func34 (ent_of Try.func34 (by kernel_rfl) rfl) rfl (fun X K => f34_ev k K _ _) h
  · cases h
/-- "outpost/schema.Rule$1" -/
def f34 {X : Type} (k : Nat) (K : Bool → Option X) (x0 : CV) (x1 : Int) : Option X := f34_A k X K x0 x1
theorem f34_ok (k : Nat) : AnsOk Try.prog 34 (f34_cOf (fun X => @f34 X k)) := f34_okA k
abbrev f33_R : Type 1 := (X : Type) → (Int → Option X) → (List CV) → Int → Option X
def f33_out (u : Int) : Out := ⟨(.v (CV.int .i64 u)), []⟩
def f33_cOf (R : f33_R) : FnC := fun X xs ns K => match xs, ns with
  | [(.sl false (some 8) x0), (.fn 34 [(.bptr none (CV.int .i64 x1) 0)])], [] => R X (fun u => K (f33_out u)) x0 x1
  | _, _ => none
def f33_plan : Nat → Option (List Nat × List Wk)
  | 0 => some ([0, 1], [])
  | 1 => some ([0, 1], [])
  | 2 => some ([0, 1, 7, 8], [])
  | 3 => some ([0, 1, 7, 8], [])
  | 4 => some ([0, 1, 5, 7, 8], [])
  | 5 => some ([5], [])
  | 6 => some ([0, 1, 7, 8], [])
  | 7 => some ([], [])
  | _ => none
def f33_C (R_f34 : f34_R) : Fns := (orC 34 (f34_cOf R_f34) noC)
theorem f33_Cok (R_f34 : f34_R) (hR_f34 : AnsOk Try.prog 34 (f34_cOf R_f34)) : CsOk Try.prog (f33_C R_f34) := (orC_ok hR_f34 noC_ok)
def f33_cx (R_f34 : f34_R) (hR_f34 : AnsOk Try.prog 34 (f34_cOf R_f34)) : Cx := mkCx (tabOf rows) (f33_C R_f34) md (cmpIn cmps) f33_plan (f33_Cok R_f34 hR_f34)
def f33_S1 (v : (List CV) × Int × Int × Int) : St := ⟨[(.sl false (some 8) v.1), (.fn 34 [(.bptr none (CV.int .i64 v.2.1) 0)]), .undef, .undef, .undef, .undef, .undef, (.v (CV.int .i64 v.2.2.1)), (.v (CV.int .i64 v.2.2.2)), .undef, .undef, .undef, .undef, .undef, .undef, .undef, .undef, .undef, .undef], []⟩
def f33_T1 {X : Type} (R_f34 : f34_R) (k : Nat) (K : Int → Option X)   (rec1 : (List CV) × Int × Int × Int → Option X) (v4_0 : (List CV) × Int × Int × Int) : Option X :=
(bif (decide (v4_0.2.2.2 < v4_0.2.2.1)) then
grd (decide (0 ≤ v4_0.2.2.2)) <|
Option.bind (v4_0.1)[(Int.toNat v4_0.2.2.2)]? fun e8 =>
R_f34 _ (fun u9 =>
(bif u9 then
K (v4_0.2.2.2)
else
rec1 (v4_0.1, v4_0.2.1, v4_0.2.2.1, (IntKind.wrap .i64 (v4_0.2.2.2 + 1))))) (e8) (v4_0.2.1)
else
K ((-1)))
def f33_L1 {X : Type} (R_f34 : f34_R) (k : Nat) (K : Int → Option X)  (rec1 : (List CV) × Int × Int × Int → Option X) (v : (List CV) × Int × Int × Int) : Option X := f33_T1 R_f34 k K   rec1 v
set_option maxRecDepth 100000 in
theorem f33_L1_ev {X : Type} (R_f34 : f34_R) (hR_f34 : AnsOk Try.prog 34 (f34_cOf R_f34)) (k : Nat) (K : Out → Option X)  (r1 : St → Option X) (v : (List CV) × Int × Int × Int) : loopB (f33_cx R_f34 hR_f34) k [.r, .l, .r, .b] (Try.f33.body.getD .skip) (retK (f33_cx R_f34 hR_f34) [] Try.f33.results.toList K) [] r1 (f33_S1 v) = f33_T1 R_f34 k (fun u => K (f33_out u))   (fun v => r1 (f33_S1 v)) v := by kernel_rfl
theorem f33_L1_it {X : Type} (R_f34 : f34_R) (hR_f34 : AnsOk Try.prog 34 (f34_cOf R_f34)) (k : Nat) (K : Out → Option X)  : (fun v => iter (loopB (f33_cx R_f34 hR_f34) k [.r, .l, .r, .b] (Try.f33.body.getD .skip) (retK (f33_cx R_f34 hR_f34) [] Try.f33.results.toList K) []) k (f33_S1 v)) = iterV (f33_L1 R_f34 k (fun u => K (f33_out u)) ) k :=
  iter_map (fun r1 v => (f33_L1_ev R_f34 hR_f34 k K  r1 v).trans rfl) k
def f33_T {X : Type} (R_f34 : f34_R) (k : Nat) (K : Int → Option X) (loop1 : (List CV) × Int × Int × Int → Option X) (x0 : List CV) (x1 : Int) : Option X :=
loop1 (x0, x1, (Nat.cast ((List.length x0)) : Int), 0)
/-- "slices.IndexFunc[[]outpost/api.Rule,outpost/api.Rule]" -/
def f33_A (R_f34 : f34_R) (k : Nat) : f33_R := fun X K x0 x1 => f33_T R_f34 k K (iterV (f33_L1 R_f34 k K) k) x0 x1
set_option maxRecDepth 100000 in
theorem f33_ev' {X : Type} (R_f34 : f34_R) (hR_f34 : AnsOk Try.prog 34 (f34_cOf R_f34)) (k : Nat) (K : Out → Option X) (x0 : List CV) (x1 : Int) : evFn (f33_cx R_f34 hR_f34) [] k Try.f33.ntmps Try.f33.results.toList (Try.f33.body.getD .skip) [(.sl false (some 8) x0), (.fn 34 [(.bptr none (CV.int .i64 x1) 0)])] [] K = f33_T R_f34 k (fun u => K (f33_out u)) (fun v => iter (loopB (f33_cx R_f34 hR_f34) k [.r, .l, .r, .b] (Try.f33.body.getD .skip) (retK (f33_cx R_f34 hR_f34) [] Try.f33.results.toList K) []) k (f33_S1 v)) x0 x1 := by kernel_rfl
theorem f33_ev {X : Type} (R_f34 : f34_R) (hR_f34 : AnsOk Try.prog 34 (f34_cOf R_f34)) (k : Nat) (K : Out → Option X) (x0 : List CV) (x1 : Int) : evFn (f33_cx R_f34 hR_f34) [] k Try.f33.ntmps Try.f33.results.toList (Try.f33.body.getD .skip) [(.sl false (some 8) x0), (.fn 34 [(.bptr none (CV.int .i64 x1) 0)])] [] K = f33_A R_f34 k X (fun u => K (f33_out u)) x0 x1 := (f33_ev' R_f34 hR_f34 k K x0 x1).trans (by rw [f33_L1_it R_f34 hR_f34 k K]; rfl)
theorem f33_okA (R_f34 : f34_R) (hR_f34 : AnsOk Try.prog 34 (f34_cOf R_f34)) (k : Nat) : AnsOk Try.prog 33 (f33_cOf (f33_A R_f34 k)) := by
  intro X xs ns K x h
  unfold f33_cOf at h ⊢
  split at h
  · exact ans_main S (f33_Cok R_f34 hR_f34) Try.func33 (ent_of Try.func33 (by kernel_rfl) rfl) rfl (fun X K => f33_ev R_f34 hR_f34 k K _ _) h
  · cases h
/-- "slices.IndexFunc[[]outpost/api.Rule,outpost/api.Rule]" -/
def f33 {X : Type} (k : Nat) (K : Int → Option X) (x0 : List CV) (x1 : Int) : Option X := f33_A (fun X => @f34 X k) k X K x0 x1
theorem f33_ok (k : Nat) : AnsOk Try.prog 33 (f33_cOf (fun X => @f33 X k)) := f33_okA (fun X => @f34 X k) (f34_ok k) k
abbrev f18_R : Type 1 := (X : Type) → (CV × Bool → Option X) → (List CV) → Int → Int → Option X
def f18_out (u : CV × Bool) : Out := ⟨(.tup [(.v u.1), (.v (CV.bool u.2))]), []⟩
def f18_cOf (R : f18_R) : FnC := fun X xs ns K => match xs, ns with
  | [(.sl false (some 4) x0), (.v (CV.int .i64 x1)), (.v (CV.int .i64 x2))], [] => R X (fun u => K (f18_out u)) x0 x1 x2
  | _, _ => none
def f18_plan : Nat → Option (List Nat × List Wk)
  | 0 => some ([0, 1, 2], [])
  | 1 => some ([0, 1, 5, 6], [])
  | 2 => some ([5, 6, 8], [])
  | 3 => some ([6, 8, 10], [])
  | 4 => some ([6], [])
  | 5 => some ([6, 8, 10], [])
  | _ => none
def f18_C (R_f17 : f17_R) (R_f33 : f33_R) : Fns := (orC 17 (f17_cOf R_f17) (orC 33 (f33_cOf R_f33) noC))
theorem f18_Cok (R_f17 : f17_R) (R_f33 : f33_R) (hR_f17 : AnsOk Try.prog 17 (f17_cOf R_f17)) (hR_f33 : AnsOk Try.prog 33 (f33_cOf R_f33)) : CsOk Try.prog (f18_C R_f17 R_f33) := (orC_ok hR_f17 (orC_ok hR_f33 noC_ok))
def f18_cx (R_f17 : f17_R) (R_f33 : f33_R) (hR_f17 : AnsOk Try.prog 17 (f17_cOf R_f17)) (hR_f33 : AnsOk Try.prog 33 (f33_cOf R_f33)) : Cx := mkCx (tabOf rows) (f18_C R_f17 R_f33) md (cmpIn cmps) f18_plan (f18_Cok R_f17 R_f33 hR_f17 hR_f33)
def f18_T {X : Type} (R_f17 : f17_R) (R_f33 : f33_R) (k : Nat) (K : CV × Bool → Option X)  (x0 : List CV) (x1 : Int) (x2 : Int) : Option X :=
R_f17 _ (fun u1 =>
R_f33 _ (fun u2 =>
(bif (decide (u2 < 0)) then
K ((CV.agg [(CV.int .i64 0), (CV.int .i64 0), (CV.bool false), (CV.bool false), (CV.bool false), (CV.int .i64 0), (CV.int .i64 0), (CV.bool false)]), false)
else
grd (decide (0 ≤ u2)) <|
grd (decide (u2 < (Nat.cast (u1.2.2.2.1) : Int))) <|
Option.bind (u1.2.2.2.2.2)[(0 + (Int.toNat u2))]? fun e3 =>
grd (CV.isA 8 e3) <|
grd (CV.isI .i64 (CV.cellD 0 e3)) <|
grd (CV.isI .i64 (CV.cellD 1 e3)) <|
grd (CV.isB (CV.cellD 2 e3)) <|
grd (CV.isB (CV.cellD 3 e3)) <|
grd (CV.isB (CV.cellD 4 e3)) <|
grd (CV.isI .i64 (CV.cellD 5 e3)) <|
grd (CV.isI .i64 (CV.cellD 6 e3)) <|
grd (CV.isB (CV.cellD 7 e3)) <|
K ((CV.agg [(CV.int .i64 (CV.toI (CV.cellD 0 e3))), (CV.int .i64 (CV.toI (CV.cellD 1 e3))), (CV.bool (CV.toB (CV.cellD 2 e3))), (CV.bool (CV.toB (CV.cellD 3 e3))), (CV.bool (CV.toB (CV.cellD 4 e3))), (CV.int .i64 (CV.toI (CV.cellD 5 e3))), (CV.int .i64 (CV.toI (CV.cellD 6 e3))), (CV.bool (CV.toB (CV.cellD 7 e3)))]), true))) ((List.take u1.2.2.2.1 (List.drop 0 u1.2.2.2.2.2))) (x2)) (x0) (x1)
/-- "outpost/schema.Rule" -/
def f18_A (R_f17 : f17_R) (R_f33 : f33_R) (k : Nat) : f18_R := fun X K x0 x1 x2 => f18_T R_f17 R_f33 k K  x0 x1 x2
set_option maxRecDepth 100000 in
theorem f18_ev' {X : Type} (R_f17 : f17_R) (R_f33 : f33_R) (hR_f17 : AnsOk Try.prog 17 (f17_cOf R_f17)) (hR_f33 : AnsOk Try.prog 33 (f33_cOf R_f33)) (k : Nat) (K : Out → Option X) (x0 : List CV) (x1 : Int) (x2 : Int) : evFn (f18_cx R_f17 R_f33 hR_f17 hR_f33) [] k Try.f18.ntmps Try.f18.results.toList (Try.f18.body.getD .skip) [(.sl false (some 4) x0), (.v (CV.int .i64 x1)), (.v (CV.int .i64 x2))] [] K = f18_T R_f17 R_f33 k (fun u => K (f18_out u)) x0 x1 x2 := by kernel_rfl
theorem f18_ev {X : Type} (R_f17 : f17_R) (R_f33 : f33_R) (hR_f17 : AnsOk Try.prog 17 (f17_cOf R_f17)) (hR_f33 : AnsOk Try.prog 33 (f33_cOf R_f33)) (k : Nat) (K : Out → Option X) (x0 : List CV) (x1 : Int) (x2 : Int) : evFn (f18_cx R_f17 R_f33 hR_f17 hR_f33) [] k Try.f18.ntmps Try.f18.results.toList (Try.f18.body.getD .skip) [(.sl false (some 4) x0), (.v (CV.int .i64 x1)), (.v (CV.int .i64 x2))] [] K = f18_A R_f17 R_f33 k X (fun u => K (f18_out u)) x0 x1 x2 := (f18_ev' R_f17 R_f33 hR_f17 hR_f33 k K x0 x1 x2).trans rfl
theorem f18_okA (R_f17 : f17_R) (R_f33 : f33_R) (hR_f17 : AnsOk Try.prog 17 (f17_cOf R_f17)) (hR_f33 : AnsOk Try.prog 33 (f33_cOf R_f33)) (k : Nat) : AnsOk Try.prog 18 (f18_cOf (f18_A R_f17 R_f33 k)) := by
  intro X xs ns K x h
  unfold f18_cOf at h ⊢
  split at h
  · exact ans_main S (f18_Cok R_f17 R_f33 hR_f17 hR_f33) Try.func18 (ent_of Try.func18 (by kernel_rfl) rfl) rfl (fun X K => f18_ev R_f17 R_f33 hR_f17 hR_f33 k K _ _ _) h
  · cases h
/-- "outpost/schema.Rule" -/
def f18 {X : Type} (k : Nat) (K : CV × Bool → Option X) (x0 : List CV) (x1 : Int) (x2 : Int) : Option X := f18_A (fun X => @f17 X k) (fun X => @f33 X k) k X K x0 x1 x2
theorem f18_ok (k : Nat) : AnsOk Try.prog 18 (f18_cOf (fun X => @f18 X k)) := f18_okA (fun X => @f17 X k) (fun X => @f33 X k) (f17_ok k) (f33_ok k) k
abbrev f8_R : Type 1 := (X : Type) → (Int × Int × Nat × (List CV) → Option X) → CV → Option X
def f8_out (u : Int × Int × Nat × (List CV)) : Out := ⟨(.agg [(.v (CV.int .i64 u.1)), (.v (CV.int .i64 u.2.1)), (.v (CV.str ⟨#[]⟩)), (.osl [3, 2000] none 0 u.2.2.1), (.v (CV.int .i64 0)), (.v (CV.int .i64 0))]), [([3, 2000], (.row false none u.2.2.2))]⟩
def f8_cOf (R : f8_R) : FnC := fun X xs ns K => match xs, ns with
  | [(.v x0)], [] => R X (fun u => K (f8_out u)) x0
  | _, _ => none
def f8_plan : Nat → Option (List Nat × List Wk)
  | 0 => some ([0], [])
  | 1 => some ([1, 2], [])
  | 2 => some ([1, 2, 3], [])
  | 3 => some ([1, 2, 3, 4], [])
  | 4 => some ([2], [])
  | 5 => some ([1, 2, 3, 4, 13], [])
  | 6 => some ([1, 2, 3, 4, 13], [])
  | 7 => some ([1, 2, 3], [])
  | 8 => some ([2, 3, 4, 13], [])
  | 9 => some ([2, 3, 4], [])
  | 10 => some ([2, 3, 4, 13], [])
  | 11 => some ([2, 3, 4], [])
  | 12 => some ([2, 3, 13], [])
  | 13 => some ([2, 3, 13], [])
  | 14 => some ([2, 3], [])
  | _ => none
def f8_C : Fns := noC
theorem f8_Cok : CsOk Try.prog (f8_C) := noC_ok
def f8_cx : Cx := mkCx (tabOf rows) (f8_C) md (cmpIn cmps) f8_plan (f8_Cok)
def f8_J1 {X : Type} (k : Nat) (K : Int × Int × Nat × (List CV) → Option X) (x0 : CV) (v1 : Int × Nat × (List CV)) : Option X :=
K ((CV.toI (CV.cellD 1 x0)), v1.1, v1.2.1, (List.take (0 + v1.2.1) v1.2.2))
def f8_J2 {X : Type} (k : Nat) (K : Int × Int × Nat × (List CV) → Option X) (x0 : CV) (v3 : Bool) : Option X :=
(bif v3 then
f8_J1 k K x0 (0, 0, [])
else
K (0, 0, 0, (List.take 0 [])))
def f8_J3 {X : Type} (k : Nat) (K : Int × Int × Nat × (List CV) → Option X) (x0 : CV) (v2 : Bool) : Option X :=
(bif v2 then
f8_J1 k K x0 ((CV.toI (CV.cellD 5 x0)), 0, [])
else
(bif ((CV.toI (CV.cellD 1 x0)) == 3) then
none
else
(bif ((CV.toI (CV.cellD 1 x0)) == 4) then
grd (decide (0 ≤ (if 200 < (if 0 > (CV.toI (CV.cellD 5 x0)) then 0 else (CV.toI (CV.cellD 5 x0))) then 200 else (if 0 > (CV.toI (CV.cellD 5 x0)) then 0 else (CV.toI (CV.cellD 5 x0)))))) <|
grd (decide ((if 200 < (if 0 > (CV.toI (CV.cellD 5 x0)) then 0 else (CV.toI (CV.cellD 5 x0))) then 200 else (if 0 > (CV.toI (CV.cellD 5 x0)) then 0 else (CV.toI (CV.cellD 5 x0)))) ≤ (if 200 < (if 0 > (CV.toI (CV.cellD 5 x0)) then 0 else (CV.toI (CV.cellD 5 x0))) then 200 else (if 0 > (CV.toI (CV.cellD 5 x0)) then 0 else (CV.toI (CV.cellD 5 x0)))))) <|
grd (decide (((if 200 < (if 0 > (CV.toI (CV.cellD 5 x0)) then 0 else (CV.toI (CV.cellD 5 x0))) then 200 else (if 0 > (CV.toI (CV.cellD 5 x0)) then 0 else (CV.toI (CV.cellD 5 x0)))) * 1) ≤ 140737488355328)) <|
f8_J1 k K x0 (0, (Int.toNat (if 200 < (if 0 > (CV.toI (CV.cellD 5 x0)) then 0 else (CV.toI (CV.cellD 5 x0))) then 200 else (if 0 > (CV.toI (CV.cellD 5 x0)) then 0 else (CV.toI (CV.cellD 5 x0))))), (List.replicate (Int.toNat (if 200 < (if 0 > (CV.toI (CV.cellD 5 x0)) then 0 else (CV.toI (CV.cellD 5 x0))) then 200 else (if 0 > (CV.toI (CV.cellD 5 x0)) then 0 else (CV.toI (CV.cellD 5 x0))))) (CV.int .u8 0)))
else
(bif ((CV.toI (CV.cellD 1 x0)) == 2) then
f8_J2 k K x0 (((CV.toI (CV.cellD 1 x0)) == 2))
else
f8_J2 k K x0 (((CV.toI (CV.cellD 1 x0)) == 6))))))
def f8_T {X : Type} (k : Nat) (K : Int × Int × Nat × (List CV) → Option X)  (x0 : CV) : Option X :=
grd (CV.isA 8 x0) <|
grd (CV.isI .i64 (CV.cellD 0 x0)) <|
grd (CV.isI .i64 (CV.cellD 1 x0)) <|
grd (CV.isB (CV.cellD 2 x0)) <|
grd (CV.isB (CV.cellD 3 x0)) <|
grd (CV.isB (CV.cellD 4 x0)) <|
grd (CV.isI .i64 (CV.cellD 5 x0)) <|
grd (CV.isI .i64 (CV.cellD 6 x0)) <|
grd (CV.isB (CV.cellD 7 x0)) <|
(bif ((CV.toI (CV.cellD 1 x0)) == 1) then
f8_J3 k K x0 (((CV.toI (CV.cellD 1 x0)) == 1))
else
f8_J3 k K x0 (((CV.toI (CV.cellD 1 x0)) == 5)))
/-- "outpost/schema.Blank" -/
def f8_A (k : Nat) : f8_R := fun X K x0 => f8_T k K  x0
set_option maxRecDepth 100000 in
theorem f8_ev' {X : Type} (k : Nat) (K : Out → Option X) (x0 : CV) : evFn (f8_cx) [] k Try.f8.ntmps Try.f8.results.toList (Try.f8.body.getD .skip) [(.v x0)] [] K = f8_T k (fun u => K (f8_out u)) x0 := by kernel_rfl
theorem f8_ev {X : Type} (k : Nat) (K : Out → Option X) (x0 : CV) : evFn (f8_cx) [] k Try.f8.ntmps Try.f8.results.toList (Try.f8.body.getD .skip) [(.v x0)] [] K = f8_A k X (fun u => K (f8_out u)) x0 := (f8_ev' k K x0).trans rfl
theorem f8_okA (k : Nat) : AnsOk Try.prog 8 (f8_cOf (f8_A k)) := by
  intro X xs ns K x h
  unfold f8_cOf at h ⊢
  split at h
  · exact ans_main S (f8_Cok) Try.func8 (ent_of Try.func8 (by kernel_rfl) rfl) rfl (fun X K => f8_ev k K _) h
  · cases h
/-- "outpost/schema.Blank" -/
def f8 {X : Type} (k : Nat) (K : Int × Int × Nat × (List CV) → Option X) (x0 : CV) : Option X := f8_A k X K x0
theorem f8_ok (k : Nat) : AnsOk Try.prog 8 (f8_cOf (fun X => @f8 X k)) := f8_okA k
abbrev f6_R : Type 1 := (X : Type) → (Bool → Option X) → Option X
def f6_out (u : Bool) : Out := ⟨(.v (CV.bool u)), []⟩
def f6_cOf (R : f6_R) : FnC := fun X xs ns K => match xs, ns with
  | [], [] => R X (fun u => K (f6_out u)) 
  | _, _ => none
def f6_plan : Nat → Option (List Nat × List Wk)
  | 0 => some ([], [])
  | 1 => some ([], [])
  | 2 => some ([1, 2], [])
  | 3 => some ([], [])
  | 4 => some ([1, 2], [])
  | 5 => some ([1, 2, 18, 19], [])
  | 6 => some ([1, 2, 18, 19], [])
  | 7 => some ([1, 2, 3, 18, 19], [])
  | 8 => some ([], [])
  | 9 => some ([1, 2, 18, 19], [])
  | 10 => some ([1], [])
  | 11 => some ([1, 4, 5], [])
  | 12 => some ([1, 4, 5, 6, 7], [])
  | 13 => some ([4, 5, 6, 7, 9], [])
  | _ => none
def f6_C (R_f14 : f14_R) (R_f16 : f16_R) (R_f15 : f15_R) (R_f7 : f7_R) (R_f18 : f18_R) (R_f17 : f17_R) (R_f8 : f8_R) : Fns := (orC 7 (f7_cOf R_f7) (orC 8 (f8_cOf R_f8) (orC 14 (f14_cOf R_f14) (orC 15 (f15_cOf R_f15) (orC 16 (f16_cOf R_f16) (orC 17 (f17_cOf R_f17) (orC 18 (f18_cOf R_f18) noC)))))))
theorem f6_Cok (R_f14 : f14_R) (R_f16 : f16_R) (R_f15 : f15_R) (R_f7 : f7_R) (R_f18 : f18_R) (R_f17 : f17_R) (R_f8 : f8_R) (hR_f14 : AnsOk Try.prog 14 (f14_cOf R_f14)) (hR_f16 : AnsOk Try.prog 16 (f16_cOf R_f16)) (hR_f15 : AnsOk Try.prog 15 (f15_cOf R_f15)) (hR_f7 : AnsOk Try.prog 7 (f7_cOf R_f7)) (hR_f18 : AnsOk Try.prog 18 (f18_cOf R_f18)) (hR_f17 : AnsOk Try.prog 17 (f17_cOf R_f17)) (hR_f8 : AnsOk Try.prog 8 (f8_cOf R_f8)) : CsOk Try.prog (f6_C R_f14 R_f16 R_f15 R_f7 R_f18 R_f17 R_f8) := (orC_ok hR_f7 (orC_ok hR_f8 (orC_ok hR_f14 (orC_ok hR_f15 (orC_ok hR_f16 (orC_ok hR_f17 (orC_ok hR_f18 noC_ok)))))))
def f6_cx (R_f14 : f14_R) (R_f16 : f16_R) (R_f15 : f15_R) (R_f7 : f7_R) (R_f18 : f18_R) (R_f17 : f17_R) (R_f8 : f8_R) (hR_f14 : AnsOk Try.prog 14 (f14_cOf R_f14)) (hR_f16 : AnsOk Try.prog 16 (f16_cOf R_f16)) (hR_f15 : AnsOk Try.prog 15 (f15_cOf R_f15)) (hR_f7 : AnsOk Try.prog 7 (f7_cOf R_f7)) (hR_f18 : AnsOk Try.prog 18 (f18_cOf R_f18)) (hR_f17 : AnsOk Try.prog 17 (f17_cOf R_f17)) (hR_f8 : AnsOk Try.prog 8 (f8_cOf R_f8)) : Cx := mkCx (tabOf rows) (f6_C R_f14 R_f16 R_f15 R_f7 R_f18 R_f17 R_f8) md (cmpIn cmps) f6_plan (f6_Cok R_f14 R_f16 R_f15 R_f7 R_f18 R_f17 R_f8 hR_f14 hR_f16 hR_f15 hR_f7 hR_f18 hR_f17 hR_f8)
def f6_S1 (v : Int × (List CV) × (List CV)) : St := ⟨[.undef, (.osl [1] (some 4) 0 5), (.osl [2] (some 4) 0 5), .undef, .undef, .undef, .undef, .undef, .undef, .undef, .undef, .undef, .undef, .undef, .undef, .undef, .undef, .undef, (.v (CV.int .i64 5)), (.v (CV.int .i64 v.1)), .undef, .undef, .undef, .undef, .undef, .undef, .undef, .undef, .undef, .undef, .undef, .undef, .undef, .undef, .undef, .undef, .undef, .undef, .undef, .undef, .undef, .undef, .undef, .undef, .undef, .undef, .undef, .undef, .undef, .undef, .undef, .undef, .undef, .undef, .undef, .undef, .undef, .undef, .undef, .undef, .undef, .undef, .undef, .undef, .undef, .undef, .undef, .undef, .undef, .undef, .undef, .undef, .undef, .undef, .undef, .undef, .undef, .undef, .undef, .undef, .undef, .undef, .undef, .undef, .undef, .undef, .undef, .undef, .undef, .undef, .undef, .undef, .undef, .undef], [([1], (.row false (some 4) v.2.1)), ([2], (.row false (some 4) v.2.2))]⟩
def f6_T1 {X : Type} (R_f14 : f14_R) (R_f16 : f16_R) (R_f15 : f15_R) (R_f7 : f7_R) (R_f18 : f18_R) (R_f17 : f17_R) (R_f8 : f8_R) (k : Nat) (K : Bool → Option X)   (rec1 : Int × (List CV) × (List CV) → Option X) (v6_2 : Int × (List CV) × (List CV)) : Option X :=
(bif (decide (v6_2.1 < 5)) then
grd (decide (0 ≤ v6_2.1)) <|
grd (decide (v6_2.1 < 5)) <|
Option.bind (v6_2.2.1)[(0 + (Int.toNat v6_2.1))]? fun e19 =>
grd (decide (0 ≤ v6_2.1)) <|
grd (decide (v6_2.1 < 5)) <|
Option.bind (v6_2.2.2)[(0 + (Int.toNat v6_2.1))]? fun e20 =>
R_f15 _ (fun u21 =>
(bif (!u21) then
K (false)
else
grd (decide (0 ≤ v6_2.1)) <|
grd (decide (v6_2.1 < 5)) <|
Option.bind (v6_2.2.1)[(0 + (Int.toNat v6_2.1))]? fun e22 =>
R_f7 _ (fun u23 =>
(bif (!u23) then
K (false)
else
rec1 ((IntKind.wrap .i64 (v6_2.1 + 1)), v6_2.2.1, v6_2.2.2))) (e22))) (e19) (e20)
else
R_f18 _ (fun u24 =>
grd (CV.isA 8 u24.1) <|
grd (CV.isI .i64 (CV.cellD 0 u24.1)) <|
grd (CV.isI .i64 (CV.cellD 1 u24.1)) <|
grd (CV.isB (CV.cellD 2 u24.1)) <|
grd (CV.isB (CV.cellD 3 u24.1)) <|
grd (CV.isB (CV.cellD 4 u24.1)) <|
grd (CV.isI .i64 (CV.cellD 5 u24.1)) <|
grd (CV.isI .i64 (CV.cellD 6 u24.1)) <|
grd (CV.isB (CV.cellD 7 u24.1)) <|
R_f17 _ (fun u25 =>
R_f17 _ (fun u26 =>
(bif u24.2 then
(bif ((CV.toI (CV.cellD 1 u24.1)) == 1) then
(bif ((CV.toI (CV.cellD 6 u24.1)) == 3) then
(bif (CV.toB (CV.cellD 2 u24.1)) then
(bif (!(CV.toB (CV.cellD 3 u24.1))) then
(bif u25.2.2.2.2.1 then
(bif (u25.2.1 == 1) then
(bif (!u26.2.2.2.2.1) then
R_f8 _ (fun u27 =>
K ((u27.1 == 1))) ((CV.agg [(CV.int .i64 (CV.toI (CV.cellD 0 u24.1))), (CV.int .i64 (CV.toI (CV.cellD 1 u24.1))), (CV.bool (CV.toB (CV.cellD 2 u24.1))), (CV.bool (CV.toB (CV.cellD 3 u24.1))), (CV.bool (CV.toB (CV.cellD 4 u24.1))), (CV.int .i64 (CV.toI (CV.cellD 5 u24.1))), (CV.int .i64 (CV.toI (CV.cellD 6 u24.1))), (CV.bool (CV.toB (CV.cellD 7 u24.1)))]))
else
K (false))
else
K (false))
else
K (false))
else
K (false))
else
K (false))
else
K (false))
else
K (false))
else
K (false))) ((List.take 5 (List.drop 0 v6_2.2.1))) (4)) ((List.take 5 (List.drop 0 v6_2.2.1))) (3)) ((List.take 5 (List.drop 0 v6_2.2.1))) (5) (3))
def f6_L1 {X : Type} (R_f14 : f14_R) (R_f16 : f16_R) (R_f15 : f15_R) (R_f7 : f7_R) (R_f18 : f18_R) (R_f17 : f17_R) (R_f8 : f8_R) (k : Nat) (K : Bool → Option X)  (rec1 : Int × (List CV) × (List CV) → Option X) (v : Int × (List CV) × (List CV)) : Option X := f6_T1 R_f14 R_f16 R_f15 R_f7 R_f18 R_f17 R_f8 k K   rec1 v
set_option maxRecDepth 100000 in
theorem f6_L1_ev {X : Type} (R_f14 : f14_R) (R_f16 : f16_R) (R_f15 : f15_R) (R_f7 : f7_R) (R_f18 : f18_R) (R_f17 : f17_R) (R_f8 : f8_R) (hR_f14 : AnsOk Try.prog 14 (f14_cOf R_f14)) (hR_f16 : AnsOk Try.prog 16 (f16_cOf R_f16)) (hR_f15 : AnsOk Try.prog 15 (f15_cOf R_f15)) (hR_f7 : AnsOk Try.prog 7 (f7_cOf R_f7)) (hR_f18 : AnsOk Try.prog 18 (f18_cOf R_f18)) (hR_f17 : AnsOk Try.prog 17 (f17_cOf R_f17)) (hR_f8 : AnsOk Try.prog 8 (f8_cOf R_f8)) (k : Nat) (K : Out → Option X)  (r1 : St → Option X) (v : Int × (List CV) × (List CV)) : loopB (f6_cx R_f14 R_f16 R_f15 R_f7 R_f18 R_f17 R_f8 hR_f14 hR_f16 hR_f15 hR_f7 hR_f18 hR_f17 hR_f8) k [.r, .r, .r, .l, .r, .b] (Try.f6.body.getD .skip) (retK (f6_cx R_f14 R_f16 R_f15 R_f7 R_f18 R_f17 R_f8 hR_f14 hR_f16 hR_f15 hR_f7 hR_f18 hR_f17 hR_f8) [] Try.f6.results.toList K) [] r1 (f6_S1 v) = f6_T1 R_f14 R_f16 R_f15 R_f7 R_f18 R_f17 R_f8 k (fun u => K (f6_out u))   (fun v => r1 (f6_S1 v)) v := by kernel_rfl
theorem f6_L1_it {X : Type} (R_f14 : f14_R) (R_f16 : f16_R) (R_f15 : f15_R) (R_f7 : f7_R) (R_f18 : f18_R) (R_f17 : f17_R) (R_f8 : f8_R) (hR_f14 : AnsOk Try.prog 14 (f14_cOf R_f14)) (hR_f16 : AnsOk Try.prog 16 (f16_cOf R_f16)) (hR_f15 : AnsOk Try.prog 15 (f15_cOf R_f15)) (hR_f7 : AnsOk Try.prog 7 (f7_cOf R_f7)) (hR_f18 : AnsOk Try.prog 18 (f18_cOf R_f18)) (hR_f17 : AnsOk Try.prog 17 (f17_cOf R_f17)) (hR_f8 : AnsOk Try.prog 8 (f8_cOf R_f8)) (k : Nat) (K : Out → Option X)  : (fun v => iter (loopB (f6_cx R_f14 R_f16 R_f15 R_f7 R_f18 R_f17 R_f8 hR_f14 hR_f16 hR_f15 hR_f7 hR_f18 hR_f17 hR_f8) k [.r, .r, .r, .l, .r, .b] (Try.f6.body.getD .skip) (retK (f6_cx R_f14 R_f16 R_f15 R_f7 R_f18 R_f17 R_f8 hR_f14 hR_f16 hR_f15 hR_f7 hR_f18 hR_f17 hR_f8) [] Try.f6.results.toList K) []) k (f6_S1 v)) = iterV (f6_L1 R_f14 R_f16 R_f15 R_f7 R_f18 R_f17 R_f8 k (fun u => K (f6_out u)) ) k :=
  iter_map (fun r1 v => (f6_L1_ev R_f14 R_f16 R_f15 R_f7 R_f18 R_f17 R_f8 hR_f14 hR_f16 hR_f15 hR_f7 hR_f18 hR_f17 hR_f8 k K  r1 v).trans rfl) k
def f6_T {X : Type} (R_f14 : f14_R) (R_f16 : f16_R) (R_f15 : f15_R) (R_f7 : f7_R) (R_f18 : f18_R) (R_f17 : f17_R) (R_f8 : f8_R) (k : Nat) (K : Bool → Option X) (loop1 : Int × (List CV) × (List CV) → Option X)  : Option X :=
R_f14 _ (fun u1 =>
R_f16 _ (fun u2 =>
loop1 (0, u1, u2)) ) 
/-- "outpost/outpostlaw18.alive" -/
def f6_A (R_f14 : f14_R) (R_f16 : f16_R) (R_f15 : f15_R) (R_f7 : f7_R) (R_f18 : f18_R) (R_f17 : f17_R) (R_f8 : f8_R) (k : Nat) : f6_R := fun X K  => f6_T R_f14 R_f16 R_f15 R_f7 R_f18 R_f17 R_f8 k K (iterV (f6_L1 R_f14 R_f16 R_f15 R_f7 R_f18 R_f17 R_f8 k K) k) 
set_option maxRecDepth 100000 in
theorem f6_ev' {X : Type} (R_f14 : f14_R) (R_f16 : f16_R) (R_f15 : f15_R) (R_f7 : f7_R) (R_f18 : f18_R) (R_f17 : f17_R) (R_f8 : f8_R) (hR_f14 : AnsOk Try.prog 14 (f14_cOf R_f14)) (hR_f16 : AnsOk Try.prog 16 (f16_cOf R_f16)) (hR_f15 : AnsOk Try.prog 15 (f15_cOf R_f15)) (hR_f7 : AnsOk Try.prog 7 (f7_cOf R_f7)) (hR_f18 : AnsOk Try.prog 18 (f18_cOf R_f18)) (hR_f17 : AnsOk Try.prog 17 (f17_cOf R_f17)) (hR_f8 : AnsOk Try.prog 8 (f8_cOf R_f8)) (k : Nat) (K : Out → Option X)  : evFn (f6_cx R_f14 R_f16 R_f15 R_f7 R_f18 R_f17 R_f8 hR_f14 hR_f16 hR_f15 hR_f7 hR_f18 hR_f17 hR_f8) [] k Try.f6.ntmps Try.f6.results.toList (Try.f6.body.getD .skip) [] [] K = f6_T R_f14 R_f16 R_f15 R_f7 R_f18 R_f17 R_f8 k (fun u => K (f6_out u)) (fun v => iter (loopB (f6_cx R_f14 R_f16 R_f15 R_f7 R_f18 R_f17 R_f8 hR_f14 hR_f16 hR_f15 hR_f7 hR_f18 hR_f17 hR_f8) k [.r, .r, .r, .l, .r, .b] (Try.f6.body.getD .skip) (retK (f6_cx R_f14 R_f16 R_f15 R_f7 R_f18 R_f17 R_f8 hR_f14 hR_f16 hR_f15 hR_f7 hR_f18 hR_f17 hR_f8) [] Try.f6.results.toList K) []) k (f6_S1 v))  := by kernel_rfl
theorem f6_ev {X : Type} (R_f14 : f14_R) (R_f16 : f16_R) (R_f15 : f15_R) (R_f7 : f7_R) (R_f18 : f18_R) (R_f17 : f17_R) (R_f8 : f8_R) (hR_f14 : AnsOk Try.prog 14 (f14_cOf R_f14)) (hR_f16 : AnsOk Try.prog 16 (f16_cOf R_f16)) (hR_f15 : AnsOk Try.prog 15 (f15_cOf R_f15)) (hR_f7 : AnsOk Try.prog 7 (f7_cOf R_f7)) (hR_f18 : AnsOk Try.prog 18 (f18_cOf R_f18)) (hR_f17 : AnsOk Try.prog 17 (f17_cOf R_f17)) (hR_f8 : AnsOk Try.prog 8 (f8_cOf R_f8)) (k : Nat) (K : Out → Option X)  : evFn (f6_cx R_f14 R_f16 R_f15 R_f7 R_f18 R_f17 R_f8 hR_f14 hR_f16 hR_f15 hR_f7 hR_f18 hR_f17 hR_f8) [] k Try.f6.ntmps Try.f6.results.toList (Try.f6.body.getD .skip) [] [] K = f6_A R_f14 R_f16 R_f15 R_f7 R_f18 R_f17 R_f8 k X (fun u => K (f6_out u))  := (f6_ev' R_f14 R_f16 R_f15 R_f7 R_f18 R_f17 R_f8 hR_f14 hR_f16 hR_f15 hR_f7 hR_f18 hR_f17 hR_f8 k K ).trans (by rw [f6_L1_it R_f14 R_f16 R_f15 R_f7 R_f18 R_f17 R_f8 hR_f14 hR_f16 hR_f15 hR_f7 hR_f18 hR_f17 hR_f8 k K]; rfl)
theorem f6_okA (R_f14 : f14_R) (R_f16 : f16_R) (R_f15 : f15_R) (R_f7 : f7_R) (R_f18 : f18_R) (R_f17 : f17_R) (R_f8 : f8_R) (hR_f14 : AnsOk Try.prog 14 (f14_cOf R_f14)) (hR_f16 : AnsOk Try.prog 16 (f16_cOf R_f16)) (hR_f15 : AnsOk Try.prog 15 (f15_cOf R_f15)) (hR_f7 : AnsOk Try.prog 7 (f7_cOf R_f7)) (hR_f18 : AnsOk Try.prog 18 (f18_cOf R_f18)) (hR_f17 : AnsOk Try.prog 17 (f17_cOf R_f17)) (hR_f8 : AnsOk Try.prog 8 (f8_cOf R_f8)) (k : Nat) : AnsOk Try.prog 6 (f6_cOf (f6_A R_f14 R_f16 R_f15 R_f7 R_f18 R_f17 R_f8 k)) := by
  intro X xs ns K x h
  unfold f6_cOf at h ⊢
  split at h
  · exact ans_main S (f6_Cok R_f14 R_f16 R_f15 R_f7 R_f18 R_f17 R_f8 hR_f14 hR_f16 hR_f15 hR_f7 hR_f18 hR_f17 hR_f8) Try.func6 (ent_of Try.func6 (by kernel_rfl) rfl) rfl (fun X K => f6_ev R_f14 R_f16 R_f15 R_f7 R_f18 R_f17 R_f8 hR_f14 hR_f16 hR_f15 hR_f7 hR_f18 hR_f17 hR_f8 k K ) h
  · cases h
/-- "outpost/outpostlaw18.alive" -/
def f6 {X : Type} (k : Nat) (K : Bool → Option X)  : Option X := f6_A (fun X => @f14 X k) (fun X => @f16 X k) (fun X => @f15 X k) (fun X => @f7 X k) (fun X => @f18 X k) (fun X => @f17 X k) (fun X => @f8 X k) k X K 
theorem f6_ok (k : Nat) : AnsOk Try.prog 6 (f6_cOf (fun X => @f6 X k)) := f6_okA (fun X => @f14 X k) (fun X => @f16 X k) (fun X => @f15 X k) (fun X => @f7 X k) (fun X => @f18 X k) (fun X => @f17 X k) (fun X => @f8 X k) (f14_ok k) (f16_ok k) (f15_ok k) (f7_ok k) (f18_ok k) (f17_ok k) (f8_ok k) k
abbrev f35_R : Type 1 := (X : Type) → (Int → Option X) → (List CV) → Int → Option X
def f35_out (u : Int) : Out := ⟨(.v (CV.int .i64 u)), []⟩
def f35_cOf (R : f35_R) : FnC := fun X xs ns K => match xs, ns with
  | [(.sl false (some 4) x0), (.v (CV.int .i64 x1))], [] => R X (fun u => K (f35_out u)) x0 x1
  | _, _ => none
def f35_plan : Nat → Option (List Nat × List Wk)
  | 0 => some ([0, 1], [])
  | 1 => some ([0, 1], [])
  | 2 => some ([0, 1, 5], [])
  | 3 => some ([0, 1, 5], [])
  | 4 => some ([0, 1, 5], [])
  | 5 => some ([5], [])
  | 6 => some ([], [])
  | _ => none
def f35_C : Fns := noC
theorem f35_Cok : CsOk Try.prog (f35_C) := noC_ok
def f35_cx : Cx := mkCx (tabOf rows) (f35_C) md (cmpIn cmps) f35_plan (f35_Cok)
def f35_S1 (v : (List CV) × Int × Int) : St := ⟨[(.sl false (some 4) v.1), (.v (CV.int .i64 v.2.1)), .undef, .undef, .undef, (.v (CV.int .i64 v.2.2)), .undef, .undef, .undef, .undef, .undef, .undef, .undef, .undef, .undef, .undef, .undef, .undef, .undef, .undef], []⟩
def f35_T1 {X : Type} (k : Nat) (K : Int → Option X)   (rec1 : (List CV) × Int × Int → Option X) (v4_0 : (List CV) × Int × Int) : Option X :=
(bif (decide (v4_0.2.2 < (Nat.cast ((List.length v4_0.1)) : Int))) then
grd (decide (0 ≤ v4_0.2.2)) <|
Option.bind (v4_0.1)[(Int.toNat v4_0.2.2)]? fun e8 =>
Option.bind (CV.cell e8 0) fun c9 =>
grd (CV.isI .i64 c9) <|
(bif ((CV.toI c9) == v4_0.2.1) then
K (v4_0.2.2)
else
rec1 (v4_0.1, v4_0.2.1, (IntKind.wrap .i64 (v4_0.2.2 + 1))))
else
K ((-1)))
def f35_L1 {X : Type} (k : Nat) (K : Int → Option X)  (rec1 : (List CV) × Int × Int → Option X) (v : (List CV) × Int × Int) : Option X := f35_T1 k K   rec1 v
set_option maxRecDepth 100000 in
theorem f35_L1_ev {X : Type} (k : Nat) (K : Out → Option X)  (r1 : St → Option X) (v : (List CV) × Int × Int) : loopB (f35_cx) k [.r, .l, .r, .b] (Try.f35.body.getD .skip) (retK (f35_cx) [] Try.f35.results.toList K) [] r1 (f35_S1 v) = f35_T1 k (fun u => K (f35_out u))   (fun v => r1 (f35_S1 v)) v := by kernel_rfl
theorem f35_L1_it {X : Type} (k : Nat) (K : Out → Option X)  : (fun v => iter (loopB (f35_cx) k [.r, .l, .r, .b] (Try.f35.body.getD .skip) (retK (f35_cx) [] Try.f35.results.toList K) []) k (f35_S1 v)) = iterV (f35_L1 k (fun u => K (f35_out u)) ) k :=
  iter_map (fun r1 v => (f35_L1_ev k K  r1 v).trans rfl) k
def f35_T {X : Type} (k : Nat) (K : Int → Option X) (loop1 : (List CV) × Int × Int → Option X) (x0 : List CV) (x1 : Int) : Option X :=
loop1 (x0, x1, 0)
/-- "outpost/outpostref18.Find" -/
def f35_A (k : Nat) : f35_R := fun X K x0 x1 => f35_T k K (iterV (f35_L1 k K) k) x0 x1
set_option maxRecDepth 100000 in
theorem f35_ev' {X : Type} (k : Nat) (K : Out → Option X) (x0 : List CV) (x1 : Int) : evFn (f35_cx) [] k Try.f35.ntmps Try.f35.results.toList (Try.f35.body.getD .skip) [(.sl false (some 4) x0), (.v (CV.int .i64 x1))] [] K = f35_T k (fun u => K (f35_out u)) (fun v => iter (loopB (f35_cx) k [.r, .l, .r, .b] (Try.f35.body.getD .skip) (retK (f35_cx) [] Try.f35.results.toList K) []) k (f35_S1 v)) x0 x1 := by kernel_rfl
theorem f35_ev {X : Type} (k : Nat) (K : Out → Option X) (x0 : List CV) (x1 : Int) : evFn (f35_cx) [] k Try.f35.ntmps Try.f35.results.toList (Try.f35.body.getD .skip) [(.sl false (some 4) x0), (.v (CV.int .i64 x1))] [] K = f35_A k X (fun u => K (f35_out u)) x0 x1 := (f35_ev' k K x0 x1).trans (by rw [f35_L1_it k K]; rfl)
theorem f35_okA (k : Nat) : AnsOk Try.prog 35 (f35_cOf (f35_A k)) := by
  intro X xs ns K x h
  unfold f35_cOf at h ⊢
  split at h
  · exact ans_main S (f35_Cok) Try.func35 (ent_of Try.func35 (by kernel_rfl) rfl) rfl (fun X K => f35_ev k K _ _) h
  · cases h
/-- "outpost/outpostref18.Find" -/
def f35 {X : Type} (k : Nat) (K : Int → Option X) (x0 : List CV) (x1 : Int) : Option X := f35_A k X K x0 x1
theorem f35_ok (k : Nat) : AnsOk Try.prog 35 (f35_cOf (fun X => @f35 X k)) := f35_okA k
abbrev f19_R : Type 1 := (X : Type) → (CV × Bool → Option X) → (List CV) → Int → Int → Option X
def f19_out (u : CV × Bool) : Out := ⟨(.tup [(.v u.1), (.v (CV.bool u.2))]), []⟩
def f19_cOf (R : f19_R) : FnC := fun X xs ns K => match xs, ns with
  | [(.sl false (some 4) x0), (.v (CV.int .i64 x1)), (.v (CV.int .i64 x2))], [] => R X (fun u => K (f19_out u)) x0 x1 x2
  | _, _ => none
def f19_plan : Nat → Option (List Nat × List Wk)
  | 0 => some ([0, 1, 2], [])
  | 1 => some ([0, 1, 2, 6], [])
  | 2 => some ([0, 2, 6, 8], [])
  | 3 => some ([6], [])
  | 4 => some ([0, 2, 6, 8], [])
  | 5 => some ([0, 2, 6, 8, 9], [])
  | 6 => some ([0, 2, 6, 8, 9], [])
  | 7 => some ([0, 2, 6, 8, 9], [])
  | 8 => some ([0, 6, 8, 9], [])
  | 9 => some ([6], [])
  | _ => none
def f19_C (R_f35 : f35_R) : Fns := (orC 35 (f35_cOf R_f35) noC)
theorem f19_Cok (R_f35 : f35_R) (hR_f35 : AnsOk Try.prog 35 (f35_cOf R_f35)) : CsOk Try.prog (f19_C R_f35) := (orC_ok hR_f35 noC_ok)
def f19_cx (R_f35 : f35_R) (hR_f35 : AnsOk Try.prog 35 (f35_cOf R_f35)) : Cx := mkCx (tabOf rows) (f19_C R_f35) md (cmpIn cmps) f19_plan (f19_Cok R_f35 hR_f35)
def f19_S1 (v : (List CV) × Int × Int × Int) : St := ⟨[(.sl false (some 4) v.1), .undef, (.v (CV.int .i64 v.2.1)), .undef, .undef, .undef, (.ptr [6] 0 0 0), .undef, (.v (CV.int .i64 v.2.2.1)), (.v (CV.int .i64 v.2.2.2)), .undef, .undef, .undef, .undef, .undef, .undef, .undef, .undef, .undef, .undef, .undef, .undef, .undef, .undef, .undef, .undef, .undef, .undef, .undef, .undef, .undef, .undef, .undef, .undef, .undef, .undef, .undef, .undef, .undef, .undef, .undef, .undef, .undef, .undef, .undef, .undef], [([6], (.obj [(.v (CV.int .i64 0)), (.v (CV.int .i64 0)), (.v (CV.bool false)), (.v (CV.bool false)), (.v (CV.bool false)), (.v (CV.int .i64 0)), (.v (CV.int .i64 0)), (.v (CV.bool false))]))]⟩
def f19_T1 {X : Type} (R_f35 : f35_R) (k : Nat) (K : CV × Bool → Option X)   (rec1 : (List CV) × Int × Int × Int → Option X) (v6_1 : (List CV) × Int × Int × Int) : Option X :=
grd (decide (0 ≤ v6_1.2.2.1)) <|
Option.bind (v6_1.1)[(Int.toNat v6_1.2.2.1)]? fun e23 =>
Option.bind (CV.cell e23 3) fun c24 =>
grd (CV.isL (some 8) c24) <|
(bif (decide (v6_1.2.2.2 < (Nat.cast ((List.length (CV.toL c24))) : Int))) then
grd (decide (0 ≤ v6_1.2.2.1)) <|
Option.bind (v6_1.1)[(Int.toNat v6_1.2.2.1)]? fun e32 =>
Option.bind (CV.cell e32 3) fun c33 =>
grd (CV.isL (some 8) c33) <|
grd (decide (0 ≤ v6_1.2.2.2)) <|
Option.bind ((CV.toL c33))[(Int.toNat v6_1.2.2.2)]? fun e34 =>
Option.bind (CV.cell e34 0) fun c35 =>
grd (CV.isI .i64 c35) <|
(bif ((CV.toI c35) == v6_1.2.1) then
grd (decide (0 ≤ v6_1.2.2.1)) <|
Option.bind (v6_1.1)[(Int.toNat v6_1.2.2.1)]? fun e36 =>
Option.bind (CV.cell e36 3) fun c37 =>
grd (CV.isL (some 8) c37) <|
grd (decide (0 ≤ v6_1.2.2.2)) <|
Option.bind ((CV.toL c37))[(Int.toNat v6_1.2.2.2)]? fun e38 =>
grd (CV.isA 8 e38) <|
grd (CV.isI .i64 (CV.cellD 0 e38)) <|
grd (CV.isI .i64 (CV.cellD 1 e38)) <|
grd (CV.isB (CV.cellD 2 e38)) <|
grd (CV.isB (CV.cellD 3 e38)) <|
grd (CV.isB (CV.cellD 4 e38)) <|
grd (CV.isI .i64 (CV.cellD 5 e38)) <|
grd (CV.isI .i64 (CV.cellD 6 e38)) <|
grd (CV.isB (CV.cellD 7 e38)) <|
K ((CV.agg [(CV.int .i64 (CV.toI (CV.cellD 0 e38))), (CV.int .i64 (CV.toI (CV.cellD 1 e38))), (CV.bool (CV.toB (CV.cellD 2 e38))), (CV.bool (CV.toB (CV.cellD 3 e38))), (CV.bool (CV.toB (CV.cellD 4 e38))), (CV.int .i64 (CV.toI (CV.cellD 5 e38))), (CV.int .i64 (CV.toI (CV.cellD 6 e38))), (CV.bool (CV.toB (CV.cellD 7 e38)))]), true)
else
rec1 (v6_1.1, v6_1.2.1, v6_1.2.2.1, (IntKind.wrap .i64 (v6_1.2.2.2 + 1))))
else
K ((CV.agg [(CV.int .i64 0), (CV.int .i64 0), (CV.bool false), (CV.bool false), (CV.bool false), (CV.int .i64 0), (CV.int .i64 0), (CV.bool false)]), false))
def f19_L1 {X : Type} (R_f35 : f35_R) (k : Nat) (K : CV × Bool → Option X)  (rec1 : (List CV) × Int × Int × Int → Option X) (v : (List CV) × Int × Int × Int) : Option X := f19_T1 R_f35 k K   rec1 v
set_option maxRecDepth 100000 in
theorem f19_L1_ev {X : Type} (R_f35 : f35_R) (hR_f35 : AnsOk Try.prog 35 (f35_cOf R_f35)) (k : Nat) (K : Out → Option X)  (r1 : St → Option X) (v : (List CV) × Int × Int × Int) : loopB (f19_cx R_f35 hR_f35) k [.r, .r, .r, .l, .r, .b] (Try.f19.body.getD .skip) (retK (f19_cx R_f35 hR_f35) [] Try.f19.results.toList K) [] r1 (f19_S1 v) = f19_T1 R_f35 k (fun u => K (f19_out u))   (fun v => r1 (f19_S1 v)) v := by kernel_rfl
theorem f19_L1_it {X : Type} (R_f35 : f35_R) (hR_f35 : AnsOk Try.prog 35 (f35_cOf R_f35)) (k : Nat) (K : Out → Option X)  : (fun v => iter (loopB (f19_cx R_f35 hR_f35) k [.r, .r, .r, .l, .r, .b] (Try.f19.body.getD .skip) (retK (f19_cx R_f35 hR_f35) [] Try.f19.results.toList K) []) k (f19_S1 v)) = iterV (f19_L1 R_f35 k (fun u => K (f19_out u)) ) k :=
  iter_map (fun r1 v => (f19_L1_ev R_f35 hR_f35 k K  r1 v).trans rfl) k
def f19_T {X : Type} (R_f35 : f35_R) (k : Nat) (K : CV × Bool → Option X) (loop1 : (List CV) × Int × Int × Int → Option X) (x0 : List CV) (x1 : Int) (x2 : Int) : Option X :=
R_f35 _ (fun u1 =>
(bif (decide (u1 < 0)) then
K ((CV.agg [(CV.int .i64 0), (CV.int .i64 0), (CV.bool false), (CV.bool false), (CV.bool false), (CV.int .i64 0), (CV.int .i64 0), (CV.bool false)]), false)
else
loop1 (x0, x2, u1, 0))) (x0) (x1)
/-- "outpost/outpostref18.Rule" -/
def f19_A (R_f35 : f35_R) (k : Nat) : f19_R := fun X K x0 x1 x2 => f19_T R_f35 k K (iterV (f19_L1 R_f35 k K) k) x0 x1 x2
set_option maxRecDepth 100000 in
theorem f19_ev' {X : Type} (R_f35 : f35_R) (hR_f35 : AnsOk Try.prog 35 (f35_cOf R_f35)) (k : Nat) (K : Out → Option X) (x0 : List CV) (x1 : Int) (x2 : Int) : evFn (f19_cx R_f35 hR_f35) [] k Try.f19.ntmps Try.f19.results.toList (Try.f19.body.getD .skip) [(.sl false (some 4) x0), (.v (CV.int .i64 x1)), (.v (CV.int .i64 x2))] [] K = f19_T R_f35 k (fun u => K (f19_out u)) (fun v => iter (loopB (f19_cx R_f35 hR_f35) k [.r, .r, .r, .l, .r, .b] (Try.f19.body.getD .skip) (retK (f19_cx R_f35 hR_f35) [] Try.f19.results.toList K) []) k (f19_S1 v)) x0 x1 x2 := by kernel_rfl
theorem f19_ev {X : Type} (R_f35 : f35_R) (hR_f35 : AnsOk Try.prog 35 (f35_cOf R_f35)) (k : Nat) (K : Out → Option X) (x0 : List CV) (x1 : Int) (x2 : Int) : evFn (f19_cx R_f35 hR_f35) [] k Try.f19.ntmps Try.f19.results.toList (Try.f19.body.getD .skip) [(.sl false (some 4) x0), (.v (CV.int .i64 x1)), (.v (CV.int .i64 x2))] [] K = f19_A R_f35 k X (fun u => K (f19_out u)) x0 x1 x2 := (f19_ev' R_f35 hR_f35 k K x0 x1 x2).trans (by rw [f19_L1_it R_f35 hR_f35 k K]; rfl)
theorem f19_okA (R_f35 : f35_R) (hR_f35 : AnsOk Try.prog 35 (f35_cOf R_f35)) (k : Nat) : AnsOk Try.prog 19 (f19_cOf (f19_A R_f35 k)) := by
  intro X xs ns K x h
  unfold f19_cOf at h ⊢
  split at h
  · exact ans_main S (f19_Cok R_f35 hR_f35) Try.func19 (ent_of Try.func19 (by kernel_rfl) rfl) rfl (fun X K => f19_ev R_f35 hR_f35 k K _ _ _) h
  · cases h
/-- "outpost/outpostref18.Rule" -/
def f19 {X : Type} (k : Nat) (K : CV × Bool → Option X) (x0 : List CV) (x1 : Int) (x2 : Int) : Option X := f19_A (fun X => @f35 X k) k X K x0 x1 x2
theorem f19_ok (k : Nat) : AnsOk Try.prog 19 (f19_cOf (fun X => @f19 X k)) := f19_okA (fun X => @f35 X k) (f35_ok k) k
abbrev f5_R : Type 1 := (X : Type) → (Bool → Option X) → Int → Int → Option X
def f5_out (u : Bool) : Out := ⟨(.v (CV.bool u)), []⟩
def f5_cOf (R : f5_R) : FnC := fun X xs ns K => match xs, ns with
  | [(.v (CV.int .i64 x0)), (.v (CV.int .i64 x1))], [] => R X (fun u => K (f5_out u)) x0 x1
  | _, _ => none
def f5_plan : Nat → Option (List Nat × List Wk)
  | 0 => some ([0, 1], [])
  | 1 => some ([0, 1], [])
  | 2 => some ([], [])
  | 3 => some ([0, 1], [])
  | 4 => some ([0, 1, 5, 6], [])
  | 5 => some ([0, 1, 5, 6, 7, 8], [])
  | 6 => some ([], [])
  | 7 => some ([0, 1, 6], [])
  | 8 => some ([0, 1, 6, 9, 10], [])
  | 9 => some ([6, 9], [])
  | 10 => some ([0, 1, 6, 9], [])
  | 11 => some ([0, 1, 6, 9, 11], [])
  | 12 => some ([0, 1, 6, 9, 11, 55, 56, 57], [])
  | 13 => some ([0, 1, 6, 9, 11, 55, 56, 57], [])
  | 14 => some ([0, 1, 6, 9, 11, 13, 55, 56, 57], [])
  | 15 => some ([0, 1, 6, 9, 11, 55, 56, 57], [])
  | 16 => some ([0, 1, 6, 9, 11, 55, 56, 57], [])
  | 17 => some ([0, 6, 9, 11], [])
  | _ => none
def f5_C (R_f6 : f6_R) (R_f14 : f14_R) (R_f18 : f18_R) (R_f16 : f16_R) (R_f19 : f19_R) (R_f17 : f17_R) : Fns := (orC 6 (f6_cOf R_f6) (orC 14 (f14_cOf R_f14) (orC 16 (f16_cOf R_f16) (orC 17 (f17_cOf R_f17) (orC 18 (f18_cOf R_f18) (orC 19 (f19_cOf R_f19) noC))))))
theorem f5_Cok (R_f6 : f6_R) (R_f14 : f14_R) (R_f18 : f18_R) (R_f16 : f16_R) (R_f19 : f19_R) (R_f17 : f17_R) (hR_f6 : AnsOk Try.prog 6 (f6_cOf R_f6)) (hR_f14 : AnsOk Try.prog 14 (f14_cOf R_f14)) (hR_f18 : AnsOk Try.prog 18 (f18_cOf R_f18)) (hR_f16 : AnsOk Try.prog 16 (f16_cOf R_f16)) (hR_f19 : AnsOk Try.prog 19 (f19_cOf R_f19)) (hR_f17 : AnsOk Try.prog 17 (f17_cOf R_f17)) : CsOk Try.prog (f5_C R_f6 R_f14 R_f18 R_f16 R_f19 R_f17) := (orC_ok hR_f6 (orC_ok hR_f14 (orC_ok hR_f16 (orC_ok hR_f17 (orC_ok hR_f18 (orC_ok hR_f19 noC_ok))))))
def f5_cx (R_f6 : f6_R) (R_f14 : f14_R) (R_f18 : f18_R) (R_f16 : f16_R) (R_f19 : f19_R) (R_f17 : f17_R) (hR_f6 : AnsOk Try.prog 6 (f6_cOf R_f6)) (hR_f14 : AnsOk Try.prog 14 (f14_cOf R_f14)) (hR_f18 : AnsOk Try.prog 18 (f18_cOf R_f18)) (hR_f16 : AnsOk Try.prog 16 (f16_cOf R_f16)) (hR_f19 : AnsOk Try.prog 19 (f19_cOf R_f19)) (hR_f17 : AnsOk Try.prog 17 (f17_cOf R_f17)) : Cx := mkCx (tabOf rows) (f5_C R_f6 R_f14 R_f18 R_f16 R_f19 R_f17) md (cmpIn cmps) f5_plan (f5_Cok R_f6 R_f14 R_f18 R_f16 R_f19 R_f17 hR_f6 hR_f14 hR_f18 hR_f16 hR_f19 hR_f17)
def f5_S1 (v : Int × Int × Bool × Int × Nat × Int × Int × Int × Int × Bool × Nat × (List CV)) : St := ⟨[(.v (CV.int .i64 v.1)), (.v (CV.int .i64 v.2.1)), .undef, .undef, .undef, .undef, (.v (CV.bool v.2.2.1)), .undef, .undef, (.ptr [9] 0 0 0), .undef, (.v (CV.int .i64 v.2.2.2.1)), .undef, .undef, .undef, .undef, .undef, .undef, .undef, .undef, .undef, .undef, .undef, .undef, .undef, .undef, .undef, .undef, .undef, .undef, .undef, .undef, .undef, .undef, .undef, .undef, .undef, .undef, .undef, .undef, .undef, .undef, .undef, .undef, .undef, .undef, .undef, .undef, .undef, .undef, .undef, .undef, .undef, .undef, .undef, (.osl [3, 9] (some 8) 0 v.2.2.2.2.1), (.v (CV.int .i64 v.2.2.2.2.2.1)), (.v (CV.int .i64 v.2.2.2.2.2.2.1)), .undef, .undef, .undef, .undef, .undef, .undef, .undef, .undef, .undef, .undef, .undef, .undef, .undef, .undef, .undef, .undef, .undef, .undef, .undef, .undef, .undef, .undef, .undef, .undef], [([9], (.obj [(.v (CV.int .i64 v.2.2.2.2.2.2.2.1)), (.v (CV.int .i64 v.2.2.2.2.2.2.2.2.1)), (.v (CV.bool v.2.2.2.2.2.2.2.2.2.1)), (.osl [3, 9] (some 8) 0 v.2.2.2.2.2.2.2.2.2.2.1)])), ([3, 9], (.row false (some 8) v.2.2.2.2.2.2.2.2.2.2.2))]⟩
def f5_J1 {X : Type} (R_f6 : f6_R) (R_f14 : f14_R) (R_f18 : f18_R) (R_f16 : f16_R) (R_f19 : f19_R) (R_f17 : f17_R) (k : Nat) (K : Bool → Option X) (rec1 : Int × Int × Bool × Int × Nat × Int × Int × Int × Int × Bool × Nat × (List CV) → Option X) (v11_8 : Int × Int × Bool × Int × Nat × Int × Int × Int × Int × Bool × Nat × (List CV)) (v13 : Int) : Option X :=
rec1 (v11_8.1, v11_8.2.1, v11_8.2.2.1, v13, v11_8.2.2.2.2.1, v11_8.2.2.2.2.2.1, (IntKind.wrap .i64 (v11_8.2.2.2.2.2.2.1 + 1)), v11_8.2.2.2.2.2.2.2.1, v11_8.2.2.2.2.2.2.2.2.1, v11_8.2.2.2.2.2.2.2.2.2.1, v11_8.2.2.2.2.2.2.2.2.2.2.1, v11_8.2.2.2.2.2.2.2.2.2.2.2)
def f5_T1 {X : Type} (R_f6 : f6_R) (R_f14 : f14_R) (R_f18 : f18_R) (R_f16 : f16_R) (R_f19 : f19_R) (R_f17 : f17_R) (k : Nat) (K : Bool → Option X)   (rec1 : Int × Int × Bool × Int × Nat × Int × Int × Int × Int × Bool × Nat × (List CV) → Option X) (v11_8 : Int × Int × Bool × Int × Nat × Int × Int × Int × Int × Bool × Nat × (List CV)) : Option X :=
(bif (decide (v11_8.2.2.2.2.2.2.1 < v11_8.2.2.2.2.2.1)) then
grd (decide (0 ≤ v11_8.2.2.2.2.2.2.1)) <|
grd (decide (v11_8.2.2.2.2.2.2.1 < (Nat.cast (v11_8.2.2.2.2.1) : Int))) <|
Option.bind (v11_8.2.2.2.2.2.2.2.2.2.2.2)[(0 + (Int.toNat v11_8.2.2.2.2.2.2.1))]? fun e14 =>
grd (CV.isA 8 e14) <|
grd (CV.isI .i64 (CV.cellD 0 e14)) <|
grd (CV.isI .i64 (CV.cellD 1 e14)) <|
grd (CV.isB (CV.cellD 2 e14)) <|
grd (CV.isB (CV.cellD 3 e14)) <|
grd (CV.isB (CV.cellD 4 e14)) <|
grd (CV.isI .i64 (CV.cellD 5 e14)) <|
grd (CV.isI .i64 (CV.cellD 6 e14)) <|
grd (CV.isB (CV.cellD 7 e14)) <|
(bif ((CV.toI (CV.cellD 0 e14)) == v11_8.2.1) then
f5_J1 R_f6 R_f14 R_f18 R_f16 R_f19 R_f17 k K rec1 v11_8 ((IntKind.wrap .i64 (v11_8.2.2.2.1 + 1)))
else
f5_J1 R_f6 R_f14 R_f18 R_f16 R_f19 R_f17 k K rec1 v11_8 (v11_8.2.2.2.1))
else
(bif (v11_8.2.2.2.2.2.2.2.1 == v11_8.1) then
(bif (v11_8.2.2.1 == (v11_8.2.2.2.1 == 1)) then
K ((decide (v11_8.2.2.2.1 ≤ 1)))
else
K (false))
else
K (false)))
def f5_L1 {X : Type} (R_f6 : f6_R) (R_f14 : f14_R) (R_f18 : f18_R) (R_f16 : f16_R) (R_f19 : f19_R) (R_f17 : f17_R) (k : Nat) (K : Bool → Option X)  (rec1 : Int × Int × Bool × Int × Nat × Int × Int × Int × Int × Bool × Nat × (List CV) → Option X) (v : Int × Int × Bool × Int × Nat × Int × Int × Int × Int × Bool × Nat × (List CV)) : Option X := f5_T1 R_f6 R_f14 R_f18 R_f16 R_f19 R_f17 k K   rec1 v
set_option maxRecDepth 100000 in
theorem f5_L1_ev {X : Type} (R_f6 : f6_R) (R_f14 : f14_R) (R_f18 : f18_R) (R_f16 : f16_R) (R_f19 : f19_R) (R_f17 : f17_R) (hR_f6 : AnsOk Try.prog 6 (f6_cOf R_f6)) (hR_f14 : AnsOk Try.prog 14 (f14_cOf R_f14)) (hR_f18 : AnsOk Try.prog 18 (f18_cOf R_f18)) (hR_f16 : AnsOk Try.prog 16 (f16_cOf R_f16)) (hR_f19 : AnsOk Try.prog 19 (f19_cOf R_f19)) (hR_f17 : AnsOk Try.prog 17 (f17_cOf R_f17)) (k : Nat) (K : Out → Option X)  (r1 : St → Option X) (v : Int × Int × Bool × Int × Nat × Int × Int × Int × Int × Bool × Nat × (List CV)) : loopB (f5_cx R_f6 R_f14 R_f18 R_f16 R_f19 R_f17 hR_f6 hR_f14 hR_f18 hR_f16 hR_f19 hR_f17) k [.r, .r, .r, .r, .r, .r, .r, .r, .l, .r, .b] (Try.f5.body.getD .skip) (retK (f5_cx R_f6 R_f14 R_f18 R_f16 R_f19 R_f17 hR_f6 hR_f14 hR_f18 hR_f16 hR_f19 hR_f17) [] Try.f5.results.toList K) [] r1 (f5_S1 v) = f5_T1 R_f6 R_f14 R_f18 R_f16 R_f19 R_f17 k (fun u => K (f5_out u))   (fun v => r1 (f5_S1 v)) v := by kernel_rfl
theorem f5_L1_it {X : Type} (R_f6 : f6_R) (R_f14 : f14_R) (R_f18 : f18_R) (R_f16 : f16_R) (R_f19 : f19_R) (R_f17 : f17_R) (hR_f6 : AnsOk Try.prog 6 (f6_cOf R_f6)) (hR_f14 : AnsOk Try.prog 14 (f14_cOf R_f14)) (hR_f18 : AnsOk Try.prog 18 (f18_cOf R_f18)) (hR_f16 : AnsOk Try.prog 16 (f16_cOf R_f16)) (hR_f19 : AnsOk Try.prog 19 (f19_cOf R_f19)) (hR_f17 : AnsOk Try.prog 17 (f17_cOf R_f17)) (k : Nat) (K : Out → Option X)  : (fun v => iter (loopB (f5_cx R_f6 R_f14 R_f18 R_f16 R_f19 R_f17 hR_f6 hR_f14 hR_f18 hR_f16 hR_f19 hR_f17) k [.r, .r, .r, .r, .r, .r, .r, .r, .l, .r, .b] (Try.f5.body.getD .skip) (retK (f5_cx R_f6 R_f14 R_f18 R_f16 R_f19 R_f17 hR_f6 hR_f14 hR_f18 hR_f16 hR_f19 hR_f17) [] Try.f5.results.toList K) []) k (f5_S1 v)) = iterV (f5_L1 R_f6 R_f14 R_f18 R_f16 R_f19 R_f17 k (fun u => K (f5_out u)) ) k :=
  iter_map (fun r1 v => (f5_L1_ev R_f6 R_f14 R_f18 R_f16 R_f19 R_f17 hR_f6 hR_f14 hR_f18 hR_f16 hR_f19 hR_f17 k K  r1 v).trans rfl) k
def f5_T {X : Type} (R_f6 : f6_R) (R_f14 : f14_R) (R_f18 : f18_R) (R_f16 : f16_R) (R_f19 : f19_R) (R_f17 : f17_R) (k : Nat) (K : Bool → Option X) (loop1 : Int × Int × Bool × Int × Nat × Int × Int × Int × Int × Bool × Nat × (List CV) → Option X) (x0 : Int) (x1 : Int) : Option X :=
R_f6 _ (fun u2 =>
(bif (!u2) then
K (false)
else
R_f14 _ (fun u3 =>
R_f18 _ (fun u4 =>
grd (CV.isA 8 u4.1) <|
grd (CV.isI .i64 (CV.cellD 0 u4.1)) <|
grd (CV.isI .i64 (CV.cellD 1 u4.1)) <|
grd (CV.isB (CV.cellD 2 u4.1)) <|
grd (CV.isB (CV.cellD 3 u4.1)) <|
grd (CV.isB (CV.cellD 4 u4.1)) <|
grd (CV.isI .i64 (CV.cellD 5 u4.1)) <|
grd (CV.isI .i64 (CV.cellD 6 u4.1)) <|
grd (CV.isB (CV.cellD 7 u4.1)) <|
R_f16 _ (fun u5 =>
R_f19 _ (fun u6 =>
grd (CV.isA 8 u6.1) <|
grd (CV.isI .i64 (CV.cellD 0 u6.1)) <|
grd (CV.isI .i64 (CV.cellD 1 u6.1)) <|
grd (CV.isB (CV.cellD 2 u6.1)) <|
grd (CV.isB (CV.cellD 3 u6.1)) <|
grd (CV.isB (CV.cellD 4 u6.1)) <|
grd (CV.isI .i64 (CV.cellD 5 u6.1)) <|
grd (CV.isI .i64 (CV.cellD 6 u6.1)) <|
grd (CV.isB (CV.cellD 7 u6.1)) <|
(bif (!(u4.2 == u6.2)) then
K (false)
else
(bif (!(((CV.toI (CV.cellD 0 u4.1)) == (CV.toI (CV.cellD 0 u6.1))) && (((CV.toI (CV.cellD 1 u4.1)) == (CV.toI (CV.cellD 1 u6.1))) && (((CV.toB (CV.cellD 2 u4.1)) == (CV.toB (CV.cellD 2 u6.1))) && (((CV.toB (CV.cellD 3 u4.1)) == (CV.toB (CV.cellD 3 u6.1))) && (((CV.toB (CV.cellD 4 u4.1)) == (CV.toB (CV.cellD 4 u6.1))) && (((CV.toI (CV.cellD 5 u4.1)) == (CV.toI (CV.cellD 5 u6.1))) && (((CV.toI (CV.cellD 6 u4.1)) == (CV.toI (CV.cellD 6 u6.1))) && (((CV.toB (CV.cellD 7 u4.1)) == (CV.toB (CV.cellD 7 u6.1))) && true))))))))) then
K (false)
else
R_f14 _ (fun u7 =>
R_f17 _ (fun u8 =>
(bif (!u8.2.2.2.2.1) then
(bif (!u4.2) then
K (((Nat.cast (u8.2.2.2.1) : Int) == 0))
else
K (false))
else
loop1 (x0, x1, u4.2, 0, u8.2.2.2.1, (Nat.cast (u8.2.2.2.1) : Int), 0, u8.1, u8.2.1, u8.2.2.1, u8.2.2.2.1, u8.2.2.2.2.2))) ((List.take 5 (List.drop 0 u7))) (x0)) ))) ((List.take 5 (List.drop 0 u5))) (x0) (x1)) ) ((List.take 5 (List.drop 0 u3))) (x0) (x1)) )) 
/-- "outpost/outpostlaw18.SchemaRules" -/
def f5_A (R_f6 : f6_R) (R_f14 : f14_R) (R_f18 : f18_R) (R_f16 : f16_R) (R_f19 : f19_R) (R_f17 : f17_R) (k : Nat) : f5_R := fun X K x0 x1 => f5_T R_f6 R_f14 R_f18 R_f16 R_f19 R_f17 k K (iterV (f5_L1 R_f6 R_f14 R_f18 R_f16 R_f19 R_f17 k K) k) x0 x1
set_option maxRecDepth 100000 in
theorem f5_ev' {X : Type} (R_f6 : f6_R) (R_f14 : f14_R) (R_f18 : f18_R) (R_f16 : f16_R) (R_f19 : f19_R) (R_f17 : f17_R) (hR_f6 : AnsOk Try.prog 6 (f6_cOf R_f6)) (hR_f14 : AnsOk Try.prog 14 (f14_cOf R_f14)) (hR_f18 : AnsOk Try.prog 18 (f18_cOf R_f18)) (hR_f16 : AnsOk Try.prog 16 (f16_cOf R_f16)) (hR_f19 : AnsOk Try.prog 19 (f19_cOf R_f19)) (hR_f17 : AnsOk Try.prog 17 (f17_cOf R_f17)) (k : Nat) (K : Out → Option X) (x0 : Int) (x1 : Int) : evFn (f5_cx R_f6 R_f14 R_f18 R_f16 R_f19 R_f17 hR_f6 hR_f14 hR_f18 hR_f16 hR_f19 hR_f17) [] k Try.f5.ntmps Try.f5.results.toList (Try.f5.body.getD .skip) [(.v (CV.int .i64 x0)), (.v (CV.int .i64 x1))] [] K = f5_T R_f6 R_f14 R_f18 R_f16 R_f19 R_f17 k (fun u => K (f5_out u)) (fun v => iter (loopB (f5_cx R_f6 R_f14 R_f18 R_f16 R_f19 R_f17 hR_f6 hR_f14 hR_f18 hR_f16 hR_f19 hR_f17) k [.r, .r, .r, .r, .r, .r, .r, .r, .l, .r, .b] (Try.f5.body.getD .skip) (retK (f5_cx R_f6 R_f14 R_f18 R_f16 R_f19 R_f17 hR_f6 hR_f14 hR_f18 hR_f16 hR_f19 hR_f17) [] Try.f5.results.toList K) []) k (f5_S1 v)) x0 x1 := by kernel_rfl
theorem f5_ev {X : Type} (R_f6 : f6_R) (R_f14 : f14_R) (R_f18 : f18_R) (R_f16 : f16_R) (R_f19 : f19_R) (R_f17 : f17_R) (hR_f6 : AnsOk Try.prog 6 (f6_cOf R_f6)) (hR_f14 : AnsOk Try.prog 14 (f14_cOf R_f14)) (hR_f18 : AnsOk Try.prog 18 (f18_cOf R_f18)) (hR_f16 : AnsOk Try.prog 16 (f16_cOf R_f16)) (hR_f19 : AnsOk Try.prog 19 (f19_cOf R_f19)) (hR_f17 : AnsOk Try.prog 17 (f17_cOf R_f17)) (k : Nat) (K : Out → Option X) (x0 : Int) (x1 : Int) : evFn (f5_cx R_f6 R_f14 R_f18 R_f16 R_f19 R_f17 hR_f6 hR_f14 hR_f18 hR_f16 hR_f19 hR_f17) [] k Try.f5.ntmps Try.f5.results.toList (Try.f5.body.getD .skip) [(.v (CV.int .i64 x0)), (.v (CV.int .i64 x1))] [] K = f5_A R_f6 R_f14 R_f18 R_f16 R_f19 R_f17 k X (fun u => K (f5_out u)) x0 x1 := (f5_ev' R_f6 R_f14 R_f18 R_f16 R_f19 R_f17 hR_f6 hR_f14 hR_f18 hR_f16 hR_f19 hR_f17 k K x0 x1).trans (by rw [f5_L1_it R_f6 R_f14 R_f18 R_f16 R_f19 R_f17 hR_f6 hR_f14 hR_f18 hR_f16 hR_f19 hR_f17 k K]; rfl)
theorem f5_okA (R_f6 : f6_R) (R_f14 : f14_R) (R_f18 : f18_R) (R_f16 : f16_R) (R_f19 : f19_R) (R_f17 : f17_R) (hR_f6 : AnsOk Try.prog 6 (f6_cOf R_f6)) (hR_f14 : AnsOk Try.prog 14 (f14_cOf R_f14)) (hR_f18 : AnsOk Try.prog 18 (f18_cOf R_f18)) (hR_f16 : AnsOk Try.prog 16 (f16_cOf R_f16)) (hR_f19 : AnsOk Try.prog 19 (f19_cOf R_f19)) (hR_f17 : AnsOk Try.prog 17 (f17_cOf R_f17)) (k : Nat) : AnsOk Try.prog 5 (f5_cOf (f5_A R_f6 R_f14 R_f18 R_f16 R_f19 R_f17 k)) := by
  intro X xs ns K x h
  unfold f5_cOf at h ⊢
  split at h
  · exact ans_main S (f5_Cok R_f6 R_f14 R_f18 R_f16 R_f19 R_f17 hR_f6 hR_f14 hR_f18 hR_f16 hR_f19 hR_f17) Try.func5 (ent_of Try.func5 (by kernel_rfl) rfl) rfl (fun X K => f5_ev R_f6 R_f14 R_f18 R_f16 R_f19 R_f17 hR_f6 hR_f14 hR_f18 hR_f16 hR_f19 hR_f17 k K _ _) h
  · cases h
/-- "outpost/outpostlaw18.SchemaRules" -/
def f5 {X : Type} (k : Nat) (K : Bool → Option X) (x0 : Int) (x1 : Int) : Option X := f5_A (fun X => @f6 X k) (fun X => @f14 X k) (fun X => @f18 X k) (fun X => @f16 X k) (fun X => @f19 X k) (fun X => @f17 X k) k X K x0 x1
theorem f5_ok (k : Nat) : AnsOk Try.prog 5 (f5_cOf (fun X => @f5 X k)) := f5_okA (fun X => @f6 X k) (fun X => @f14 X k) (fun X => @f18 X k) (fun X => @f16 X k) (fun X => @f19 X k) (fun X => @f17 X k) (f6_ok k) (f14_ok k) (f18_ok k) (f16_ok k) (f19_ok k) (f17_ok k) k
end Go.Proofs.YtoijlllboghpcaaD
