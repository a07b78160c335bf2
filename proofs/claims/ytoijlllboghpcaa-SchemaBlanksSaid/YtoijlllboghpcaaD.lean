/- Functions of the program, as plain Lean functions: each with the proof that the evaluator computes it. (Printed by wip/dec/dec.py.) -/
import Derived.Test.YtoijlllboghpcaaTN
import Derived.Test.YtoijlllboghpcaaTO
import Derived.Test.YtoijlllboghpcaaTR
import Derived.Test.YtoijlllboghpcaaProg
import Derived.Test.YtoijlllboghpcaaChecked
import Derived.Test.YtoijlllboghpcaaTU
import Derived.Test.YtoijlllboghpcaaLay
namespace Go.Proofs.YtoijlllboghpcaaD
open Go Go.Proofs.YtoijlllboghpcaaS Go.Proofs
set_option linter.unusedVariables false
set_option linter.unusedSimpArgs false
def rows : List (Nat × TI) := [
  (2, ⟨(.int .i64), 1, 8, .v (.int .i64 0)⟩),
  (3, ⟨(.int .i64), 1, 8, .v (.int .i64 0)⟩),
  (4, ⟨.bool, 1, 1, .v (.bool false)⟩),
  (5, ⟨(.int .u8), 1, 1, .v (.int .u8 0)⟩),
  (9, ⟨.str, 1, 16, .v (.str ⟨#[]⟩)⟩),
  (22, ⟨(.slice 28), 1, 24, .nil0 (some 8)⟩),
  (24, ⟨(.struct [(0, 3), (1, 3), (2, 4), (3, 22)]), 4, 48, .agg [.v (.int .i64 0), .v (.int .i64 0), .v (.bool false), .nil0 (some 8)]⟩),
  (28, ⟨(.struct [(0, 3), (1, 3), (2, 4), (3, 4), (4, 4), (5, 2), (6, 2), (7, 4)]), 8, 48, .v (.agg [(.int .i64 0), (.int .i64 0), (.bool false), (.bool false), (.bool false), (.int .i64 0), (.int .i64 0), (.bool false)])⟩),
  (29, ⟨(.slice 5), 1, 24, .nil0 none⟩),
  (31, ⟨(.struct [(0, 3), (1, 2), (2, 9), (3, 29), (4, 3), (5, 3)]), 6, 72, .agg [.v (.int .i64 0), .v (.int .i64 0), .v (.str ⟨#[]⟩), .nil0 none, .v (.int .i64 0), .v (.int .i64 0)]⟩),
  (36, ⟨(.slice 24), 1, 24, .nil0 (some 4)⟩),
  (53, ⟨(.int .u8), 1, 1, .v (.int .u8 0)⟩)]
set_option maxRecDepth 100000 in
theorem rows_ok : rowsAre Try.prog rows = true := by kernel_rfl
def cmps : List Nat := [28]
theorem cmps_ok : cmpsAre Try.prog cmps = true := by kernel_rfl
def S : Seat Try.prog := ⟨rows, rows_ok, Try.checked.mixed, cmps, cmps_ok⟩
def md (g : FuncId) (i : Nat) : Nat := 0
def setRun {X : Type} (e : CV) (j n : Nat) (cs : List CV) (K : CV → Option X) : Option X := match e with
  | .agg ds => grd (Nat.ble (j + n) ds.length) (K (.agg (putRun ds j cs)))
  | _ => none
def setCell {X : Type} (e : CV) (j : Nat) (c : CV) (K : CV → Option X) : Option X := match e with
  | .agg ds => grd (Nat.blt j ds.length) (K (.agg (ds.set j c)))
  | _ => none
abbrev f26_R : Type 1 := (X : Type) → (CV → Option X) → Int → Int → Int → Int → Int → Option X
def f26_out (u : CV) : Out := ⟨(.v u), []⟩
def f26_cOf (R : f26_R) : FnC := fun X xs ns K => match xs, ns with
  | [(.v (CV.int .i64 x0)), (.v (CV.int .i64 x1)), (.v (CV.int .u8 x2)), (.v (CV.int .i64 x3)), (.v (CV.int .i64 x4))], [] => R X (fun u => K (f26_out u)) x0 x1 x2 x3 x4
  | _, _ => none
def f26_plan : Nat → Option (List Nat × List Wk)
  | 0 => some ([0, 1, 2, 3, 4], [])
  | 1 => some ([0, 1, 2, 3, 4, 10], [])
  | _ => none
def f26_C : Fns := noC
theorem f26_Cok : CsOk Try.prog (f26_C) := noC_ok
def f26_cx : Cx := mkCx (tabOf rows) (f26_C) md (cmpIn cmps) f26_plan (f26_Cok)
def f26_T {X : Type} (k : Nat) (K : CV → Option X)  (x0 : Int) (x1 : Int) (x2 : Int) (x3 : Int) (x4 : Int) : Option X :=
K ((CV.agg [(CV.int .i64 x0), (CV.int .i64 x1), (CV.bool ((bop .and .u8 x2 1) != 0)), (CV.bool ((bop .and .u8 x2 2) != 0)), (CV.bool ((bop .and .u8 x2 4) != 0)), (CV.int .i64 x3), (CV.int .i64 x4), (CV.bool ((bop .and .u8 x2 8) != 0))]))
/-- "outpost/schema.rule" -/
def f26_A (k : Nat) : f26_R := fun X K x0 x1 x2 x3 x4 => f26_T k K  x0 x1 x2 x3 x4
set_option maxRecDepth 100000 in
theorem f26_ev' {X : Type} (k : Nat) (K : Out → Option X) (x0 : Int) (x1 : Int) (x2 : Int) (x3 : Int) (x4 : Int) : evFn (f26_cx) [] k Try.f26.ntmps Try.f26.results.toList (Try.f26.body.getD .skip) [(.v (CV.int .i64 x0)), (.v (CV.int .i64 x1)), (.v (CV.int .u8 x2)), (.v (CV.int .i64 x3)), (.v (CV.int .i64 x4))] [] K = f26_T k (fun u => K (f26_out u)) x0 x1 x2 x3 x4 := by kernel_rfl
theorem f26_ev {X : Type} (k : Nat) (K : Out → Option X) (x0 : Int) (x1 : Int) (x2 : Int) (x3 : Int) (x4 : Int) : evFn (f26_cx) [] k Try.f26.ntmps Try.f26.results.toList (Try.f26.body.getD .skip) [(.v (CV.int .i64 x0)), (.v (CV.int .i64 x1)), (.v (CV.int .u8 x2)), (.v (CV.int .i64 x3)), (.v (CV.int .i64 x4))] [] K = f26_A k X (fun u => K (f26_out u)) x0 x1 x2 x3 x4 := (f26_ev' k K x0 x1 x2 x3 x4).trans rfl
theorem f26_okA (k : Nat) : AnsOk Try.prog 26 (f26_cOf (f26_A k)) := by
  intro X xs ns K x h
  unfold f26_cOf at h ⊢
  split at h
  · exact ans_main S (f26_Cok) Try.func26 (ent_of Try.func26 (by kernel_rfl) rfl) rfl (fun X K => f26_ev k K _ _ _ _ _) h
  · cases h
/-- "outpost/schema.rule" -/
def f26 {X : Type} (k : Nat) (K : CV → Option X) (x0 : Int) (x1 : Int) (x2 : Int) (x3 : Int) (x4 : Int) : Option X := f26_A k X K x0 x1 x2 x3 x4
theorem f26_ok (k : Nat) : AnsOk Try.prog 26 (f26_cOf (fun X => @f26 X k)) := f26_okA k
abbrev f25_R : Type 1 := (X : Type) → (CV → Option X) → Int → Int → Int → Int → Option X
def f25_out (u : CV) : Out := ⟨(.v u), []⟩
def f25_cOf (R : f25_R) : FnC := fun X xs ns K => match xs, ns with
  | [(.v (CV.int .i64 x0)), (.v (CV.int .u8 x1)), (.v (CV.int .i64 x2)), (.v (CV.int .i64 x3))], [] => R X (fun u => K (f25_out u)) x0 x1 x2 x3
  | _, _ => none
def f25_plan : Nat → Option (List Nat × List Wk)
  | 0 => some ([0, 1, 2, 3], [])
  | 1 => some ([0, 1, 2, 3, 8], [])
  | _ => none
def f25_C (R_f26 : f26_R) : Fns := (orC 26 (f26_cOf R_f26) noC)
theorem f25_Cok (R_f26 : f26_R) (hR_f26 : AnsOk Try.prog 26 (f26_cOf R_f26)) : CsOk Try.prog (f25_C R_f26) := (orC_ok hR_f26 noC_ok)
def f25_cx (R_f26 : f26_R) (hR_f26 : AnsOk Try.prog 26 (f26_cOf R_f26)) : Cx := mkCx (tabOf rows) (f25_C R_f26) md (cmpIn cmps) f25_plan (f25_Cok R_f26 hR_f26)
def f25_T {X : Type} (R_f26 : f26_R) (k : Nat) (K : CV → Option X)  (x0 : Int) (x1 : Int) (x2 : Int) (x3 : Int) : Option X :=
R_f26 _ (fun u1 =>
grd (CV.isA 8 u1) <|
grd (CV.isI .i64 (CV.cellD 0 u1)) <|
grd (CV.isI .i64 (CV.cellD 1 u1)) <|
grd (CV.isB (CV.cellD 2 u1)) <|
grd (CV.isB (CV.cellD 3 u1)) <|
grd (CV.isB (CV.cellD 4 u1)) <|
grd (CV.isI .i64 (CV.cellD 5 u1)) <|
grd (CV.isI .i64 (CV.cellD 6 u1)) <|
grd (CV.isB (CV.cellD 7 u1)) <|
K ((CV.agg [(CV.int .i64 (CV.toI (CV.cellD 0 u1))), (CV.int .i64 (CV.toI (CV.cellD 1 u1))), (CV.bool (CV.toB (CV.cellD 2 u1))), (CV.bool (CV.toB (CV.cellD 3 u1))), (CV.bool (CV.toB (CV.cellD 4 u1))), (CV.int .i64 (CV.toI (CV.cellD 5 u1))), (CV.int .i64 (CV.toI (CV.cellD 6 u1))), (CV.bool (CV.toB (CV.cellD 7 u1)))]))) (x0) (3) (x1) (x2) (x3)
/-- "outpost/schema.text" -/
def f25_A (R_f26 : f26_R) (k : Nat) : f25_R := fun X K x0 x1 x2 x3 => f25_T R_f26 k K  x0 x1 x2 x3
set_option maxRecDepth 100000 in
theorem f25_ev' {X : Type} (R_f26 : f26_R) (hR_f26 : AnsOk Try.prog 26 (f26_cOf R_f26)) (k : Nat) (K : Out → Option X) (x0 : Int) (x1 : Int) (x2 : Int) (x3 : Int) : evFn (f25_cx R_f26 hR_f26) [] k Try.f25.ntmps Try.f25.results.toList (Try.f25.body.getD .skip) [(.v (CV.int .i64 x0)), (.v (CV.int .u8 x1)), (.v (CV.int .i64 x2)), (.v (CV.int .i64 x3))] [] K = f25_T R_f26 k (fun u => K (f25_out u)) x0 x1 x2 x3 := by kernel_rfl
theorem f25_ev {X : Type} (R_f26 : f26_R) (hR_f26 : AnsOk Try.prog 26 (f26_cOf R_f26)) (k : Nat) (K : Out → Option X) (x0 : Int) (x1 : Int) (x2 : Int) (x3 : Int) : evFn (f25_cx R_f26 hR_f26) [] k Try.f25.ntmps Try.f25.results.toList (Try.f25.body.getD .skip) [(.v (CV.int .i64 x0)), (.v (CV.int .u8 x1)), (.v (CV.int .i64 x2)), (.v (CV.int .i64 x3))] [] K = f25_A R_f26 k X (fun u => K (f25_out u)) x0 x1 x2 x3 := (f25_ev' R_f26 hR_f26 k K x0 x1 x2 x3).trans rfl
theorem f25_okA (R_f26 : f26_R) (hR_f26 : AnsOk Try.prog 26 (f26_cOf R_f26)) (k : Nat) : AnsOk Try.prog 25 (f25_cOf (f25_A R_f26 k)) := by
  intro X xs ns K x h
  unfold f25_cOf at h ⊢
  split at h
  · exact ans_main S (f25_Cok R_f26 hR_f26) Try.func25 (ent_of Try.func25 (by kernel_rfl) rfl) rfl (fun X K => f25_ev R_f26 hR_f26 k K _ _ _ _) h
  · cases h
/-- "outpost/schema.text" -/
def f25 {X : Type} (k : Nat) (K : CV → Option X) (x0 : Int) (x1 : Int) (x2 : Int) (x3 : Int) : Option X := f25_A (fun X => @f26 X k) k X K x0 x1 x2 x3
theorem f25_ok (k : Nat) : AnsOk Try.prog 25 (f25_cOf (fun X => @f25 X k)) := f25_okA (fun X => @f26 X k) (f26_ok k) k
abbrev f27_R : Type 1 := (X : Type) → (CV → Option X) → Int → Int → Int → Int → Option X
def f27_out (u : CV) : Out := ⟨(.v u), []⟩
def f27_cOf (R : f27_R) : FnC := fun X xs ns K => match xs, ns with
  | [(.v (CV.int .i64 x0)), (.v (CV.int .u8 x1)), (.v (CV.int .i64 x2)), (.v (CV.int .i64 x3))], [] => R X (fun u => K (f27_out u)) x0 x1 x2 x3
  | _, _ => none
def f27_plan : Nat → Option (List Nat × List Wk)
  | 0 => some ([0, 1, 2, 3], [])
  | 1 => some ([0, 1, 2, 3, 8], [])
  | _ => none
def f27_C (R_f26 : f26_R) : Fns := (orC 26 (f26_cOf R_f26) noC)
theorem f27_Cok (R_f26 : f26_R) (hR_f26 : AnsOk Try.prog 26 (f26_cOf R_f26)) : CsOk Try.prog (f27_C R_f26) := (orC_ok hR_f26 noC_ok)
def f27_cx (R_f26 : f26_R) (hR_f26 : AnsOk Try.prog 26 (f26_cOf R_f26)) : Cx := mkCx (tabOf rows) (f27_C R_f26) md (cmpIn cmps) f27_plan (f27_Cok R_f26 hR_f26)
def f27_T {X : Type} (R_f26 : f26_R) (k : Nat) (K : CV → Option X)  (x0 : Int) (x1 : Int) (x2 : Int) (x3 : Int) : Option X :=
R_f26 _ (fun u1 =>
grd (CV.isA 8 u1) <|
grd (CV.isI .i64 (CV.cellD 0 u1)) <|
grd (CV.isI .i64 (CV.cellD 1 u1)) <|
grd (CV.isB (CV.cellD 2 u1)) <|
grd (CV.isB (CV.cellD 3 u1)) <|
grd (CV.isB (CV.cellD 4 u1)) <|
grd (CV.isI .i64 (CV.cellD 5 u1)) <|
grd (CV.isI .i64 (CV.cellD 6 u1)) <|
grd (CV.isB (CV.cellD 7 u1)) <|
K ((CV.agg [(CV.int .i64 (CV.toI (CV.cellD 0 u1))), (CV.int .i64 (CV.toI (CV.cellD 1 u1))), (CV.bool (CV.toB (CV.cellD 2 u1))), (CV.bool (CV.toB (CV.cellD 3 u1))), (CV.bool (CV.toB (CV.cellD 4 u1))), (CV.int .i64 (CV.toI (CV.cellD 5 u1))), (CV.int .i64 (CV.toI (CV.cellD 6 u1))), (CV.bool (CV.toB (CV.cellD 7 u1)))]))) (x0) (1) (x1) (x2) (x3)
/-- "outpost/schema.number" -/
def f27_A (R_f26 : f26_R) (k : Nat) : f27_R := fun X K x0 x1 x2 x3 => f27_T R_f26 k K  x0 x1 x2 x3
set_option maxRecDepth 100000 in
theorem f27_ev' {X : Type} (R_f26 : f26_R) (hR_f26 : AnsOk Try.prog 26 (f26_cOf R_f26)) (k : Nat) (K : Out → Option X) (x0 : Int) (x1 : Int) (x2 : Int) (x3 : Int) : evFn (f27_cx R_f26 hR_f26) [] k Try.f27.ntmps Try.f27.results.toList (Try.f27.body.getD .skip) [(.v (CV.int .i64 x0)), (.v (CV.int .u8 x1)), (.v (CV.int .i64 x2)), (.v (CV.int .i64 x3))] [] K = f27_T R_f26 k (fun u => K (f27_out u)) x0 x1 x2 x3 := by kernel_rfl
theorem f27_ev {X : Type} (R_f26 : f26_R) (hR_f26 : AnsOk Try.prog 26 (f26_cOf R_f26)) (k : Nat) (K : Out → Option X) (x0 : Int) (x1 : Int) (x2 : Int) (x3 : Int) : evFn (f27_cx R_f26 hR_f26) [] k Try.f27.ntmps Try.f27.results.toList (Try.f27.body.getD .skip) [(.v (CV.int .i64 x0)), (.v (CV.int .u8 x1)), (.v (CV.int .i64 x2)), (.v (CV.int .i64 x3))] [] K = f27_A R_f26 k X (fun u => K (f27_out u)) x0 x1 x2 x3 := (f27_ev' R_f26 hR_f26 k K x0 x1 x2 x3).trans rfl
theorem f27_okA (R_f26 : f26_R) (hR_f26 : AnsOk Try.prog 26 (f26_cOf R_f26)) (k : Nat) : AnsOk Try.prog 27 (f27_cOf (f27_A R_f26 k)) := by
  intro X xs ns K x h
  unfold f27_cOf at h ⊢
  split at h
  · exact ans_main S (f27_Cok R_f26 hR_f26) Try.func27 (ent_of Try.func27 (by kernel_rfl) rfl) rfl (fun X K => f27_ev R_f26 hR_f26 k K _ _ _ _) h
  · cases h
/-- "outpost/schema.number" -/
def f27 {X : Type} (k : Nat) (K : CV → Option X) (x0 : Int) (x1 : Int) (x2 : Int) (x3 : Int) : Option X := f27_A (fun X => @f26 X k) k X K x0 x1 x2 x3
theorem f27_ok (k : Nat) : AnsOk Try.prog 27 (f27_cOf (fun X => @f27 X k)) := f27_okA (fun X => @f26 X k) (f26_ok k) k
abbrev f28_R : Type 1 := (X : Type) → (CV → Option X) → Int → Option X
def f28_out (u : CV) : Out := ⟨(.v u), []⟩
def f28_cOf (R : f28_R) : FnC := fun X xs ns K => match xs, ns with
  | [(.v (CV.int .i64 x0))], [] => R X (fun u => K (f28_out u)) x0
  | _, _ => none
def f28_plan : Nat → Option (List Nat × List Wk)
  | 0 => some ([0], [])
  | 1 => some ([0, 2], [])
  | _ => none
def f28_C (R_f26 : f26_R) : Fns := (orC 26 (f26_cOf R_f26) noC)
theorem f28_Cok (R_f26 : f26_R) (hR_f26 : AnsOk Try.prog 26 (f26_cOf R_f26)) : CsOk Try.prog (f28_C R_f26) := (orC_ok hR_f26 noC_ok)
def f28_cx (R_f26 : f26_R) (hR_f26 : AnsOk Try.prog 26 (f26_cOf R_f26)) : Cx := mkCx (tabOf rows) (f28_C R_f26) md (cmpIn cmps) f28_plan (f28_Cok R_f26 hR_f26)
def f28_T {X : Type} (R_f26 : f26_R) (k : Nat) (K : CV → Option X)  (x0 : Int) : Option X :=
R_f26 _ (fun u1 =>
grd (CV.isA 8 u1) <|
grd (CV.isI .i64 (CV.cellD 0 u1)) <|
grd (CV.isI .i64 (CV.cellD 1 u1)) <|
grd (CV.isB (CV.cellD 2 u1)) <|
grd (CV.isB (CV.cellD 3 u1)) <|
grd (CV.isB (CV.cellD 4 u1)) <|
grd (CV.isI .i64 (CV.cellD 5 u1)) <|
grd (CV.isI .i64 (CV.cellD 6 u1)) <|
grd (CV.isB (CV.cellD 7 u1)) <|
K ((CV.agg [(CV.int .i64 (CV.toI (CV.cellD 0 u1))), (CV.int .i64 (CV.toI (CV.cellD 1 u1))), (CV.bool (CV.toB (CV.cellD 2 u1))), (CV.bool (CV.toB (CV.cellD 3 u1))), (CV.bool (CV.toB (CV.cellD 4 u1))), (CV.int .i64 (CV.toI (CV.cellD 5 u1))), (CV.int .i64 (CV.toI (CV.cellD 6 u1))), (CV.bool (CV.toB (CV.cellD 7 u1)))]))) (x0) (0) (4) (0) (0)
/-- "outpost/schema.run" -/
def f28_A (R_f26 : f26_R) (k : Nat) : f28_R := fun X K x0 => f28_T R_f26 k K  x0
set_option maxRecDepth 100000 in
theorem f28_ev' {X : Type} (R_f26 : f26_R) (hR_f26 : AnsOk Try.prog 26 (f26_cOf R_f26)) (k : Nat) (K : Out → Option X) (x0 : Int) : evFn (f28_cx R_f26 hR_f26) [] k Try.f28.ntmps Try.f28.results.toList (Try.f28.body.getD .skip) [(.v (CV.int .i64 x0))] [] K = f28_T R_f26 k (fun u => K (f28_out u)) x0 := by kernel_rfl
theorem f28_ev {X : Type} (R_f26 : f26_R) (hR_f26 : AnsOk Try.prog 26 (f26_cOf R_f26)) (k : Nat) (K : Out → Option X) (x0 : Int) : evFn (f28_cx R_f26 hR_f26) [] k Try.f28.ntmps Try.f28.results.toList (Try.f28.body.getD .skip) [(.v (CV.int .i64 x0))] [] K = f28_A R_f26 k X (fun u => K (f28_out u)) x0 := (f28_ev' R_f26 hR_f26 k K x0).trans rfl
theorem f28_okA (R_f26 : f26_R) (hR_f26 : AnsOk Try.prog 26 (f26_cOf R_f26)) (k : Nat) : AnsOk Try.prog 28 (f28_cOf (f28_A R_f26 k)) := by
  intro X xs ns K x h
  unfold f28_cOf at h ⊢
  split at h
  · exact ans_main S (f28_Cok R_f26 hR_f26) Try.func28 (ent_of Try.func28 (by kernel_rfl) rfl) rfl (fun X K => f28_ev R_f26 hR_f26 k K _) h
  · cases h
/-- "outpost/schema.run" -/
def f28 {X : Type} (k : Nat) (K : CV → Option X) (x0 : Int) : Option X := f28_A (fun X => @f26 X k) k X K x0
theorem f28_ok (k : Nat) : AnsOk Try.prog 28 (f28_cOf (fun X => @f28 X k)) := f28_okA (fun X => @f26 X k) (f26_ok k) k
abbrev f14_R : Type 1 := (X : Type) → ((List CV) → Option X) → Option X
def f14_out (u : (List CV)) : Out := ⟨(.osl [2000] (some 4) 0 5), [([2000], (.row false (some 4) u))]⟩
def f14_cOf (R : f14_R) : FnC := fun X xs ns K => match xs, ns with
  | [], [] => R X (fun u => K (f14_out u)) 
  | _, _ => none
def f14_plan : Nat → Option (List Nat × List Wk)
  | 0 => some ([], [])
  | 1 => some ([], [])
  | _ => none
def f14_C (R_f25 : f25_R) (R_f26 : f26_R) (R_f27 : f27_R) (R_f28 : f28_R) : Fns := (orC 25 (f25_cOf R_f25) (orC 26 (f26_cOf R_f26) (orC 27 (f27_cOf R_f27) (orC 28 (f28_cOf R_f28) noC))))
theorem f14_Cok (R_f25 : f25_R) (R_f26 : f26_R) (R_f27 : f27_R) (R_f28 : f28_R) (hR_f25 : AnsOk Try.prog 25 (f25_cOf R_f25)) (hR_f26 : AnsOk Try.prog 26 (f26_cOf R_f26)) (hR_f27 : AnsOk Try.prog 27 (f27_cOf R_f27)) (hR_f28 : AnsOk Try.prog 28 (f28_cOf R_f28)) : CsOk Try.prog (f14_C R_f25 R_f26 R_f27 R_f28) := (orC_ok hR_f25 (orC_ok hR_f26 (orC_ok hR_f27 (orC_ok hR_f28 noC_ok))))
def f14_cx (R_f25 : f25_R) (R_f26 : f26_R) (R_f27 : f27_R) (R_f28 : f28_R) (hR_f25 : AnsOk Try.prog 25 (f25_cOf R_f25)) (hR_f26 : AnsOk Try.prog 26 (f26_cOf R_f26)) (hR_f27 : AnsOk Try.prog 27 (f27_cOf R_f27)) (hR_f28 : AnsOk Try.prog 28 (f28_cOf R_f28)) : Cx := mkCx (tabOf rows) (f14_C R_f25 R_f26 R_f27 R_f28) md (cmpIn cmps) f14_plan (f14_Cok R_f25 R_f26 R_f27 R_f28 hR_f25 hR_f26 hR_f27 hR_f28)
def f14_T {X : Type} (R_f25 : f25_R) (R_f26 : f26_R) (R_f27 : f27_R) (R_f28 : f28_R) (k : Nat) (K : (List CV) → Option X)   : Option X :=
R_f25 _ (fun u1 =>
R_f26 _ (fun u2 =>
R_f27 _ (fun u3 =>
grd (fitSh (some 8) u1) <|
grd (fitSh (some 8) u2) <|
grd (fitSh (some 8) u3) <|
R_f27 _ (fun u4 =>
R_f27 _ (fun u5 =>
R_f27 _ (fun u6 =>
R_f27 _ (fun u7 =>
R_f26 _ (fun u8 =>
R_f25 _ (fun u9 =>
R_f28 _ (fun u10 =>
grd (fitSh (some 8) u4) <|
grd (fitSh (some 8) u5) <|
grd (fitSh (some 8) u6) <|
grd (fitSh (some 8) u7) <|
grd (fitSh (some 8) u8) <|
grd (fitSh (some 8) u9) <|
grd (fitSh (some 8) u10) <|
R_f27 _ (fun u11 =>
R_f27 _ (fun u12 =>
R_f26 _ (fun u13 =>
R_f27 _ (fun u14 =>
grd (fitSh (some 8) u11) <|
grd (fitSh (some 8) u12) <|
grd (fitSh (some 8) u13) <|
grd (fitSh (some 8) u14) <|
R_f25 _ (fun u15 =>
R_f25 _ (fun u16 =>
R_f25 _ (fun u17 =>
R_f28 _ (fun u18 =>
R_f27 _ (fun u19 =>
R_f27 _ (fun u20 =>
R_f26 _ (fun u21 =>
R_f25 _ (fun u22 =>
grd (fitSh (some 8) u15) <|
grd (fitSh (some 8) u16) <|
grd (fitSh (some 8) u17) <|
grd (fitSh (some 8) u18) <|
grd (fitSh (some 8) u19) <|
grd (fitSh (some 8) u20) <|
grd (fitSh (some 8) u21) <|
grd (fitSh (some 8) u22) <|
R_f26 _ (fun u23 =>
R_f25 _ (fun u24 =>
R_f28 _ (fun u25 =>
R_f27 _ (fun u26 =>
R_f27 _ (fun u27 =>
R_f25 _ (fun u28 =>
R_f25 _ (fun u29 =>
R_f27 _ (fun u30 =>
grd (fitSh (some 8) u23) <|
grd (fitSh (some 8) u24) <|
grd (fitSh (some 8) u25) <|
grd (fitSh (some 8) u26) <|
grd (fitSh (some 8) u27) <|
grd (fitSh (some 8) u28) <|
grd (fitSh (some 8) u29) <|
grd (fitSh (some 8) u30) <|
K ((List.take 5 [(CV.agg [(CV.int .i64 0), (CV.int .i64 2), (CV.bool false), (CV.slc (some 8) (List.take 3 (List.drop 0 [u1, u2, u3])))]), (CV.agg [(CV.int .i64 1), (CV.int .i64 2), (CV.bool false), (CV.slc (some 8) (List.take 7 (List.drop 0 [u4, u5, u6, u7, u8, u9, u10])))]), (CV.agg [(CV.int .i64 2), (CV.int .i64 8), (CV.bool true), (CV.slc (some 8) (List.take 4 (List.drop 0 [u11, u12, u13, u14])))]), (CV.agg [(CV.int .i64 3), (CV.int .i64 1), (CV.bool false), (CV.slc (some 8) (List.take 8 (List.drop 0 [u15, u16, u17, u18, u19, u20, u21, u22])))]), (CV.agg [(CV.int .i64 5), (CV.int .i64 1), (CV.bool false), (CV.slc (some 8) (List.take 8 (List.drop 0 [u23, u24, u25, u26, u27, u28, u29, u30])))])]))) (9) (9) (0) (2)) (7) (1) (0) (40)) (6) (1) (0) (40)) (5) (9) (0) (9)) (3) (9) (0) (3)) (2)) (1) (3) (0) (100)) (0) (4) (2) (0) (200)) (14) (3) (0) (6)) (13) (5) (3) (0) (1099511627776)) (11) (9) (0) (32)) (9) (1) (0) (100)) (4)) (3) (1) (0) (40)) (1) (1) (0) (40)) (0) (1) (0) (40)) (3) (11) (0) (65535)) (2) (4) (3) (0) (64)) (1) (9) (0) (65535)) (0) (9) (0) (65534)) (8)) (7) (11) (1) (3)) (6) (2) (11) (0) (0)) (3) (3) (0) (65535)) (2) (3) (0) (65535)) (1) (11) (1) (86400)) (0) (9) (1) (65534)) (10) (8) (1) (65534)) (1) (2) (8) (0) (0)) (0) (8) (1) (100)
/-- "outpost/schema.All" -/
def f14_A (R_f25 : f25_R) (R_f26 : f26_R) (R_f27 : f27_R) (R_f28 : f28_R) (k : Nat) : f14_R := fun X K  => f14_T R_f25 R_f26 R_f27 R_f28 k K  
set_option maxRecDepth 100000 in
theorem f14_ev' {X : Type} (R_f25 : f25_R) (R_f26 : f26_R) (R_f27 : f27_R) (R_f28 : f28_R) (hR_f25 : AnsOk Try.prog 25 (f25_cOf R_f25)) (hR_f26 : AnsOk Try.prog 26 (f26_cOf R_f26)) (hR_f27 : AnsOk Try.prog 27 (f27_cOf R_f27)) (hR_f28 : AnsOk Try.prog 28 (f28_cOf R_f28)) (k : Nat) (K : Out → Option X)  : evFn (f14_cx R_f25 R_f26 R_f27 R_f28 hR_f25 hR_f26 hR_f27 hR_f28) [] k Try.f14.ntmps Try.f14.results.toList (Try.f14.body.getD .skip) [] [] K = f14_T R_f25 R_f26 R_f27 R_f28 k (fun u => K (f14_out u))  := by kernel_rfl
theorem f14_ev {X : Type} (R_f25 : f25_R) (R_f26 : f26_R) (R_f27 : f27_R) (R_f28 : f28_R) (hR_f25 : AnsOk Try.prog 25 (f25_cOf R_f25)) (hR_f26 : AnsOk Try.prog 26 (f26_cOf R_f26)) (hR_f27 : AnsOk Try.prog 27 (f27_cOf R_f27)) (hR_f28 : AnsOk Try.prog 28 (f28_cOf R_f28)) (k : Nat) (K : Out → Option X)  : evFn (f14_cx R_f25 R_f26 R_f27 R_f28 hR_f25 hR_f26 hR_f27 hR_f28) [] k Try.f14.ntmps Try.f14.results.toList (Try.f14.body.getD .skip) [] [] K = f14_A R_f25 R_f26 R_f27 R_f28 k X (fun u => K (f14_out u))  := (f14_ev' R_f25 R_f26 R_f27 R_f28 hR_f25 hR_f26 hR_f27 hR_f28 k K ).trans rfl
theorem f14_okA (R_f25 : f25_R) (R_f26 : f26_R) (R_f27 : f27_R) (R_f28 : f28_R) (hR_f25 : AnsOk Try.prog 25 (f25_cOf R_f25)) (hR_f26 : AnsOk Try.prog 26 (f26_cOf R_f26)) (hR_f27 : AnsOk Try.prog 27 (f27_cOf R_f27)) (hR_f28 : AnsOk Try.prog 28 (f28_cOf R_f28)) (k : Nat) : AnsOk Try.prog 14 (f14_cOf (f14_A R_f25 R_f26 R_f27 R_f28 k)) := by
  intro X xs ns K x h
  unfold f14_cOf at h ⊢
  split at h
  · exact ans_main S (f14_Cok R_f25 R_f26 R_f27 R_f28 hR_f25 hR_f26 hR_f27 hR_f28) Try.func14 (ent_of Try.func14 (by kernel_rfl) rfl) rfl (fun X K => f14_ev R_f25 R_f26 R_f27 R_f28 hR_f25 hR_f26 hR_f27 hR_f28 k K ) h
  · cases h
/-- "outpost/schema.All" -/
def f14 {X : Type} (k : Nat) (K : (List CV) → Option X)  : Option X := f14_A (fun X => @f25 X k) (fun X => @f26 X k) (fun X => @f27 X k) (fun X => @f28 X k) k X K 
theorem f14_ok (k : Nat) : AnsOk Try.prog 14 (f14_cOf (fun X => @f14 X k)) := f14_okA (fun X => @f25 X k) (fun X => @f26 X k) (fun X => @f27 X k) (fun X => @f28 X k) (f25_ok k) (f26_ok k) (f27_ok k) (f28_ok k) k
abbrev f29_R : Type 1 := (X : Type) → (CV → Option X) → Int → Int → ByteArray → Int → Int → Option X
def f29_out (u : CV) : Out := ⟨(.v u), []⟩
def f29_cOf (R : f29_R) : FnC := fun X xs ns K => match xs, ns with
  | [(.v (CV.int .i64 x0)), (.v (CV.int .i64 x1)), (.v (CV.str x2)), (.v (CV.int .i64 x3)), (.v (CV.int .i64 x4))], [] => R X (fun u => K (f29_out u)) x0 x1 x2 x3 x4
  | _, _ => none
def f29_plan : Nat → Option (List Nat × List Wk)
  | 0 => some ([0, 1, 2, 3, 4], [])
  | 1 => some ([0, 1, 2, 3, 4, 10], [])
  | 2 => some ([2, 10, 11], [])
  | 3 => some ([2, 10, 11, 12], [])
  | 4 => some ([2, 10, 11, 12], [])
  | 5 => some ([2, 10, 11, 12], [])
  | 6 => some ([2, 10, 11, 12, 26], [])
  | 7 => some ([2, 10, 11, 12], [])
  | 8 => some ([2, 10, 11, 12, 26], [])
  | 9 => some ([2, 10, 11, 12], [])
  | 10 => some ([2, 10, 11, 12, 26], [])
  | 11 => some ([2, 10, 11, 12], [])
  | 12 => some ([2, 10, 11, 12, 26], [])
  | 13 => some ([2, 10, 11, 12], [])
  | 14 => some ([10, 11], [])
  | _ => none
def f29_C : Fns := noC
theorem f29_Cok : CsOk Try.prog (f29_C) := noC_ok
def f29_cx : Cx := mkCx (tabOf rows) (f29_C) md (cmpIn cmps) f29_plan (f29_Cok)
def f29_S1 (v : ByteArray × Int × Int × Int × Bool × Bool × Bool × Int × Int × Bool) : St := ⟨[.undef, .undef, (.v (CV.str v.1)), .undef, .undef, .undef, .undef, .undef, .undef, .undef, (.ptr [10] 0 0 0), (.ptr [11] 0 0 0), (.v (CV.int .i64 v.2.1)), .undef, .undef, .undef, .undef, .undef, .undef, .undef, .undef, .undef, .undef, .undef, .undef, .undef, .undef, .undef, .undef, .undef, .undef, .undef, .undef, .undef, .undef, .undef, .undef, .undef, .undef, .undef], [([10], (.obj [(.v (CV.int .i64 0)), (.v (CV.int .i64 0)), (.v (CV.bool false)), (.v (CV.bool false)), (.v (CV.bool false)), (.v (CV.int .i64 0)), (.v (CV.int .i64 0)), (.v (CV.bool false))])), ([11], (.obj [(.v (CV.int .i64 v.2.2.1)), (.v (CV.int .i64 v.2.2.2.1)), (.v (CV.bool v.2.2.2.2.1)), (.v (CV.bool v.2.2.2.2.2.1)), (.v (CV.bool v.2.2.2.2.2.2.1)), (.v (CV.int .i64 v.2.2.2.2.2.2.2.1)), (.v (CV.int .i64 v.2.2.2.2.2.2.2.2.1)), (.v (CV.bool v.2.2.2.2.2.2.2.2.2))]))]⟩
def f29_J1 {X : Type} (k : Nat) (K : CV → Option X) (rec1 : ByteArray × Int × Int × Int × Bool × Bool × Bool × Int × Int × Bool → Option X) (v5_0 : ByteArray × Int × Int × Int × Bool × Bool × Bool × Int × Int × Bool) (v5 : Bool × Bool × Bool × Bool) : Option X :=
rec1 (v5_0.1, (IntKind.wrap .i64 (v5_0.2.1 + 1)), v5_0.2.2.1, v5_0.2.2.2.1, v5.1, v5.2.1, v5.2.2.1, v5_0.2.2.2.2.2.2.2.1, v5_0.2.2.2.2.2.2.2.2.1, v5.2.2.2)
def f29_T1 {X : Type} (k : Nat) (K : CV → Option X)   (rec1 : ByteArray × Int × Int × Int × Bool × Bool × Bool × Int × Int × Bool → Option X) (v5_0 : ByteArray × Int × Int × Int × Bool × Bool × Bool × Int × Int × Bool) : Option X :=
(bif (decide (v5_0.2.1 < (Nat.cast ((ByteArray.size v5_0.1)) : Int))) then
grd (decide (0 ≤ v5_0.2.1)) <|
Option.bind (ByteArray.data v5_0.1)[(Int.toNat v5_0.2.1)]? fun b6 =>
(bif ((Nat.cast ((UInt8.toNat b6)) : Int) == 114) then
f29_J1 k K rec1 v5_0 (true, v5_0.2.2.2.2.2.1, v5_0.2.2.2.2.2.2.1, v5_0.2.2.2.2.2.2.2.2.2)
else
(bif ((Nat.cast ((UInt8.toNat b6)) : Int) == 119) then
f29_J1 k K rec1 v5_0 (v5_0.2.2.2.2.1, true, v5_0.2.2.2.2.2.2.1, v5_0.2.2.2.2.2.2.2.2.2)
else
(bif ((Nat.cast ((UInt8.toNat b6)) : Int) == 120) then
f29_J1 k K rec1 v5_0 (v5_0.2.2.2.2.1, v5_0.2.2.2.2.2.1, true, v5_0.2.2.2.2.2.2.2.2.2)
else
(bif ((Nat.cast ((UInt8.toNat b6)) : Int) == 109) then
f29_J1 k K rec1 v5_0 (v5_0.2.2.2.2.1, v5_0.2.2.2.2.2.1, v5_0.2.2.2.2.2.2.1, true)
else
f29_J1 k K rec1 v5_0 (v5_0.2.2.2.2.1, v5_0.2.2.2.2.2.1, v5_0.2.2.2.2.2.2.1, v5_0.2.2.2.2.2.2.2.2.2)))))
else
K ((CV.agg [(CV.int .i64 v5_0.2.2.1), (CV.int .i64 v5_0.2.2.2.1), (CV.bool v5_0.2.2.2.2.1), (CV.bool v5_0.2.2.2.2.2.1), (CV.bool v5_0.2.2.2.2.2.2.1), (CV.int .i64 v5_0.2.2.2.2.2.2.2.1), (CV.int .i64 v5_0.2.2.2.2.2.2.2.2.1), (CV.bool v5_0.2.2.2.2.2.2.2.2.2)])))
def f29_L1 {X : Type} (k : Nat) (K : CV → Option X)  (rec1 : ByteArray × Int × Int × Int × Bool × Bool × Bool × Int × Int × Bool → Option X) (v : ByteArray × Int × Int × Int × Bool × Bool × Bool × Int × Int × Bool) : Option X := f29_T1 k K   rec1 v
set_option maxRecDepth 100000 in
theorem f29_L1_ev {X : Type} (k : Nat) (K : Out → Option X)  (r1 : St → Option X) (v : ByteArray × Int × Int × Int × Bool × Bool × Bool × Int × Int × Bool) : loopB (f29_cx) k [.r, .r, .l, .r, .b] (Try.f29.body.getD .skip) (retK (f29_cx) [] Try.f29.results.toList K) [] r1 (f29_S1 v) = f29_T1 k (fun u => K (f29_out u))   (fun v => r1 (f29_S1 v)) v := by kernel_rfl
theorem f29_L1_it {X : Type} (k : Nat) (K : Out → Option X)  : (fun v => iter (loopB (f29_cx) k [.r, .r, .l, .r, .b] (Try.f29.body.getD .skip) (retK (f29_cx) [] Try.f29.results.toList K) []) k (f29_S1 v)) = iterV (f29_L1 k (fun u => K (f29_out u)) ) k :=
  iter_map (fun r1 v => (f29_L1_ev k K  r1 v).trans rfl) k
def f29_T {X : Type} (k : Nat) (K : CV → Option X) (loop1 : ByteArray × Int × Int × Int × Bool × Bool × Bool × Int × Int × Bool → Option X) (x0 : Int) (x1 : Int) (x2 : ByteArray) (x3 : Int) (x4 : Int) : Option X :=
loop1 (x2, 0, x0, x1, false, false, false, x3, x4, false)
/-- "outpost/outpostref18.line" -/
def f29_A (k : Nat) : f29_R := fun X K x0 x1 x2 x3 x4 => f29_T k K (iterV (f29_L1 k K) k) x0 x1 x2 x3 x4
set_option maxRecDepth 100000 in
theorem f29_ev' {X : Type} (k : Nat) (K : Out → Option X) (x0 : Int) (x1 : Int) (x2 : ByteArray) (x3 : Int) (x4 : Int) : evFn (f29_cx) [] k Try.f29.ntmps Try.f29.results.toList (Try.f29.body.getD .skip) [(.v (CV.int .i64 x0)), (.v (CV.int .i64 x1)), (.v (CV.str x2)), (.v (CV.int .i64 x3)), (.v (CV.int .i64 x4))] [] K = f29_T k (fun u => K (f29_out u)) (fun v => iter (loopB (f29_cx) k [.r, .r, .l, .r, .b] (Try.f29.body.getD .skip) (retK (f29_cx) [] Try.f29.results.toList K) []) k (f29_S1 v)) x0 x1 x2 x3 x4 := by kernel_rfl
theorem f29_ev {X : Type} (k : Nat) (K : Out → Option X) (x0 : Int) (x1 : Int) (x2 : ByteArray) (x3 : Int) (x4 : Int) : evFn (f29_cx) [] k Try.f29.ntmps Try.f29.results.toList (Try.f29.body.getD .skip) [(.v (CV.int .i64 x0)), (.v (CV.int .i64 x1)), (.v (CV.str x2)), (.v (CV.int .i64 x3)), (.v (CV.int .i64 x4))] [] K = f29_A k X (fun u => K (f29_out u)) x0 x1 x2 x3 x4 := (f29_ev' k K x0 x1 x2 x3 x4).trans (by rw [f29_L1_it k K]; rfl)
theorem f29_okA (k : Nat) : AnsOk Try.prog 29 (f29_cOf (f29_A k)) := by
  intro X xs ns K x h
  unfold f29_cOf at h ⊢
  split at h
  · exact ans_main S (f29_Cok) Try.func29 (ent_of Try.func29 (by kernel_rfl) rfl) rfl (fun X K => f29_ev k K _ _ _ _ _) h
  · cases h
/-- "outpost/outpostref18.line" -/
def f29 {X : Type} (k : Nat) (K : CV → Option X) (x0 : Int) (x1 : Int) (x2 : ByteArray) (x3 : Int) (x4 : Int) : Option X := f29_A k X K x0 x1 x2 x3 x4
theorem f29_ok (k : Nat) : AnsOk Try.prog 29 (f29_cOf (fun X => @f29 X k)) := f29_okA k
abbrev f16_R : Type 1 := (X : Type) → ((List CV) → Option X) → Option X
def f16_out (u : (List CV)) : Out := ⟨(.osl [2000] (some 4) 0 5), [([2000], (.row false (some 4) u))]⟩
def f16_cOf (R : f16_R) : FnC := fun X xs ns K => match xs, ns with
  | [], [] => R X (fun u => K (f16_out u)) 
  | _, _ => none
def f16_plan : Nat → Option (List Nat × List Wk)
  | 0 => some ([], [])
  | 1 => some ([], [])
  | _ => none
def f16_C (R_f29 : f29_R) : Fns := (orC 29 (f29_cOf R_f29) noC)
theorem f16_Cok (R_f29 : f29_R) (hR_f29 : AnsOk Try.prog 29 (f29_cOf R_f29)) : CsOk Try.prog (f16_C R_f29) := (orC_ok hR_f29 noC_ok)
def f16_cx (R_f29 : f29_R) (hR_f29 : AnsOk Try.prog 29 (f29_cOf R_f29)) : Cx := mkCx (tabOf rows) (f16_C R_f29) md (cmpIn cmps) f16_plan (f16_Cok R_f29 hR_f29)
def f16_T {X : Type} (R_f29 : f29_R) (k : Nat) (K : (List CV) → Option X)   : Option X :=
R_f29 _ (fun u1 =>
R_f29 _ (fun u2 =>
R_f29 _ (fun u3 =>
grd (fitSh (some 8) u1) <|
grd (fitSh (some 8) u2) <|
grd (fitSh (some 8) u3) <|
R_f29 _ (fun u4 =>
R_f29 _ (fun u5 =>
R_f29 _ (fun u6 =>
R_f29 _ (fun u7 =>
R_f29 _ (fun u8 =>
R_f29 _ (fun u9 =>
R_f29 _ (fun u10 =>
grd (fitSh (some 8) u4) <|
grd (fitSh (some 8) u5) <|
grd (fitSh (some 8) u6) <|
grd (fitSh (some 8) u7) <|
grd (fitSh (some 8) u8) <|
grd (fitSh (some 8) u9) <|
grd (fitSh (some 8) u10) <|
R_f29 _ (fun u11 =>
R_f29 _ (fun u12 =>
R_f29 _ (fun u13 =>
R_f29 _ (fun u14 =>
grd (fitSh (some 8) u11) <|
grd (fitSh (some 8) u12) <|
grd (fitSh (some 8) u13) <|
grd (fitSh (some 8) u14) <|
R_f29 _ (fun u15 =>
R_f29 _ (fun u16 =>
R_f29 _ (fun u17 =>
R_f29 _ (fun u18 =>
R_f29 _ (fun u19 =>
R_f29 _ (fun u20 =>
R_f29 _ (fun u21 =>
R_f29 _ (fun u22 =>
grd (fitSh (some 8) u15) <|
grd (fitSh (some 8) u16) <|
grd (fitSh (some 8) u17) <|
grd (fitSh (some 8) u18) <|
grd (fitSh (some 8) u19) <|
grd (fitSh (some 8) u20) <|
grd (fitSh (some 8) u21) <|
grd (fitSh (some 8) u22) <|
R_f29 _ (fun u23 =>
R_f29 _ (fun u24 =>
R_f29 _ (fun u25 =>
R_f29 _ (fun u26 =>
R_f29 _ (fun u27 =>
R_f29 _ (fun u28 =>
R_f29 _ (fun u29 =>
R_f29 _ (fun u30 =>
grd (fitSh (some 8) u23) <|
grd (fitSh (some 8) u24) <|
grd (fitSh (some 8) u25) <|
grd (fitSh (some 8) u26) <|
grd (fitSh (some 8) u27) <|
grd (fitSh (some 8) u28) <|
grd (fitSh (some 8) u29) <|
grd (fitSh (some 8) u30) <|
K ((List.take 5 [(CV.agg [(CV.int .i64 0), (CV.int .i64 2), (CV.bool false), (CV.slc (some 8) (List.take 3 (List.drop 0 [u1, u2, u3])))]), (CV.agg [(CV.int .i64 1), (CV.int .i64 2), (CV.bool false), (CV.slc (some 8) (List.take 7 (List.drop 0 [u4, u5, u6, u7, u8, u9, u10])))]), (CV.agg [(CV.int .i64 2), (CV.int .i64 8), (CV.bool true), (CV.slc (some 8) (List.take 4 (List.drop 0 [u11, u12, u13, u14])))]), (CV.agg [(CV.int .i64 3), (CV.int .i64 1), (CV.bool false), (CV.slc (some 8) (List.take 8 (List.drop 0 [u15, u16, u17, u18, u19, u20, u21, u22])))]), (CV.agg [(CV.int .i64 5), (CV.int .i64 1), (CV.bool false), (CV.slc (some 8) (List.take 8 (List.drop 0 [u23, u24, u25, u26, u27, u28, u29, u30])))])]))) (9) (1) (⟨#[114, 109]⟩) (0) (2)) (7) (3) (⟨#[114]⟩) (0) (40)) (6) (3) (⟨#[114]⟩) (0) (40)) (5) (1) (⟨#[114, 109]⟩) (0) (9)) (3) (1) (⟨#[114, 109]⟩) (0) (3)) (2) (0) (⟨#[120]⟩) (0) (0)) (1) (3) (⟨#[114, 119]⟩) (0) (100)) (0) (4) (⟨#[119]⟩) (0) (200)) (14) (3) (⟨#[114, 119]⟩) (0) (6)) (13) (5) (⟨#[114, 119]⟩) (0) (1099511627776)) (11) (1) (⟨#[114, 109]⟩) (0) (32)) (9) (1) (⟨#[114]⟩) (0) (100)) (4) (0) (⟨#[120]⟩) (0) (0)) (3) (3) (⟨#[114]⟩) (0) (40)) (1) (3) (⟨#[114]⟩) (0) (40)) (0) (3) (⟨#[114]⟩) (0) (40)) (3) (1) (⟨#[114, 119, 109]⟩) (0) (65535)) (2) (4) (⟨#[114, 119]⟩) (0) (64)) (1) (1) (⟨#[114, 109]⟩) (0) (65535)) (0) (1) (⟨#[114, 109]⟩) (0) (65534)) (8) (0) (⟨#[120]⟩) (0) (0)) (7) (3) (⟨#[114, 119, 109]⟩) (1) (3)) (6) (2) (⟨#[114, 119, 109]⟩) (0) (0)) (3) (1) (⟨#[114, 119]⟩) (0) (65535)) (2) (1) (⟨#[114, 119]⟩) (0) (65535)) (1) (1) (⟨#[114, 119, 109]⟩) (1) (86400)) (0) (1) (⟨#[114, 109]⟩) (1) (65534)) (10) (1) (⟨#[109]⟩) (1) (65534)) (1) (2) (⟨#[109]⟩) (0) (0)) (0) (3) (⟨#[109]⟩) (1) (100)
/-- "outpost/outpostref18.All" -/
def f16_A (R_f29 : f29_R) (k : Nat) : f16_R := fun X K  => f16_T R_f29 k K  
set_option maxRecDepth 100000 in
theorem f16_ev' {X : Type} (R_f29 : f29_R) (hR_f29 : AnsOk Try.prog 29 (f29_cOf R_f29)) (k : Nat) (K : Out → Option X)  : evFn (f16_cx R_f29 hR_f29) [] k Try.f16.ntmps Try.f16.results.toList (Try.f16.body.getD .skip) [] [] K = f16_T R_f29 k (fun u => K (f16_out u))  := by kernel_rfl
theorem f16_ev {X : Type} (R_f29 : f29_R) (hR_f29 : AnsOk Try.prog 29 (f29_cOf R_f29)) (k : Nat) (K : Out → Option X)  : evFn (f16_cx R_f29 hR_f29) [] k Try.f16.ntmps Try.f16.results.toList (Try.f16.body.getD .skip) [] [] K = f16_A R_f29 k X (fun u => K (f16_out u))  := (f16_ev' R_f29 hR_f29 k K ).trans rfl
theorem f16_okA (R_f29 : f29_R) (hR_f29 : AnsOk Try.prog 29 (f29_cOf R_f29)) (k : Nat) : AnsOk Try.prog 16 (f16_cOf (f16_A R_f29 k)) := by
  intro X xs ns K x h
  unfold f16_cOf at h ⊢
  split at h
  · exact ans_main S (f16_Cok R_f29 hR_f29) Try.func16 (ent_of Try.func16 (by kernel_rfl) rfl) rfl (fun X K => f16_ev R_f29 hR_f29 k K ) h
  · cases h
/-- "outpost/outpostref18.All" -/
def f16 {X : Type} (k : Nat) (K : (List CV) → Option X)  : Option X := f16_A (fun X => @f29 X k) k X K 
theorem f16_ok (k : Nat) : AnsOk Try.prog 16 (f16_cOf (fun X => @f16 X k)) := f16_okA (fun X => @f29 X k) (f29_ok k) k
abbrev f15_R : Type 1 := (X : Type) → (Bool → Option X) → CV → CV → Option X
def f15_out (u : Bool) : Out := ⟨(.v (CV.bool u)), []⟩
def f15_cOf (R : f15_R) : FnC := fun X xs ns K => match xs, ns with
  | [(.v x0), (.v x1)], [] => R X (fun u => K (f15_out u)) x0 x1
  | _, _ => none
def f15_plan : Nat → Option (List Nat × List Wk)
  | 0 => some ([0, 1], [])
  | 1 => some ([2, 3], [])
  | 2 => some ([], [])
  | 3 => some ([2, 3], [])
  | 4 => some ([2, 3, 5], [])
  | 5 => some ([2, 3, 5], [])
  | 6 => some ([2, 3, 5], [])
  | 7 => some ([], [])
  | 8 => some ([], [])
  | _ => none
def f15_C : Fns := noC
theorem f15_Cok : CsOk Try.prog (f15_C) := noC_ok
def f15_cx : Cx := mkCx (tabOf rows) (f15_C) md (cmpIn cmps) f15_plan (f15_Cok)
def f15_S1 (v : Int × Int × Int × Bool × (List CV) × Int × Int × Bool × (List CV)) : St := ⟨[.undef, .undef, (.ptr [2] 0 0 0), (.ptr [3] 0 0 0), .undef, (.v (CV.int .i64 v.1)), .undef, .undef, .undef, .undef, .undef, .undef, .undef, .undef, .undef, .undef, .undef, .undef, .undef, .undef, .undef, .undef, .undef, .undef, .undef, .undef, .undef, .undef, .undef, .undef, .undef, .undef, .undef, .undef, .undef, .undef, .undef, .undef, .undef, .undef, .undef, .undef, .undef, .undef, .undef, .undef, .undef, .undef, .undef, .undef, .undef, .undef], [([2], (.obj [(.v (CV.int .i64 v.2.1)), (.v (CV.int .i64 v.2.2.1)), (.v (CV.bool v.2.2.2.1)), (.sl true (some 8) v.2.2.2.2.1)])), ([3], (.obj [(.v (CV.int .i64 v.2.2.2.2.2.1)), (.v (CV.int .i64 v.2.2.2.2.2.2.1)), (.v (CV.bool v.2.2.2.2.2.2.2.1)), (.sl true (some 8) v.2.2.2.2.2.2.2.2)]))]⟩
def f15_T1 {X : Type} (k : Nat) (K : Bool → Option X)   (rec1 : Int × Int × Int × Bool × (List CV) × Int × Int × Bool × (List CV) → Option X) (v5_0 : Int × Int × Int × Bool × (List CV) × Int × Int × Bool × (List CV)) : Option X :=
(bif (decide (v5_0.1 < (Nat.cast ((List.length v5_0.2.2.2.2.1)) : Int))) then
grd (decide (0 ≤ v5_0.1)) <|
Option.bind (v5_0.2.2.2.2.1)[(Int.toNat v5_0.1)]? fun e8 =>
grd (decide (0 ≤ v5_0.1)) <|
Option.bind (v5_0.2.2.2.2.2.2.2.2)[(Int.toNat v5_0.1)]? fun e9 =>
grd (CV.isA 8 e8) <|
grd (CV.isI .i64 (CV.cellD 0 e8)) <|
grd (CV.isI .i64 (CV.cellD 1 e8)) <|
grd (CV.isB (CV.cellD 2 e8)) <|
grd (CV.isB (CV.cellD 3 e8)) <|
grd (CV.isB (CV.cellD 4 e8)) <|
grd (CV.isI .i64 (CV.cellD 5 e8)) <|
grd (CV.isI .i64 (CV.cellD 6 e8)) <|
grd (CV.isB (CV.cellD 7 e8)) <|
grd (CV.isA 8 e9) <|
grd (CV.isI .i64 (CV.cellD 0 e9)) <|
grd (CV.isI .i64 (CV.cellD 1 e9)) <|
grd (CV.isB (CV.cellD 2 e9)) <|
grd (CV.isB (CV.cellD 3 e9)) <|
grd (CV.isB (CV.cellD 4 e9)) <|
grd (CV.isI .i64 (CV.cellD 5 e9)) <|
grd (CV.isI .i64 (CV.cellD 6 e9)) <|
grd (CV.isB (CV.cellD 7 e9)) <|
(bif (!(((CV.toI (CV.cellD 0 e8)) == (CV.toI (CV.cellD 0 e9))) && (((CV.toI (CV.cellD 1 e8)) == (CV.toI (CV.cellD 1 e9))) && (((CV.toB (CV.cellD 2 e8)) == (CV.toB (CV.cellD 2 e9))) && (((CV.toB (CV.cellD 3 e8)) == (CV.toB (CV.cellD 3 e9))) && (((CV.toB (CV.cellD 4 e8)) == (CV.toB (CV.cellD 4 e9))) && (((CV.toI (CV.cellD 5 e8)) == (CV.toI (CV.cellD 5 e9))) && (((CV.toI (CV.cellD 6 e8)) == (CV.toI (CV.cellD 6 e9))) && (((CV.toB (CV.cellD 7 e8)) == (CV.toB (CV.cellD 7 e9))) && true))))))))) then
K (false)
else
rec1 ((IntKind.wrap .i64 (v5_0.1 + 1)), v5_0.2.1, v5_0.2.2.1, v5_0.2.2.2.1, v5_0.2.2.2.2.1, v5_0.2.2.2.2.2.1, v5_0.2.2.2.2.2.2.1, v5_0.2.2.2.2.2.2.2.1, v5_0.2.2.2.2.2.2.2.2))
else
K (true))
def f15_L1 {X : Type} (k : Nat) (K : Bool → Option X)  (rec1 : Int × Int × Int × Bool × (List CV) × Int × Int × Bool × (List CV) → Option X) (v : Int × Int × Int × Bool × (List CV) × Int × Int × Bool × (List CV)) : Option X := f15_T1 k K   rec1 v
set_option maxRecDepth 100000 in
theorem f15_L1_ev {X : Type} (k : Nat) (K : Out → Option X)  (r1 : St → Option X) (v : Int × Int × Int × Bool × (List CV) × Int × Int × Bool × (List CV)) : loopB (f15_cx) k [.r, .r, .l, .r, .b] (Try.f15.body.getD .skip) (retK (f15_cx) [] Try.f15.results.toList K) [] r1 (f15_S1 v) = f15_T1 k (fun u => K (f15_out u))   (fun v => r1 (f15_S1 v)) v := by kernel_rfl
theorem f15_L1_it {X : Type} (k : Nat) (K : Out → Option X)  : (fun v => iter (loopB (f15_cx) k [.r, .r, .l, .r, .b] (Try.f15.body.getD .skip) (retK (f15_cx) [] Try.f15.results.toList K) []) k (f15_S1 v)) = iterV (f15_L1 k (fun u => K (f15_out u)) ) k :=
  iter_map (fun r1 v => (f15_L1_ev k K  r1 v).trans rfl) k
def f15_T {X : Type} (k : Nat) (K : Bool → Option X) (loop1 : Int × Int × Int × Bool × (List CV) × Int × Int × Bool × (List CV) → Option X) (x0 : CV) (x1 : CV) : Option X :=
grd (CV.isA 4 x0) <|
grd (CV.isI .i64 (CV.cellD 0 x0)) <|
grd (CV.isI .i64 (CV.cellD 1 x0)) <|
grd (CV.isB (CV.cellD 2 x0)) <|
grd (CV.isL (some 8) (CV.cellD 3 x0)) <|
grd (CV.isA 4 x1) <|
grd (CV.isI .i64 (CV.cellD 0 x1)) <|
grd (CV.isI .i64 (CV.cellD 1 x1)) <|
grd (CV.isB (CV.cellD 2 x1)) <|
grd (CV.isL (some 8) (CV.cellD 3 x1)) <|
(bif ((CV.toI (CV.cellD 0 x0)) != (CV.toI (CV.cellD 0 x1))) then
K (false)
else
(bif ((CV.toI (CV.cellD 1 x0)) != (CV.toI (CV.cellD 1 x1))) then
K (false)
else
(bif (!((CV.toB (CV.cellD 2 x0)) == (CV.toB (CV.cellD 2 x1)))) then
K (false)
else
(bif ((Nat.cast ((List.length (CV.toL (CV.cellD 3 x0)))) : Int) != (Nat.cast ((List.length (CV.toL (CV.cellD 3 x1)))) : Int)) then
K (false)
else
loop1 (0, (CV.toI (CV.cellD 0 x0)), (CV.toI (CV.cellD 1 x0)), (CV.toB (CV.cellD 2 x0)), (CV.toL (CV.cellD 3 x0)), (CV.toI (CV.cellD 0 x1)), (CV.toI (CV.cellD 1 x1)), (CV.toB (CV.cellD 2 x1)), (CV.toL (CV.cellD 3 x1)))))))
/-- "outpost/outpostref18.Same" -/
def f15_A (k : Nat) : f15_R := fun X K x0 x1 => f15_T k K (iterV (f15_L1 k K) k) x0 x1
set_option maxRecDepth 100000 in
theorem f15_ev' {X : Type} (k : Nat) (K : Out → Option X) (x0 : CV) (x1 : CV) : evFn (f15_cx) [] k Try.f15.ntmps Try.f15.results.toList (Try.f15.body.getD .skip) [(.v x0), (.v x1)] [] K = f15_T k (fun u => K (f15_out u)) (fun v => iter (loopB (f15_cx) k [.r, .r, .l, .r, .b] (Try.f15.body.getD .skip) (retK (f15_cx) [] Try.f15.results.toList K) []) k (f15_S1 v)) x0 x1 := by kernel_rfl
theorem f15_ev {X : Type} (k : Nat) (K : Out → Option X) (x0 : CV) (x1 : CV) : evFn (f15_cx) [] k Try.f15.ntmps Try.f15.results.toList (Try.f15.body.getD .skip) [(.v x0), (.v x1)] [] K = f15_A k X (fun u => K (f15_out u)) x0 x1 := (f15_ev' k K x0 x1).trans (by rw [f15_L1_it k K]; rfl)
theorem f15_okA (k : Nat) : AnsOk Try.prog 15 (f15_cOf (f15_A k)) := by
  intro X xs ns K x h
  unfold f15_cOf at h ⊢
  split at h
  · exact ans_main S (f15_Cok) Try.func15 (ent_of Try.func15 (by kernel_rfl) rfl) rfl (fun X K => f15_ev k K _ _) h
  · cases h
/-- "outpost/outpostref18.Same" -/
def f15 {X : Type} (k : Nat) (K : Bool → Option X) (x0 : CV) (x1 : CV) : Option X := f15_A k X K x0 x1
theorem f15_ok (k : Nat) : AnsOk Try.prog 15 (f15_cOf (fun X => @f15 X k)) := f15_okA k
abbrev f36_R : Type 1 := (X : Type) → (Bool → Option X) → Int → Option X
def f36_out (u : Bool) : Out := ⟨(.v (CV.bool u)), []⟩
def f36_cOf (R : f36_R) : FnC := fun X xs ns K => match xs, ns with
  | [(.v (CV.int .i64 x0))], [] => R X (fun u => K (f36_out u)) x0
  | _, _ => none
def f36_plan : Nat → Option (List Nat × List Wk)
  | 0 => some ([0], [])
  | 1 => some ([0], [])
  | _ => none
def f36_C : Fns := noC
theorem f36_Cok : CsOk Try.prog (f36_C) := noC_ok
def f36_cx : Cx := mkCx (tabOf rows) (f36_C) md (cmpIn cmps) f36_plan (f36_Cok)
def f36_T {X : Type} (k : Nat) (K : Bool → Option X)  (x0 : Int) : Option X :=
(bif (x0 == 3) then
K (true)
else
K ((x0 == 4)))
/-- "outpost/schema.sized" -/
def f36_A (k : Nat) : f36_R := fun X K x0 => f36_T k K  x0
set_option maxRecDepth 100000 in
theorem f36_ev' {X : Type} (k : Nat) (K : Out → Option X) (x0 : Int) : evFn (f36_cx) [] k Try.f36.ntmps Try.f36.results.toList (Try.f36.body.getD .skip) [(.v (CV.int .i64 x0))] [] K = f36_T k (fun u => K (f36_out u)) x0 := by kernel_rfl
theorem f36_ev {X : Type} (k : Nat) (K : Out → Option X) (x0 : Int) : evFn (f36_cx) [] k Try.f36.ntmps Try.f36.results.toList (Try.f36.body.getD .skip) [(.v (CV.int .i64 x0))] [] K = f36_A k X (fun u => K (f36_out u)) x0 := (f36_ev' k K x0).trans rfl
theorem f36_okA (k : Nat) : AnsOk Try.prog 36 (f36_cOf (f36_A k)) := by
  intro X xs ns K x h
  unfold f36_cOf at h ⊢
  split at h
  · exact ans_main S (f36_Cok) Try.func36 (ent_of Try.func36 (by kernel_rfl) rfl) rfl (fun X K => f36_ev k K _) h
  · cases h
/-- "outpost/schema.sized" -/
def f36 {X : Type} (k : Nat) (K : Bool → Option X) (x0 : Int) : Option X := f36_A k X K x0
theorem f36_ok (k : Nat) : AnsOk Try.prog 36 (f36_cOf (fun X => @f36 X k)) := f36_okA k
abbrev f20_R : Type 1 := (X : Type) → (Bool → Option X) → CV → Option X
def f20_out (u : Bool) : Out := ⟨(.v (CV.bool u)), []⟩
def f20_cOf (R : f20_R) : FnC := fun X xs ns K => match xs, ns with
  | [(.v x0)], [] => R X (fun u => K (f20_out u)) x0
  | _, _ => none
def f20_plan : Nat → Option (List Nat × List Wk)
  | 0 => some ([0], [])
  | 1 => some ([1], [])
  | 2 => some ([], [])
  | 3 => some ([1], [])
  | 4 => some ([1], [])
  | 5 => some ([1], [])
  | 6 => some ([], [])
  | 7 => some ([1], [])
  | _ => none
def f20_C (R_f36 : f36_R) : Fns := (orC 36 (f36_cOf R_f36) noC)
theorem f20_Cok (R_f36 : f36_R) (hR_f36 : AnsOk Try.prog 36 (f36_cOf R_f36)) : CsOk Try.prog (f20_C R_f36) := (orC_ok hR_f36 noC_ok)
def f20_cx (R_f36 : f36_R) (hR_f36 : AnsOk Try.prog 36 (f36_cOf R_f36)) : Cx := mkCx (tabOf rows) (f20_C R_f36) md (cmpIn cmps) f20_plan (f20_Cok R_f36 hR_f36)
def f20_J1 {X : Type} (R_f36 : f36_R) (k : Nat) (K : Bool → Option X) (x0 : CV) (v2 : Unit) : Option X :=
(bif (decide ((CV.toI (CV.cellD 1 x0)) ≥ 1)) then
(bif (decide ((CV.toI (CV.cellD 1 x0)) ≤ 6)) then
K ((decide ((CV.toI (CV.cellD 5 x0)) ≤ (CV.toI (CV.cellD 6 x0)))))
else
K (false))
else
K (false))
def f20_T {X : Type} (R_f36 : f36_R) (k : Nat) (K : Bool → Option X)  (x0 : CV) : Option X :=
grd (CV.isA 8 x0) <|
grd (CV.isI .i64 (CV.cellD 0 x0)) <|
grd (CV.isI .i64 (CV.cellD 1 x0)) <|
grd (CV.isB (CV.cellD 2 x0)) <|
grd (CV.isB (CV.cellD 3 x0)) <|
grd (CV.isB (CV.cellD 4 x0)) <|
grd (CV.isI .i64 (CV.cellD 5 x0)) <|
grd (CV.isI .i64 (CV.cellD 6 x0)) <|
grd (CV.isB (CV.cellD 7 x0)) <|
(bif (decide ((CV.toI (CV.cellD 0 x0)) < 0)) then
K (false)
else
(bif (decide ((CV.toI (CV.cellD 0 x0)) > 65535)) then
K (false)
else
(bif (CV.toB (CV.cellD 4 x0)) then
K ((((CV.toI (CV.cellD 0 x0)) == (CV.toI (CV.cellD 0 x0))) && (((CV.toI (CV.cellD 1 x0)) == 0) && (((CV.toB (CV.cellD 2 x0)) == false) && (((CV.toB (CV.cellD 3 x0)) == false) && (((CV.toB (CV.cellD 4 x0)) == true) && (((CV.toI (CV.cellD 5 x0)) == 0) && (((CV.toI (CV.cellD 6 x0)) == 0) && (((CV.toB (CV.cellD 7 x0)) == false) && true)))))))))
else
R_f36 _ (fun u3 =>
(bif u3 then
(bif (decide ((CV.toI (CV.cellD 5 x0)) < 0)) then
K (false)
else
(bif (decide ((CV.toI (CV.cellD 6 x0)) > 200)) then
K (false)
else
f20_J1 R_f36 k K x0 (())))
else
f20_J1 R_f36 k K x0 (()))) ((CV.toI (CV.cellD 1 x0))))))
/-- "outpost/schema.rightRule" -/
def f20_A (R_f36 : f36_R) (k : Nat) : f20_R := fun X K x0 => f20_T R_f36 k K  x0
set_option maxRecDepth 100000 in
theorem f20_ev' {X : Type} (R_f36 : f36_R) (hR_f36 : AnsOk Try.prog 36 (f36_cOf R_f36)) (k : Nat) (K : Out → Option X) (x0 : CV) : evFn (f20_cx R_f36 hR_f36) [] k Try.f20.ntmps Try.f20.results.toList (Try.f20.body.getD .skip) [(.v x0)] [] K = f20_T R_f36 k (fun u => K (f20_out u)) x0 := by kernel_rfl
theorem f20_ev {X : Type} (R_f36 : f36_R) (hR_f36 : AnsOk Try.prog 36 (f36_cOf R_f36)) (k : Nat) (K : Out → Option X) (x0 : CV) : evFn (f20_cx R_f36 hR_f36) [] k Try.f20.ntmps Try.f20.results.toList (Try.f20.body.getD .skip) [(.v x0)] [] K = f20_A R_f36 k X (fun u => K (f20_out u)) x0 := (f20_ev' R_f36 hR_f36 k K x0).trans rfl
theorem f20_okA (R_f36 : f36_R) (hR_f36 : AnsOk Try.prog 36 (f36_cOf R_f36)) (k : Nat) : AnsOk Try.prog 20 (f20_cOf (f20_A R_f36 k)) := by
  intro X xs ns K x h
  unfold f20_cOf at h ⊢
  split at h
  · exact ans_main S (f20_Cok R_f36 hR_f36) Try.func20 (ent_of Try.func20 (by kernel_rfl) rfl) rfl (fun X K => f20_ev R_f36 hR_f36 k K _) h
  · cases h
/-- "outpost/schema.rightRule" -/
def f20 {X : Type} (k : Nat) (K : Bool → Option X) (x0 : CV) : Option X := f20_A (fun X => @f36 X k) k X K x0
theorem f20_ok (k : Nat) : AnsOk Try.prog 20 (f20_cOf (fun X => @f20 X k)) := f20_okA (fun X => @f36 X k) (f36_ok k) k
abbrev f7_R : Type 1 := (X : Type) → (Bool → Option X) → CV → Option X
def f7_out (u : Bool) : Out := ⟨(.v (CV.bool u)), []⟩
def f7_cOf (R : f7_R) : FnC := fun X xs ns K => match xs, ns with
  | [(.v x0)], [] => R X (fun u => K (f7_out u)) x0
  | _, _ => none
def f7_plan : Nat → Option (List Nat × List Wk)
  | 0 => some ([0], [])
  | 1 => some ([1], [])
  | 2 => some ([], [])
  | 3 => some ([1], [])
  | 4 => some ([1, 30, 31, 32], [])
  | 5 => some ([1, 30, 31, 32], [])
  | 6 => some ([1, 3, 4, 30, 31, 32], [])
  | 7 => some ([], [])
  | 8 => some ([1, 30, 31, 32], [])
  | 9 => some ([], [])
  | _ => none
def f7_C (R_f20 : f20_R) : Fns := (orC 20 (f20_cOf R_f20) noC)
theorem f7_Cok (R_f20 : f20_R) (hR_f20 : AnsOk Try.prog 20 (f20_cOf R_f20)) : CsOk Try.prog (f7_C R_f20) := (orC_ok hR_f20 noC_ok)
def f7_cx (R_f20 : f20_R) (hR_f20 : AnsOk Try.prog 20 (f20_cOf R_f20)) : Cx := mkCx (tabOf rows) (f7_C R_f20) md (cmpIn cmps) f7_plan (f7_Cok R_f20 hR_f20)
def f7_S1 (v : (List CV) × Int × Int × Int × Int × Bool × (List CV)) : St := ⟨[.undef, (.ptr [1] 0 0 0), .undef, .undef, .undef, .undef, .undef, .undef, .undef, .undef, .undef, .undef, .undef, .undef, .undef, .undef, .undef, .undef, .undef, .undef, .undef, .undef, .undef, .undef, .undef, .undef, .undef, .undef, .undef, .undef, (.sl true (some 8) v.1), (.v (CV.int .i64 v.2.1)), (.v (CV.int .i64 v.2.2.1)), .undef, .undef, .undef, .undef, .undef, .undef, .undef, .undef, .undef, .undef, .undef, .undef, .undef, .undef, .undef, .undef, .undef, .undef, .undef, .undef, .undef, .undef, .undef, .undef], [([1], (.obj [(.v (CV.int .i64 v.2.2.2.1)), (.v (CV.int .i64 v.2.2.2.2.1)), (.v (CV.bool v.2.2.2.2.2.1)), (.sl true (some 8) v.2.2.2.2.2.2)]))]⟩
def f7_J1 {X : Type} (R_f20 : f20_R) (k : Nat) (K : Bool → Option X) (rec1 : (List CV) × Int × Int × Int × Int × Bool × (List CV) → Option X) (v5_0 : (List CV) × Int × Int × Int × Int × Bool × (List CV)) (v14 : Unit) : Option X :=
rec1 (v5_0.1, v5_0.2.1, (IntKind.wrap .i64 (v5_0.2.2.1 + 1)), v5_0.2.2.2.1, v5_0.2.2.2.2.1, v5_0.2.2.2.2.2.1, v5_0.2.2.2.2.2.2)
def f7_T1 {X : Type} (R_f20 : f20_R) (k : Nat) (K : Bool → Option X)   (rec1 : (List CV) × Int × Int × Int × Int × Bool × (List CV) → Option X) (v5_0 : (List CV) × Int × Int × Int × Int × Bool × (List CV)) : Option X :=
(bif (decide (v5_0.2.2.1 < v5_0.2.1)) then
grd (decide (0 ≤ v5_0.2.2.1)) <|
Option.bind (v5_0.1)[(Int.toNat v5_0.2.2.1)]? fun e15 =>
grd (CV.isA 8 e15) <|
grd (CV.isI .i64 (CV.cellD 0 e15)) <|
grd (CV.isI .i64 (CV.cellD 1 e15)) <|
grd (CV.isB (CV.cellD 2 e15)) <|
grd (CV.isB (CV.cellD 3 e15)) <|
grd (CV.isB (CV.cellD 4 e15)) <|
grd (CV.isI .i64 (CV.cellD 5 e15)) <|
grd (CV.isI .i64 (CV.cellD 6 e15)) <|
grd (CV.isB (CV.cellD 7 e15)) <|
R_f20 _ (fun u16 =>
(bif (!u16) then
K (false)
else
(bif (decide (v5_0.2.2.1 > 0)) then
grd (decide (0 ≤ (IntKind.wrap .i64 (v5_0.2.2.1 - 1)))) <|
Option.bind (v5_0.2.2.2.2.2.2)[(Int.toNat (IntKind.wrap .i64 (v5_0.2.2.1 - 1)))]? fun e17 =>
Option.bind (CV.cell e17 0) fun c18 =>
grd (CV.isI .i64 c18) <|
(bif (decide ((CV.toI c18) ≥ (CV.toI (CV.cellD 0 e15)))) then
K (false)
else
f7_J1 R_f20 k K rec1 v5_0 (()))
else
f7_J1 R_f20 k K rec1 v5_0 (())))) ((CV.agg [(CV.int .i64 (CV.toI (CV.cellD 0 e15))), (CV.int .i64 (CV.toI (CV.cellD 1 e15))), (CV.bool (CV.toB (CV.cellD 2 e15))), (CV.bool (CV.toB (CV.cellD 3 e15))), (CV.bool (CV.toB (CV.cellD 4 e15))), (CV.int .i64 (CV.toI (CV.cellD 5 e15))), (CV.int .i64 (CV.toI (CV.cellD 6 e15))), (CV.bool (CV.toB (CV.cellD 7 e15)))]))
else
K (true))
def f7_L1 {X : Type} (R_f20 : f20_R) (k : Nat) (K : Bool → Option X)  (rec1 : (List CV) × Int × Int × Int × Int × Bool × (List CV) → Option X) (v : (List CV) × Int × Int × Int × Int × Bool × (List CV)) : Option X := f7_T1 R_f20 k K   rec1 v
set_option maxRecDepth 100000 in
theorem f7_L1_ev {X : Type} (R_f20 : f20_R) (hR_f20 : AnsOk Try.prog 20 (f20_cOf R_f20)) (k : Nat) (K : Out → Option X)  (r1 : St → Option X) (v : (List CV) × Int × Int × Int × Int × Bool × (List CV)) : loopB (f7_cx R_f20 hR_f20) k [.r, .r, .l, .r, .b] (Try.f7.body.getD .skip) (retK (f7_cx R_f20 hR_f20) [] Try.f7.results.toList K) [] r1 (f7_S1 v) = f7_T1 R_f20 k (fun u => K (f7_out u))   (fun v => r1 (f7_S1 v)) v := by kernel_rfl
theorem f7_L1_it {X : Type} (R_f20 : f20_R) (hR_f20 : AnsOk Try.prog 20 (f20_cOf R_f20)) (k : Nat) (K : Out → Option X)  : (fun v => iter (loopB (f7_cx R_f20 hR_f20) k [.r, .r, .l, .r, .b] (Try.f7.body.getD .skip) (retK (f7_cx R_f20 hR_f20) [] Try.f7.results.toList K) []) k (f7_S1 v)) = iterV (f7_L1 R_f20 k (fun u => K (f7_out u)) ) k :=
  iter_map (fun r1 v => (f7_L1_ev R_f20 hR_f20 k K  r1 v).trans rfl) k
def f7_T {X : Type} (R_f20 : f20_R) (k : Nat) (K : Bool → Option X) (loop1 : (List CV) × Int × Int × Int × Int × Bool × (List CV) → Option X) (x0 : CV) : Option X :=
grd (CV.isA 4 x0) <|
grd (CV.isI .i64 (CV.cellD 0 x0)) <|
grd (CV.isI .i64 (CV.cellD 1 x0)) <|
grd (CV.isB (CV.cellD 2 x0)) <|
grd (CV.isL (some 8) (CV.cellD 3 x0)) <|
(bif (decide ((CV.toI (CV.cellD 0 x0)) < 0)) then
K (false)
else
(bif (decide ((CV.toI (CV.cellD 0 x0)) > 65534)) then
K (false)
else
(bif (decide ((CV.toI (CV.cellD 1 x0)) < 1)) then
K (false)
else
(bif (decide ((CV.toI (CV.cellD 1 x0)) > 8)) then
K (false)
else
(bif (decide ((Nat.cast ((List.length (CV.toL (CV.cellD 3 x0)))) : Int) > 32)) then
K (false)
else
loop1 ((CV.toL (CV.cellD 3 x0)), (Nat.cast ((List.length (CV.toL (CV.cellD 3 x0)))) : Int), 0, (CV.toI (CV.cellD 0 x0)), (CV.toI (CV.cellD 1 x0)), (CV.toB (CV.cellD 2 x0)), (CV.toL (CV.cellD 3 x0))))))))
/-- "outpost/schema.Right" -/
def f7_A (R_f20 : f20_R) (k : Nat) : f7_R := fun X K x0 => f7_T R_f20 k K (iterV (f7_L1 R_f20 k K) k) x0
set_option maxRecDepth 100000 in
theorem f7_ev' {X : Type} (R_f20 : f20_R) (hR_f20 : AnsOk Try.prog 20 (f20_cOf R_f20)) (k : Nat) (K : Out → Option X) (x0 : CV) : evFn (f7_cx R_f20 hR_f20) [] k Try.f7.ntmps Try.f7.results.toList (Try.f7.body.getD .skip) [(.v x0)] [] K = f7_T R_f20 k (fun u => K (f7_out u)) (fun v => iter (loopB (f7_cx R_f20 hR_f20) k [.r, .r, .l, .r, .b] (Try.f7.body.getD .skip) (retK (f7_cx R_f20 hR_f20) [] Try.f7.results.toList K) []) k (f7_S1 v)) x0 := by kernel_rfl
theorem f7_ev {X : Type} (R_f20 : f20_R) (hR_f20 : AnsOk Try.prog 20 (f20_cOf R_f20)) (k : Nat) (K : Out → Option X) (x0 : CV) : evFn (f7_cx R_f20 hR_f20) [] k Try.f7.ntmps Try.f7.results.toList (Try.f7.body.getD .skip) [(.v x0)] [] K = f7_A R_f20 k X (fun u => K (f7_out u)) x0 := (f7_ev' R_f20 hR_f20 k K x0).trans (by rw [f7_L1_it R_f20 hR_f20 k K]; rfl)
theorem f7_okA (R_f20 : f20_R) (hR_f20 : AnsOk Try.prog 20 (f20_cOf R_f20)) (k : Nat) : AnsOk Try.prog 7 (f7_cOf (f7_A R_f20 k)) := by
  intro X xs ns K x h
  unfold f7_cOf at h ⊢
  split at h
  · exact ans_main S (f7_Cok R_f20 hR_f20) Try.func7 (ent_of Try.func7 (by kernel_rfl) rfl) rfl (fun X K => f7_ev R_f20 hR_f20 k K _) h
  · cases h
/-- "outpost/schema.Right" -/
def f7 {X : Type} (k : Nat) (K : Bool → Option X) (x0 : CV) : Option X := f7_A (fun X => @f20 X k) k X K x0
theorem f7_ok (k : Nat) : AnsOk Try.prog 7 (f7_cOf (fun X => @f7 X k)) := f7_okA (fun X => @f20 X k) (f20_ok k) k
abbrev f31_R : Type 1 := (X : Type) → (Bool → Option X) → CV → Int → Option X
def f31_out (u : Bool) : Out := ⟨(.v (CV.bool u)), []⟩
def f31_cOf (R : f31_R) : FnC := fun X xs ns K => match xs, ns with
  | [(.v x0), (.bptr none (CV.int .i64 x1) 0)], [] => R X (fun u => K (f31_out u)) x0 x1
  | _, _ => none
def f31_plan : Nat → Option (List Nat × List Wk)
  | 0 => some ([0, 1], [])
  | 1 => some ([1, 2], [])
  | _ => none
def f31_C : Fns := noC
theorem f31_Cok : CsOk Try.prog (f31_C) := noC_ok
def f31_cx : Cx := mkCx (tabOf rows) (f31_C) md (cmpIn cmps) f31_plan (f31_Cok)
def f31_T {X : Type} (k : Nat) (K : Bool → Option X)  (x0 : CV) (x1 : Int) : Option X :=
grd (CV.isA 4 x0) <|
grd (CV.isI .i64 (CV.cellD 0 x0)) <|
grd (CV.isI .i64 (CV.cellD 1 x0)) <|
grd (CV.isB (CV.cellD 2 x0)) <|
grd (CV.isL (some 8) (CV.cellD 3 x0)) <|
K (((CV.toI (CV.cellD 0 x0)) == x1))
/-- "outpost/schema.Find$1" -/
def f31_A (k : Nat) : f31_R := fun X K x0 x1 => f31_T k K  x0 x1
set_option maxRecDepth 100000 in
theorem f31_ev' {X : Type} (k : Nat) (K : Out → Option X) (x0 : CV) (x1 : Int) : evFn (f31_cx) [] k Try.f31.ntmps Try.f31.results.toList (Try.f31.body.getD .skip) [(.v x0), (.bptr none (CV.int .i64 x1) 0)] [] K = f31_T k (fun u => K (f31_out u)) x0 x1 := by kernel_rfl
theorem f31_ev {X : Type} (k : Nat) (K : Out → Option X) (x0 : CV) (x1 : Int) : evFn (f31_cx) [] k Try.f31.ntmps Try.f31.results.toList (Try.f31.body.getD .skip) [(.v x0), (.bptr none (CV.int .i64 x1) 0)] [] K = f31_A k X (fun u => K (f31_out u)) x0 x1 := (f31_ev' k K x0 x1).trans rfl
theorem f31_okA (k : Nat) : AnsOk Try.prog 31 (f31_cOf (f31_A k)) := by
  intro X xs ns K x h
  unfold f31_cOf at h ⊢
  split at h
  · exact ans_main S (f31_Cok) Try.func31 (ent_of Try.func31 (by kernel_rfl) rfl) rfl (fun X K => f31_ev k K _ _) h
  · cases h
/-- "outpost/schema.Find$1" -/
def f31 {X : Type} (k : Nat) (K : Bool → Option X) (x0 : CV) (x1 : Int) : Option X := f31_A k X K x0 x1
theorem f31_ok (k : Nat) : AnsOk Try.prog 31 (f31_cOf (fun X => @f31 X k)) := f31_okA k
abbrev f30_R : Type 1 := (X : Type) → (Int → Option X) → (List CV) → Int → Option X
def f30_out (u : Int) : Out := ⟨(.v (CV.int .i64 u)), []⟩
def f30_cOf (R : f30_R) : FnC := fun X xs ns K => match xs, ns with
  | [(.sl false (some 4) x0), (.fn 31 [(.bptr none (CV.int .i64 x1) 0)])], [] => R X (fun u => K (f30_out u)) x0 x1
  | _, _ => none
def f30_plan : Nat → Option (List Nat × List Wk)
  | 0 => some ([0, 1], [])
  | 1 => some ([0, 1], [])
  | 2 => some ([0, 1, 7, 8], [])
  | 3 => some ([0, 1, 7, 8], [])
  | 4 => some ([0, 1, 5, 7, 8], [])
  | 5 => some ([5], [])
  | 6 => some ([0, 1, 7, 8], [])
  | 7 => some ([], [])
  | _ => none
def f30_C (R_f31 : f31_R) : Fns := (orC 31 (f31_cOf R_f31) noC)
theorem f30_Cok (R_f31 : f31_R) (hR_f31 : AnsOk Try.prog 31 (f31_cOf R_f31)) : CsOk Try.prog (f30_C R_f31) := (orC_ok hR_f31 noC_ok)
def f30_cx (R_f31 : f31_R) (hR_f31 : AnsOk Try.prog 31 (f31_cOf R_f31)) : Cx := mkCx (tabOf rows) (f30_C R_f31) md (cmpIn cmps) f30_plan (f30_Cok R_f31 hR_f31)
def f30_S1 (v : (List CV) × Int × Int × Int) : St := ⟨[(.sl false (some 4) v.1), (.fn 31 [(.bptr none (CV.int .i64 v.2.1) 0)]), .undef, .undef, .undef, .undef, .undef, (.v (CV.int .i64 v.2.2.1)), (.v (CV.int .i64 v.2.2.2)), .undef, .undef, .undef, .undef, .undef, .undef, .undef, .undef, .undef, .undef], []⟩
def f30_T1 {X : Type} (R_f31 : f31_R) (k : Nat) (K : Int → Option X)   (rec1 : (List CV) × Int × Int × Int → Option X) (v4_0 : (List CV) × Int × Int × Int) : Option X :=
(bif (decide (v4_0.2.2.2 < v4_0.2.2.1)) then
grd (decide (0 ≤ v4_0.2.2.2)) <|
Option.bind (v4_0.1)[(Int.toNat v4_0.2.2.2)]? fun e8 =>
R_f31 _ (fun u9 =>
(bif u9 then
K (v4_0.2.2.2)
else
rec1 (v4_0.1, v4_0.2.1, v4_0.2.2.1, (IntKind.wrap .i64 (v4_0.2.2.2 + 1))))) (e8) (v4_0.2.1)
else
K ((-1)))
def f30_L1 {X : Type} (R_f31 : f31_R) (k : Nat) (K : Int → Option X)  (rec1 : (List CV) × Int × Int × Int → Option X) (v : (List CV) × Int × Int × Int) : Option X := f30_T1 R_f31 k K   rec1 v
set_option maxRecDepth 100000 in
theorem f30_L1_ev {X : Type} (R_f31 : f31_R) (hR_f31 : AnsOk Try.prog 31 (f31_cOf R_f31)) (k : Nat) (K : Out → Option X)  (r1 : St → Option X) (v : (List CV) × Int × Int × Int) : loopB (f30_cx R_f31 hR_f31) k [.r, .l, .r, .b] (Try.f30.body.getD .skip) (retK (f30_cx R_f31 hR_f31) [] Try.f30.results.toList K) [] r1 (f30_S1 v) = f30_T1 R_f31 k (fun u => K (f30_out u))   (fun v => r1 (f30_S1 v)) v := by kernel_rfl
theorem f30_L1_it {X : Type} (R_f31 : f31_R) (hR_f31 : AnsOk Try.prog 31 (f31_cOf R_f31)) (k : Nat) (K : Out → Option X)  : (fun v => iter (loopB (f30_cx R_f31 hR_f31) k [.r, .l, .r, .b] (Try.f30.body.getD .skip) (retK (f30_cx R_f31 hR_f31) [] Try.f30.results.toList K) []) k (f30_S1 v)) = iterV (f30_L1 R_f31 k (fun u => K (f30_out u)) ) k :=
  iter_map (fun r1 v => (f30_L1_ev R_f31 hR_f31 k K  r1 v).trans rfl) k
def f30_T {X : Type} (R_f31 : f31_R) (k : Nat) (K : Int → Option X) (loop1 : (List CV) × Int × Int × Int → Option X) (x0 : List CV) (x1 : Int) : Option X :=
loop1 (x0, x1, (Nat.cast ((List.length x0)) : Int), 0)
/-- "slices.IndexFunc[[]outpost/api.Obj,outpost/api.Obj]" -/
def f30_A (R_f31 : f31_R) (k : Nat) : f30_R := fun X K x0 x1 => f30_T R_f31 k K (iterV (f30_L1 R_f31 k K) k) x0 x1
set_option maxRecDepth 100000 in
theorem f30_ev' {X : Type} (R_f31 : f31_R) (hR_f31 : AnsOk Try.prog 31 (f31_cOf R_f31)) (k : Nat) (K : Out → Option X) (x0 : List CV) (x1 : Int) : evFn (f30_cx R_f31 hR_f31) [] k Try.f30.ntmps Try.f30.results.toList (Try.f30.body.getD .skip) [(.sl false (some 4) x0), (.fn 31 [(.bptr none (CV.int .i64 x1) 0)])] [] K = f30_T R_f31 k (fun u => K (f30_out u)) (fun v => iter (loopB (f30_cx R_f31 hR_f31) k [.r, .l, .r, .b] (Try.f30.body.getD .skip) (retK (f30_cx R_f31 hR_f31) [] Try.f30.results.toList K) []) k (f30_S1 v)) x0 x1 := by kernel_rfl
theorem f30_ev {X : Type} (R_f31 : f31_R) (hR_f31 : AnsOk Try.prog 31 (f31_cOf R_f31)) (k : Nat) (K : Out → Option X) (x0 : List CV) (x1 : Int) : evFn (f30_cx R_f31 hR_f31) [] k Try.f30.ntmps Try.f30.results.toList (Try.f30.body.getD .skip) [(.sl false (some 4) x0), (.fn 31 [(.bptr none (CV.int .i64 x1) 0)])] [] K = f30_A R_f31 k X (fun u => K (f30_out u)) x0 x1 := (f30_ev' R_f31 hR_f31 k K x0 x1).trans (by rw [f30_L1_it R_f31 hR_f31 k K]; rfl)
theorem f30_okA (R_f31 : f31_R) (hR_f31 : AnsOk Try.prog 31 (f31_cOf R_f31)) (k : Nat) : AnsOk Try.prog 30 (f30_cOf (f30_A R_f31 k)) := by
  intro X xs ns K x h
  unfold f30_cOf at h ⊢
  split at h
  · exact ans_main S (f30_Cok R_f31 hR_f31) Try.func30 (ent_of Try.func30 (by kernel_rfl) rfl) rfl (fun X K => f30_ev R_f31 hR_f31 k K _ _) h
  · cases h
/-- "slices.IndexFunc[[]outpost/api.Obj,outpost/api.Obj]" -/
def f30 {X : Type} (k : Nat) (K : Int → Option X) (x0 : List CV) (x1 : Int) : Option X := f30_A (fun X => @f31 X k) k X K x0 x1
theorem f30_ok (k : Nat) : AnsOk Try.prog 30 (f30_cOf (fun X => @f30 X k)) := f30_okA (fun X => @f31 X k) (f31_ok k) k
def f44_plan : Nat → Option (List Nat × List Wk)
  | 0 => some ([0], [])
  | 1 => some ([0], [])
  | 2 => some ([], [])
  | 3 => some ([0], [])
  | _ => none
def f44_cx : Cx := mkCx (tabOf rows) noC md (cmpIn cmps) f44_plan (noC_ok (P := Try.prog))
/-- "slices.Clone[[]outpost/api.Rule,outpost/api.Rule]" -/
def f44 {X : Type} (k : Nat) (K : List CV → Option X) (x0 : List CV) : Option X := grd (decide ((0 + List.length x0) * 48 ≤ 140737488355328)) (K x0)
def f44_out (u : List CV) : Out := ⟨.osl [2000] (some 8) 0 (List.length u), [([2000], .row false (some 8) u)]⟩
set_option maxRecDepth 100000 in
theorem f44_fn (x0 : List CV) (hl : (decide ((0 + List.length x0) * 48 ≤ 140737488355328)) = true) : FnOk Try.prog 44 [.sl false (some 8) x0] [] (f44_out x0) := by
  refine nilsplit (cx := f44_cx) (xs := x0) (p := false) (sh := (some 8)) (fuel := 1) (ws := [⟨0, [], some [2000]⟩]) (tabOf_tabOk S.hr) (tabOf_noOther S.hr) (CsOk.fns (noC_ok (P := Try.prog)) (cmpsAre_ok cmps_ok)) S.hm Try.func44 rfl rfl Try.underlying22 (s1 := ⟨[(.sl false (some 8) x0), .undef, (.nil0 (some 8)), .undef, .undef, .undef, .undef, .undef], []⟩) (s2 := ⟨[(.sl false (some 8) x0), .undef, .undef, .undef, .undef, .undef, .undef, .undef], []⟩) (s3 := ⟨[(.sl false (some 8) x0), .undef, .undef, (.sl false (some 8) x0), .undef, .undef, .undef, .undef], []⟩) ?_ ?_ ?_ rfl ?_ (fun h => ?_) ⟨rfl, rfl⟩
  · kernel_rfl
  · kernel_rfl
  · kernel_rfl
  · refine Eq.trans (b := grd (decide ((0 + List.length x0) * 48 ≤ 140737488355328)) (some ⟨.osl [2000] (some 8) 0 (0 + List.length x0), [([2000], .row false (some 8) (List.take (0 + (0 + List.length x0)) (List.take 0 [] ++ x0)))]⟩)) (by kernel_rfl) ?_
    rw [hl]
    simp [grd, f44_out]
  · subst h
    kernel_rfl
abbrev f44_R : Type 1 := (X : Type) → (List CV → Option X) → List CV → Option X
def f44_cOf (R : f44_R) : FnC := fun X xs ns K => match xs, ns with
  | [.sl false (some 8) x0], [] => R X (fun u => K (f44_out u)) x0
  | _, _ => none
theorem f44_ok (k : Nat) : AnsOk Try.prog 44 (f44_cOf (fun X => @f44 X k)) := by
  intro X xs ns K x h
  unfold f44_cOf at h ⊢
  split at h
  · next x0 =>
    obtain ⟨h1, h2⟩ := grd_some (show grd (decide ((0 + List.length x0) * 48 ≤ 140737488355328)) (K (f44_out x0)) = some x from h)
    exact ⟨trivial, _, (f44_fn x0 h1).toX (ent_of Try.func44 (by kernel_rfl) rfl), h2, fun Y K' => by show grd _ _ = _; rw [h1]; rfl⟩
  · cases h
abbrev f32_R : Type 1 := (X : Type) → (Int × Int × Bool × Nat × (List CV) → Option X) → CV → Option X
def f32_out (u : Int × Int × Bool × Nat × (List CV)) : Out := ⟨(.agg [(.v (CV.int .i64 u.1)), (.v (CV.int .i64 u.2.1)), (.v (CV.bool u.2.2.1)), (.osl [3, 2000] (some 8) 0 u.2.2.2.1)]), [([3, 2000], (.row false (some 8) u.2.2.2.2))]⟩
def f32_cOf (R : f32_R) : FnC := fun X xs ns K => match xs, ns with
  | [(.v x0)], [] => R X (fun u => K (f32_out u)) x0
  | _, _ => none
def f32_plan : Nat → Option (List Nat × List Wk)
  | 0 => some ([0], [])
  | 1 => some ([1, 2], [])
  | 2 => some ([1, 2], [])
  | _ => none
def f32_C (R_f44 : f44_R) : Fns := (orC 44 (f44_cOf R_f44) noC)
theorem f32_Cok (R_f44 : f44_R) (hR_f44 : AnsOk Try.prog 44 (f44_cOf R_f44)) : CsOk Try.prog (f32_C R_f44) := (orC_ok hR_f44 noC_ok)
def f32_cx (R_f44 : f44_R) (hR_f44 : AnsOk Try.prog 44 (f44_cOf R_f44)) : Cx := mkCx (tabOf rows) (f32_C R_f44) md (cmpIn cmps) f32_plan (f32_Cok R_f44 hR_f44)
def f32_T {X : Type} (R_f44 : f44_R) (k : Nat) (K : Int × Int × Bool × Nat × (List CV) → Option X)  (x0 : CV) : Option X :=
grd (CV.isA 4 x0) <|
grd (CV.isI .i64 (CV.cellD 0 x0)) <|
grd (CV.isI .i64 (CV.cellD 1 x0)) <|
grd (CV.isB (CV.cellD 2 x0)) <|
grd (CV.isL (some 8) (CV.cellD 3 x0)) <|
R_f44 _ (fun u1 =>
K ((CV.toI (CV.cellD 0 x0)), (CV.toI (CV.cellD 1 x0)), (CV.toB (CV.cellD 2 x0)), (List.length u1), (List.take (0 + (List.length u1)) u1))) ((CV.toL (CV.cellD 3 x0)))
/-- "outpost/schema.copied" -/
def f32_A (R_f44 : f44_R) (k : Nat) : f32_R := fun X K x0 => f32_T R_f44 k K  x0
set_option maxRecDepth 100000 in
theorem f32_ev' {X : Type} (R_f44 : f44_R) (hR_f44 : AnsOk Try.prog 44 (f44_cOf R_f44)) (k : Nat) (K : Out → Option X) (x0 : CV) : evFn (f32_cx R_f44 hR_f44) [] k Try.f32.ntmps Try.f32.results.toList (Try.f32.body.getD .skip) [(.v x0)] [] K = f32_T R_f44 k (fun u => K (f32_out u)) x0 := by kernel_rfl
theorem f32_ev {X : Type} (R_f44 : f44_R) (hR_f44 : AnsOk Try.prog 44 (f44_cOf R_f44)) (k : Nat) (K : Out → Option X) (x0 : CV) : evFn (f32_cx R_f44 hR_f44) [] k Try.f32.ntmps Try.f32.results.toList (Try.f32.body.getD .skip) [(.v x0)] [] K = f32_A R_f44 k X (fun u => K (f32_out u)) x0 := (f32_ev' R_f44 hR_f44 k K x0).trans rfl
theorem f32_okA (R_f44 : f44_R) (hR_f44 : AnsOk Try.prog 44 (f44_cOf R_f44)) (k : Nat) : AnsOk Try.prog 32 (f32_cOf (f32_A R_f44 k)) := by
  intro X xs ns K x h
  unfold f32_cOf at h ⊢
  split at h
  · exact ans_main S (f32_Cok R_f44 hR_f44) Try.func32 (ent_of Try.func32 (by kernel_rfl) rfl) rfl (fun X K => f32_ev R_f44 hR_f44 k K _) h
  · cases h
/-- "outpost/schema.copied" -/
def f32 {X : Type} (k : Nat) (K : Int × Int × Bool × Nat × (List CV) → Option X) (x0 : CV) : Option X := f32_A (fun X => @f44 X k) k X K x0
theorem f32_ok (k : Nat) : AnsOk Try.prog 32 (f32_cOf (fun X => @f32 X k)) := f32_okA (fun X => @f44 X k) (f44_ok k) k
abbrev f17_R : Type 1 := (X : Type) → (Int × Int × Bool × Nat × Bool × (List CV) → Option X) → (List CV) → Int → Option X
def f17_out (u : Int × Int × Bool × Nat × Bool × (List CV)) : Out := ⟨(.tup [(.agg [(.v (CV.int .i64 u.1)), (.v (CV.int .i64 u.2.1)), (.v (CV.bool u.2.2.1)), (.osl [3, 0, 2000] (some 8) 0 u.2.2.2.1)]), (.v (CV.bool u.2.2.2.2.1))]), [([3, 0, 2000], (.row false (some 8) u.2.2.2.2.2))]⟩
def f17_cOf (R : f17_R) : FnC := fun X xs ns K => match xs, ns with
  | [(.sl false (some 4) x0), (.v (CV.int .i64 x1))], [] => R X (fun u => K (f17_out u)) x0 x1
  | _, _ => none
def f17_plan : Nat → Option (List Nat × List Wk)
  | 0 => some ([0, 1], [])
  | 1 => some ([0, 3, 4], [])
  | 2 => some ([0, 4, 6], [])
  | 3 => some ([4], [])
  | 4 => some ([0, 4, 6], [])
  | _ => none
def f17_C (R_f30 : f30_R) (R_f32 : f32_R) : Fns := (orC 30 (f30_cOf R_f30) (orC 32 (f32_cOf R_f32) noC))
theorem f17_Cok (R_f30 : f30_R) (R_f32 : f32_R) (hR_f30 : AnsOk Try.prog 30 (f30_cOf R_f30)) (hR_f32 : AnsOk Try.prog 32 (f32_cOf R_f32)) : CsOk Try.prog (f17_C R_f30 R_f32) := (orC_ok hR_f30 (orC_ok hR_f32 noC_ok))
def f17_cx (R_f30 : f30_R) (R_f32 : f32_R) (hR_f30 : AnsOk Try.prog 30 (f30_cOf R_f30)) (hR_f32 : AnsOk Try.prog 32 (f32_cOf R_f32)) : Cx := mkCx (tabOf rows) (f17_C R_f30 R_f32) md (cmpIn cmps) f17_plan (f17_Cok R_f30 R_f32 hR_f30 hR_f32)
def f17_T {X : Type} (R_f30 : f30_R) (R_f32 : f32_R) (k : Nat) (K : Int × Int × Bool × Nat × Bool × (List CV) → Option X)  (x0 : List CV) (x1 : Int) : Option X :=
R_f30 _ (fun u1 =>
(bif (decide (u1 < 0)) then
K (0, 0, false, 0, false, (List.take 0 []))
else
grd (decide (0 ≤ u1)) <|
Option.bind (x0)[(Int.toNat u1)]? fun e2 =>
R_f32 _ (fun u3 =>
K (u3.1, u3.2.1, u3.2.2.1, u3.2.2.2.1, true, (List.take (0 + u3.2.2.2.1) u3.2.2.2.2))) (e2))) (x0) (x1)
/-- "outpost/schema.Find" -/
def f17_A (R_f30 : f30_R) (R_f32 : f32_R) (k : Nat) : f17_R := fun X K x0 x1 => f17_T R_f30 R_f32 k K  x0 x1
set_option maxRecDepth 100000 in
theorem f17_ev' {X : Type} (R_f30 : f30_R) (R_f32 : f32_R) (hR_f30 : AnsOk Try.prog 30 (f30_cOf R_f30)) (hR_f32 : AnsOk Try.prog 32 (f32_cOf R_f32)) (k : Nat) (K : Out → Option X) (x0 : List CV) (x1 : Int) : evFn (f17_cx R_f30 R_f32 hR_f30 hR_f32) [] k Try.f17.ntmps Try.f17.results.toList (Try.f17.body.getD .skip) [(.sl false (some 4) x0), (.v (CV.int .i64 x1))] [] K = f17_T R_f30 R_f32 k (fun u => K (f17_out u)) x0 x1 := by kernel_rfl
theorem f17_ev {X : Type} (R_f30 : f30_R) (R_f32 : f32_R) (hR_f30 : AnsOk Try.prog 30 (f30_cOf R_f30)) (hR_f32 : AnsOk Try.prog 32 (f32_cOf R_f32)) (k : Nat) (K : Out → Option X) (x0 : List CV) (x1 : Int) : evFn (f17_cx R_f30 R_f32 hR_f30 hR_f32) [] k Try.f17.ntmps Try.f17.results.toList (Try.f17.body.getD .skip) [(.sl false (some 4) x0), (.v (CV.int .i64 x1))] [] K = f17_A R_f30 R_f32 k X (fun u => K (f17_out u)) x0 x1 := (f17_ev' R_f30 R_f32 hR_f30 hR_f32 k K x0 x1).trans rfl
theorem f17_okA (R_f30 : f30_R) (R_f32 : f32_R) (hR_f30 : AnsOk Try.prog 30 (f30_cOf R_f30)) (hR_f32 : AnsOk Try.prog 32 (f32_cOf R_f32)) (k : Nat) : AnsOk Try.prog 17 (f17_cOf (f17_A R_f30 R_f32 k)) := by
  intro X xs ns K x h
  unfold f17_cOf at h ⊢
  split at h
  · exact ans_main S (f17_Cok R_f30 R_f32 hR_f30 hR_f32) Try.func17 (ent_of Try.func17 (by kernel_rfl) rfl) rfl (fun X K => f17_ev R_f30 R_f32 hR_f30 hR_f32 k K _ _) h
  · cases h
/-- "outpost/schema.Find" -/
def f17 {X : Type} (k : Nat) (K : Int × Int × Bool × Nat × Bool × (List CV) → Option X) (x0 : List CV) (x1 : Int) : Option X := f17_A (fun X => @f30 X k) (fun X => @f32 X k) k X K x0 x1
theorem f17_ok (k : Nat) : AnsOk Try.prog 17 (f17_cOf (fun X => @f17 X k)) := f17_okA (fun X => @f30 X k) (fun X => @f32 X k) (f30_ok k) (f32_ok k) k
abbrev f34_R : Type 1 := (X : Type) → (Bool → Option X) → CV → Int → Option X
def f34_out (u : Bool) : Out := ⟨(.v (CV.bool u)), []⟩
def f34_cOf (R : f34_R) : FnC := fun X xs ns K => match xs, ns with
  | [(.v x0), (.bptr none (CV.int .i64 x1) 0)], [] => R X (fun u => K (f34_out u)) x0 x1
  | _, _ => none
def f34_plan : Nat → Option (List Nat × List Wk)
  | 0 => some ([0, 1], [])
  | 1 => some ([1, 2], [])
  | _ => none
def f34_C : Fns := noC
theorem f34_Cok : CsOk Try.prog (f34_C) := noC_ok
def f34_cx : Cx := mkCx (tabOf rows) (f34_C) md (cmpIn cmps) f34_plan (f34_Cok)
def f34_T {X : Type} (k : Nat) (K : Bool → Option X)  (x0 : CV) (x1 : Int) : Option X :=
grd (CV.isA 8 x0) <|
grd (CV.isI .i64 (CV.cellD 0 x0)) <|
grd (CV.isI .i64 (CV.cellD 1 x0)) <|
grd (CV.isB (CV.cellD 2 x0)) <|
grd (CV.isB (CV.cellD 3 x0)) <|
grd (CV.isB (CV.cellD 4 x0)) <|
grd (CV.isI .i64 (CV.cellD 5 x0)) <|
grd (CV.isI .i64 (CV.cellD 6 x0)) <|
grd (CV.isB (CV.cellD 7 x0)) <|
K (((CV.toI (CV.cellD 0 x0)) == x1))
/-- "outpost/schema.Rule$1" -/
def f34_A (k : Nat) : f34_R := fun X K x0 x1 => f34_T k K  x0 x1
set_option maxRecDepth 100000 in
theorem f34_ev' {X : Type} (k : Nat) (K : Out → Option X) (x0 : CV) (x1 : Int) : evFn (f34_cx) [] k Try.f34.ntmps Try.f34.results.toList (Try.f34.body.getD .skip) [(.v x0), (.bptr none (CV.int .i64 x1) 0)] [] K = f34_T k (fun u => K (f34_out u)) x0 x1 := by kernel_rfl
theorem f34_ev {X : Type} (k : Nat) (K : Out → Option X) (x0 : CV) (x1 : Int) : evFn (f34_cx) [] k Try.f34.ntmps Try.f34.results.toList (Try.f34.body.getD .skip) [(.v x0), (.bptr none (CV.int .i64 x1) 0)] [] K = f34_A k X (fun u => K (f34_out u)) x0 x1 := (f34_ev' k K x0 x1).trans rfl
theorem f34_okA (k : Nat) : AnsOk Try.prog 34 (f34_cOf (f34_A k)) := by
  intro X xs ns K x h
  unfold f34_cOf at h ⊢
  split at h
  · exact ans_main S (f34_Cok) Try.func34 (ent_of Try.func34 (by kernel_rfl) rfl) rfl (fun X K => f34_ev k K _ _) h
  · cases h
/-- "outpost/schema.Rule$1" -/
def f34 {X : Type} (k : Nat) (K : Bool → Option X) (x0 : CV) (x1 : Int) : Option X := f34_A k X K x0 x1
theorem f34_ok (k : Nat) : AnsOk Try.prog 34 (f34_cOf (fun X => @f34 X k)) := f34_okA k
abbrev f33_R : Type 1 := (X : Type) → (Int → Option X) → (List CV) → Int → Option X
def f33_out (u : Int) : Out := ⟨(.v (CV.int .i64 u)), []⟩
def f33_cOf (R : f33_R) : FnC := fun X xs ns K => match xs, ns with
  | [(.sl false (some 8) x0), (.fn 34 [(.bptr none (CV.int .i64 x1) 0)])], [] => R X (fun u => K (f33_out u)) x0 x1
  | _, _ => none
def f33_plan : Nat → Option (List Nat × List Wk)
  | 0 => some ([0, 1], [])
  | 1 => some ([0, 1], [])
  | 2 => some ([0, 1, 7, 8], [])
  | 3 => some ([0, 1, 7, 8], [])
  | 4 => some ([0, 1, 5, 7, 8], [])
  | 5 => some ([5], [])
  | 6 => some ([0, 1, 7, 8], [])
  | 7 => some ([], [])
  | _ => none
def f33_C (R_f34 : f34_R) : Fns := (orC 34 (f34_cOf R_f34) noC)
theorem f33_Cok (R_f34 : f34_R) (hR_f34 : AnsOk Try.prog 34 (f34_cOf R_f34)) : CsOk Try.prog (f33_C R_f34) := (orC_ok hR_f34 noC_ok)
def f33_cx (R_f34 : f34_R) (hR_f34 : AnsOk Try.prog 34 (f34_cOf R_f34)) : Cx := mkCx (tabOf rows) (f33_C R_f34) md (cmpIn cmps) f33_plan (f33_Cok R_f34 hR_f34)
def f33_S1 (v : (List CV) × Int × Int × Int) : St := ⟨[(.sl false (some 8) v.1), (.fn 34 [(.bptr none (CV.int .i64 v.2.1) 0)]), .undef, .undef, .undef, .undef, .undef, (.v (CV.int .i64 v.2.2.1)), (.v (CV.int .i64 v.2.2.2)), .undef, .undef, .undef, .undef, .undef, .undef, .undef, .undef, .undef, .undef], []⟩
def f33_T1 {X : Type} (R_f34 : f34_R) (k : Nat) (K : Int → Option X)   (rec1 : (List CV) × Int × Int × Int → Option X) (v4_0 : (List CV) × Int × Int × Int) : Option X :=
(bif (decide (v4_0.2.2.2 < v4_0.2.2.1)) then
grd (decide (0 ≤ v4_0.2.2.2)) <|
Option.bind (v4_0.1)[(Int.toNat v4_0.2.2.2)]? fun e8 =>
R_f34 _ (fun u9 =>
(bif u9 then
K (v4_0.2.2.2)
else
rec1 (v4_0.1, v4_0.2.1, v4_0.2.2.1, (IntKind.wrap .i64 (v4_0.2.2.2 + 1))))) (e8) (v4_0.2.1)
else
K ((-1)))
def f33_L1 {X : Type} (R_f34 : f34_R) (k : Nat) (K : Int → Option X)  (rec1 : (List CV) × Int × Int × Int → Option X) (v : (List CV) × Int × Int × Int) : Option X := f33_T1 R_f34 k K   rec1 v
set_option maxRecDepth 100000 in
theorem f33_L1_ev {X : Type} (R_f34 : f34_R) (hR_f34 : AnsOk Try.prog 34 (f34_cOf R_f34)) (k : Nat) (K : Out → Option X)  (r1 : St → Option X) (v : (List CV) × Int × Int × Int) : loopB (f33_cx R_f34 hR_f34) k [.r, .l, .r, .b] (Try.f33.body.getD .skip) (retK (f33_cx R_f34 hR_f34) [] Try.f33.results.toList K) [] r1 (f33_S1 v) = f33_T1 R_f34 k (fun u => K (f33_out u))   (fun v => r1 (f33_S1 v)) v := by kernel_rfl
theorem f33_L1_it {X : Type} (R_f34 : f34_R) (hR_f34 : AnsOk Try.prog 34 (f34_cOf R_f34)) (k : Nat) (K : Out → Option X)  : (fun v => iter (loopB (f33_cx R_f34 hR_f34) k [.r, .l, .r, .b] (Try.f33.body.getD .skip) (retK (f33_cx R_f34 hR_f34) [] Try.f33.results.toList K) []) k (f33_S1 v)) = iterV (f33_L1 R_f34 k (fun u => K (f33_out u)) ) k :=
  iter_map (fun r1 v => (f33_L1_ev R_f34 hR_f34 k K  r1 v).trans rfl) k
def f33_T {X : Type} (R_f34 : f34_R) (k : Nat) (K : Int → Option X) (loop1 : (List CV) × Int × Int × Int → Option X) (x0 : List CV) (x1 : Int) : Option X :=
loop1 (x0, x1, (Nat.cast ((List.length x0)) : Int), 0)
/-- "slices.IndexFunc[[]outpost/api.Rule,outpost/api.Rule]" -/
def f33_A (R_f34 : f34_R) (k : Nat) : f33_R := fun X K x0 x1 => f33_T R_f34 k K (iterV (f33_L1 R_f34 k K) k) x0 x1
set_option maxRecDepth 100000 in
theorem f33_ev' {X : Type} (R_f34 : f34_R) (hR_f34 : AnsOk Try.prog 34 (f34_cOf R_f34)) (k : Nat) (K : Out → Option X) (x0 : List CV) (x1 : Int) : evFn (f33_cx R_f34 hR_f34) [] k Try.f33.ntmps Try.f33.results.toList (Try.f33.body.getD .skip) [(.sl false (some 8) x0), (.fn 34 [(.bptr none (CV.int .i64 x1) 0)])] [] K = f33_T R_f34 k (fun u => K (f33_out u)) (fun v => iter (loopB (f33_cx R_f34 hR_f34) k [.r, .l, .r, .b] (Try.f33.body.getD .skip) (retK (f33_cx R_f34 hR_f34) [] Try.f33.results.toList K) []) k (f33_S1 v)) x0 x1 := by kernel_rfl
theorem f33_ev {X : Type} (R_f34 : f34_R) (hR_f34 : AnsOk Try.prog 34 (f34_cOf R_f34)) (k : Nat) (K : Out → Option X) (x0 : List CV) (x1 : Int) : evFn (f33_cx R_f34 hR_f34) [] k Try.f33.ntmps Try.f33.results.toList (Try.f33.body.getD .skip) [(.sl false (some 8) x0), (.fn 34 [(.bptr none (CV.int .i64 x1) 0)])] [] K = f33_A R_f34 k X (fun u => K (f33_out u)) x0 x1 := (f33_ev' R_f34 hR_f34 k K x0 x1).trans (by rw [f33_L1_it R_f34 hR_f34 k K]; rfl)
theorem f33_okA (R_f34 : f34_R) (hR_f34 : AnsOk Try.prog 34 (f34_cOf R_f34)) (k : Nat) : AnsOk Try.prog 33 (f33_cOf (f33_A R_f34 k)) := by
  intro X xs ns K x h
  unfold f33_cOf at h ⊢
  split at h
  · exact ans_main S (f33_Cok R_f34 hR_f34) Try.func33 (ent_of Try.func33 (by kernel_rfl) rfl) rfl (fun X K => f33_ev R_f34 hR_f34 k K _ _) h
  · cases h
/-- "slices.IndexFunc[[]outpost/api.Rule,outpost/api.Rule]" -/
def f33 {X : Type} (k : Nat) (K : Int → Option X) (x0 : List CV) (x1 : Int) : Option X := f33_A (fun X => @f34 X k) k X K x0 x1
theorem f33_ok (k : Nat) : AnsOk Try.prog 33 (f33_cOf (fun X => @f33 X k)) := f33_okA (fun X => @f34 X k) (f34_ok k) k
abbrev f18_R : Type 1 := (X : Type) → (CV × Bool → Option X) → (List CV) → Int → Int → Option X
def f18_out (u : CV × Bool) : Out := ⟨(.tup [(.v u.1), (.v (CV.bool u.2))]), []⟩
def f18_cOf (R : f18_R) : FnC := fun X xs ns K => match xs, ns with
  | [(.sl false (some 4) x0), (.v (CV.int .i64 x1)), (.v (CV.int .i64 x2))], [] => R X (fun u => K (f18_out u)) x0 x1 x2
  | _, _ => none
def f18_plan : Nat → Option (List Nat × List Wk)
  | 0 => some ([0, 1, 2], [])
  | 1 => some ([0, 1, 5, 6], [])
  | 2 => some ([5, 6, 8], [])
  | 3 => some ([6, 8, 10], [])
  | 4 => some ([6], [])
  | 5 => some ([6, 8, 10], [])
  | _ => none
def f18_C (R_f17 : f17_R) (R_f33 : f33_R) : Fns := (orC 17 (f17_cOf R_f17) (orC 33 (f33_cOf R_f33) noC))
theorem f18_Cok (R_f17 : f17_R) (R_f33 : f33_R) (hR_f17 : AnsOk Try.prog 17 (f17_cOf R_f17)) (hR_f33 : AnsOk Try.prog 33 (f33_cOf R_f33)) : CsOk Try.prog (f18_C R_f17 R_f33) := (orC_ok hR_f17 (orC_ok hR_f33 noC_ok))
def f18_cx (R_f17 : f17_R) (R_f33 : f33_R) (hR_f17 : AnsOk Try.prog 17 (f17_cOf R_f17)) (hR_f33 : AnsOk Try.prog 33 (f33_cOf R_f33)) : Cx := mkCx (tabOf rows) (f18_C R_f17 R_f33) md (cmpIn cmps) f18_plan (f18_Cok R_f17 R_f33 hR_f17 hR_f33)
def f18_T {X : Type} (R_f17 : f17_R) (R_f33 : f33_R) (k : Nat) (K : CV × Bool → Option X)  (x0 : List CV) (x1 : Int) (x2 : Int) : Option X :=
R_f17 _ (fun u1 =>
R_f33 _ (fun u2 =>
(bif (decide (u2 < 0)) then
K ((CV.agg [(CV.int .i64 0), (CV.int .i64 0), (CV.bool false), (CV.bool false), (CV.bool false), (CV.int .i64 0), (CV.int .i64 0), (CV.bool false)]), false)
else
grd (decide (0 ≤ u2)) <|
grd (decide (u2 < (Nat.cast (u1.2.2.2.1) : Int))) <|
Option.bind (u1.2.2.2.2.2)[(0 + (Int.toNat u2))]? fun e3 =>
grd (CV.isA 8 e3) <|
grd (CV.isI .i64 (CV.cellD 0 e3)) <|
grd (CV.isI .i64 (CV.cellD 1 e3)) <|
grd (CV.isB (CV.cellD 2 e3)) <|
grd (CV.isB (CV.cellD 3 e3)) <|
grd (CV.isB (CV.cellD 4 e3)) <|
grd (CV.isI .i64 (CV.cellD 5 e3)) <|
grd (CV.isI .i64 (CV.cellD 6 e3)) <|
grd (CV.isB (CV.cellD 7 e3)) <|
K ((CV.agg [(CV.int .i64 (CV.toI (CV.cellD 0 e3))), (CV.int .i64 (CV.toI (CV.cellD 1 e3))), (CV.bool (CV.toB (CV.cellD 2 e3))), (CV.bool (CV.toB (CV.cellD 3 e3))), (CV.bool (CV.toB (CV.cellD 4 e3))), (CV.int .i64 (CV.toI (CV.cellD 5 e3))), (CV.int .i64 (CV.toI (CV.cellD 6 e3))), (CV.bool (CV.toB (CV.cellD 7 e3)))]), true))) ((List.take u1.2.2.2.1 (List.drop 0 u1.2.2.2.2.2))) (x2)) (x0) (x1)
/-- "outpost/schema.Rule" -/
def f18_A (R_f17 : f17_R) (R_f33 : f33_R) (k : Nat) : f18_R := fun X K x0 x1 x2 => f18_T R_f17 R_f33 k K  x0 x1 x2
set_option maxRecDepth 100000 in
theorem f18_ev' {X : Type} (R_f17 : f17_R) (R_f33 : f33_R) (hR_f17 : AnsOk Try.prog 17 (f17_cOf R_f17)) (hR_f33 : AnsOk Try.prog 33 (f33_cOf R_f33)) (k : Nat) (K : Out → Option X) (x0 : List CV) (x1 : Int) (x2 : Int) : evFn (f18_cx R_f17 R_f33 hR_f17 hR_f33) [] k Try.f18.ntmps Try.f18.results.toList (Try.f18.body.getD .skip) [(.sl false (some 4) x0), (.v (CV.int .i64 x1)), (.v (CV.int .i64 x2))] [] K = f18_T R_f17 R_f33 k (fun u => K (f18_out u)) x0 x1 x2 := by kernel_rfl
theorem f18_ev {X : Type} (R_f17 : f17_R) (R_f33 : f33_R) (hR_f17 : AnsOk Try.prog 17 (f17_cOf R_f17)) (hR_f33 : AnsOk Try.prog 33 (f33_cOf R_f33)) (k : Nat) (K : Out → Option X) (x0 : List CV) (x1 : Int) (x2 : Int) : evFn (f18_cx R_f17 R_f33 hR_f17 hR_f33) [] k Try.f18.ntmps Try.f18.results.toList (Try.f18.body.getD .skip) [(.sl false (some 4) x0), (.v (CV.int .i64 x1)), (.v (CV.int .i64 x2))] [] K = f18_A R_f17 R_f33 k X (fun u => K (f18_out u)) x0 x1 x2 := (f18_ev' R_f17 R_f33 hR_f17 hR_f33 k K x0 x1 x2).trans rfl
theorem f18_okA (R_f17 : f17_R) (R_f33 : f33_R) (hR_f17 : AnsOk Try.prog 17 (f17_cOf R_f17)) (hR_f33 : AnsOk Try.prog 33 (f33_cOf R_f33)) (k : Nat) : AnsOk Try.prog 18 (f18_cOf (f18_A R_f17 R_f33 k)) := by
  intro X xs ns K x h
  unfold f18_cOf at h ⊢
  split at h
  · exact ans_main S (f18_Cok R_f17 R_f33 hR_f17 hR_f33) Try.func18 (ent_of Try.func18 (by kernel_rfl) rfl) rfl (fun X K => f18_ev R_f17 R_f33 hR_f17 hR_f33 k K _ _ _) h
  · cases h
/-- "outpost/schema.Rule" -/
def f18 {X : Type} (k : Nat) (K : CV × Bool → Option X) (x0 : List CV) (x1 : Int) (x2 : Int) : Option X := f18_A (fun X => @f17 X k) (fun X => @f33 X k) k X K x0 x1 x2
theorem f18_ok (k : Nat) : AnsOk Try.prog 18 (f18_cOf (fun X => @f18 X k)) := f18_okA (fun X => @f17 X k) (fun X => @f33 X k) (f17_ok k) (f33_ok k) k
/-- "strings.Repeat" -/
def f21 {X : Type} (k : Nat) (K : ByteArray → Option X) (x0 : ByteArray) (x1 : Int) : Option X := grd (decide (0 ≤ x1)) (grd (decide (x0.size * x1.toNat ≤ 140737488355328 ∧ x1 ≤ 9223372036854775807)) (K ⟨(Lib.repeatL x0.data.toList x1.toNat).toArray⟩))
def f21_out (u : ByteArray) : Out := ⟨.v (.str u), []⟩
abbrev f21_R : Type 1 := (X : Type) → (ByteArray → Option X) → ByteArray → Int → Option X
def f21_cOf (R : f21_R) : FnC := fun X xs ns K => match xs, ns with
  | [.v (.str x0), .v (.int .i64 x1)], [] => R X (fun u => K (f21_out u)) x0 x1
  | _, _ => none
theorem f21_ren : laysRepeat_ren.f 105 = 21 := by kernel_rfl
theorem f21_fn (x0 : ByteArray) (x1 : Int) (h1 : 0 ≤ x1) (h2 : x0.size * x1.toNat ≤ 140737488355328 ∧ x1 ≤ 9223372036854775807) : FnOk Try.prog 21 [.v (.str x0), .v (.int .i64 x1)] [] (f21_out ⟨(Lib.repeatL x0.data.toList x1.toNat).toArray⟩) := by
  refine strRep_fn (fun w => ?_)
  obtain ⟨c, rfl⟩ : ∃ c : Nat, x1 = c := ⟨x1.toNat, by omega⟩
  rw [Int.toNat_natCast] at h2 ⊢
  have h := Any.strings_Repeat laysRepeat layExtra x0 c w (by omega) h2.1
  rw [f21_ren] at h
  exact h
theorem f21_ok (k : Nat) : AnsOk Try.prog 21 (f21_cOf (fun X => @f21 X k)) := by
  intro X xs ns K x h
  unfold f21_cOf at h ⊢
  split at h
  · next x0 x1 =>
    have h : grd (decide (0 ≤ x1)) (grd (decide (x0.size * x1.toNat ≤ 140737488355328 ∧ x1 ≤ 9223372036854775807)) (K (f21_out ⟨(Lib.repeatL x0.data.toList x1.toNat).toArray⟩))) = some x := h
    obtain ⟨h1, h2⟩ := grd_some h
    obtain ⟨h3, h4⟩ := grd_some h2
    exact ⟨trivial, _, (f21_fn x0 x1 (of_decide_eq_true h1) (of_decide_eq_true h3)).toX (ent_of Try.func21 (by kernel_rfl) rfl), h4, fun Y K' => by show grd _ (grd _ _) = _; rw [h1, h3]; rfl⟩
  · cases h
abbrev f8_R : Type 1 := (X : Type) → (Int × Int × ByteArray × Nat × (List CV) → Option X) → CV → Option X
def f8_out (u : Int × Int × ByteArray × Nat × (List CV)) : Out := ⟨(.agg [(.v (CV.int .i64 u.1)), (.v (CV.int .i64 u.2.1)), (.v (CV.str u.2.2.1)), (.osl [3, 2000] none 0 u.2.2.2.1), (.v (CV.int .i64 0)), (.v (CV.int .i64 0))]), [([3, 2000], (.row false none u.2.2.2.2))]⟩
def f8_cOf (R : f8_R) : FnC := fun X xs ns K => match xs, ns with
  | [(.v x0)], [] => R X (fun u => K (f8_out u)) x0
  | _, _ => none
def f8_plan : Nat → Option (List Nat × List Wk)
  | 0 => some ([0], [])
  | 1 => some ([1, 2], [])
  | 2 => some ([1, 2, 3], [])
  | 3 => some ([1, 2, 3, 4], [])
  | 4 => some ([2], [])
  | 5 => some ([1, 2, 3, 4, 13], [])
  | 6 => some ([1, 2, 3, 4, 13], [])
  | 7 => some ([1, 2, 3], [])
  | 8 => some ([2, 3, 4, 13], [])
  | 9 => some ([2, 3, 4], [])
  | 10 => some ([2, 3, 4, 13], [])
  | 11 => some ([2, 3, 4], [])
  | 12 => some ([2, 3, 13], [])
  | 13 => some ([2, 3, 13], [])
  | 14 => some ([2, 3], [])
  | _ => none
def f8_C (R_f21 : f21_R) : Fns := (orC 21 (f21_cOf R_f21) noC)
theorem f8_Cok (R_f21 : f21_R) (hR_f21 : AnsOk Try.prog 21 (f21_cOf R_f21)) : CsOk Try.prog (f8_C R_f21) := (orC_ok hR_f21 noC_ok)
def f8_cx (R_f21 : f21_R) (hR_f21 : AnsOk Try.prog 21 (f21_cOf R_f21)) : Cx := mkCx (tabOf rows) (f8_C R_f21) md (cmpIn cmps) f8_plan (f8_Cok R_f21 hR_f21)
def f8_J1 {X : Type} (R_f21 : f21_R) (k : Nat) (K : Int × Int × ByteArray × Nat × (List CV) → Option X) (x0 : CV) (v2 : Int × ByteArray × Nat × (List CV)) : Option X :=
K ((CV.toI (CV.cellD 1 x0)), v2.1, v2.2.1, v2.2.2.1, (List.take (0 + v2.2.2.1) v2.2.2.2))
def f8_J2 {X : Type} (R_f21 : f21_R) (k : Nat) (K : Int × Int × ByteArray × Nat × (List CV) → Option X) (x0 : CV) (v5 : Bool) : Option X :=
(bif v5 then
f8_J1 R_f21 k K x0 (0, ⟨#[]⟩, 0, [])
else
K (0, 0, ⟨#[]⟩, 0, (List.take 0 [])))
def f8_J3 {X : Type} (R_f21 : f21_R) (k : Nat) (K : Int × Int × ByteArray × Nat × (List CV) → Option X) (x0 : CV) (v3 : Bool) : Option X :=
(bif v3 then
f8_J1 R_f21 k K x0 ((CV.toI (CV.cellD 5 x0)), ⟨#[]⟩, 0, [])
else
(bif ((CV.toI (CV.cellD 1 x0)) == 3) then
R_f21 _ (fun u4 =>
f8_J1 R_f21 k K x0 (0, u4, 0, [])) (⟨#[120]⟩) ((if 200 < (if 0 > (CV.toI (CV.cellD 5 x0)) then 0 else (CV.toI (CV.cellD 5 x0))) then 200 else (if 0 > (CV.toI (CV.cellD 5 x0)) then 0 else (CV.toI (CV.cellD 5 x0)))))
else
(bif ((CV.toI (CV.cellD 1 x0)) == 4) then
grd (decide (0 ≤ (if 200 < (if 0 > (CV.toI (CV.cellD 5 x0)) then 0 else (CV.toI (CV.cellD 5 x0))) then 200 else (if 0 > (CV.toI (CV.cellD 5 x0)) then 0 else (CV.toI (CV.cellD 5 x0)))))) <|
grd (decide ((if 200 < (if 0 > (CV.toI (CV.cellD 5 x0)) then 0 else (CV.toI (CV.cellD 5 x0))) then 200 else (if 0 > (CV.toI (CV.cellD 5 x0)) then 0 else (CV.toI (CV.cellD 5 x0)))) ≤ (if 200 < (if 0 > (CV.toI (CV.cellD 5 x0)) then 0 else (CV.toI (CV.cellD 5 x0))) then 200 else (if 0 > (CV.toI (CV.cellD 5 x0)) then 0 else (CV.toI (CV.cellD 5 x0)))))) <|
grd (decide (((if 200 < (if 0 > (CV.toI (CV.cellD 5 x0)) then 0 else (CV.toI (CV.cellD 5 x0))) then 200 else (if 0 > (CV.toI (CV.cellD 5 x0)) then 0 else (CV.toI (CV.cellD 5 x0)))) * 1) ≤ 140737488355328)) <|
f8_J1 R_f21 k K x0 (0, ⟨#[]⟩, (Int.toNat (if 200 < (if 0 > (CV.toI (CV.cellD 5 x0)) then 0 else (CV.toI (CV.cellD 5 x0))) then 200 else (if 0 > (CV.toI (CV.cellD 5 x0)) then 0 else (CV.toI (CV.cellD 5 x0))))), (List.replicate (Int.toNat (if 200 < (if 0 > (CV.toI (CV.cellD 5 x0)) then 0 else (CV.toI (CV.cellD 5 x0))) then 200 else (if 0 > (CV.toI (CV.cellD 5 x0)) then 0 else (CV.toI (CV.cellD 5 x0))))) (CV.int .u8 0)))
else
(bif ((CV.toI (CV.cellD 1 x0)) == 2) then
f8_J2 R_f21 k K x0 (((CV.toI (CV.cellD 1 x0)) == 2))
else
f8_J2 R_f21 k K x0 (((CV.toI (CV.cellD 1 x0)) == 6))))))
def f8_T {X : Type} (R_f21 : f21_R) (k : Nat) (K : Int × Int × ByteArray × Nat × (List CV) → Option X)  (x0 : CV) : Option X :=
grd (CV.isA 8 x0) <|
grd (CV.isI .i64 (CV.cellD 0 x0)) <|
grd (CV.isI .i64 (CV.cellD 1 x0)) <|
grd (CV.isB (CV.cellD 2 x0)) <|
grd (CV.isB (CV.cellD 3 x0)) <|
grd (CV.isB (CV.cellD 4 x0)) <|
grd (CV.isI .i64 (CV.cellD 5 x0)) <|
grd (CV.isI .i64 (CV.cellD 6 x0)) <|
grd (CV.isB (CV.cellD 7 x0)) <|
(bif ((CV.toI (CV.cellD 1 x0)) == 1) then
f8_J3 R_f21 k K x0 (((CV.toI (CV.cellD 1 x0)) == 1))
else
f8_J3 R_f21 k K x0 (((CV.toI (CV.cellD 1 x0)) == 5)))
/-- "outpost/schema.Blank" -/
def f8_A (R_f21 : f21_R) (k : Nat) : f8_R := fun X K x0 => f8_T R_f21 k K  x0
set_option maxRecDepth 100000 in
theorem f8_ev' {X : Type} (R_f21 : f21_R) (hR_f21 : AnsOk Try.prog 21 (f21_cOf R_f21)) (k : Nat) (K : Out → Option X) (x0 : CV) : evFn (f8_cx R_f21 hR_f21) [] k Try.f8.ntmps Try.f8.results.toList (Try.f8.body.getD .skip) [(.v x0)] [] K = f8_T R_f21 k (fun u => K (f8_out u)) x0 := by kernel_rfl
theorem f8_ev {X : Type} (R_f21 : f21_R) (hR_f21 : AnsOk Try.prog 21 (f21_cOf R_f21)) (k : Nat) (K : Out → Option X) (x0 : CV) : evFn (f8_cx R_f21 hR_f21) [] k Try.f8.ntmps Try.f8.results.toList (Try.f8.body.getD .skip) [(.v x0)] [] K = f8_A R_f21 k X (fun u => K (f8_out u)) x0 := (f8_ev' R_f21 hR_f21 k K x0).trans rfl
theorem f8_okA (R_f21 : f21_R) (hR_f21 : AnsOk Try.prog 21 (f21_cOf R_f21)) (k : Nat) : AnsOk Try.prog 8 (f8_cOf (f8_A R_f21 k)) := by
  intro X xs ns K x h
  unfold f8_cOf at h ⊢
  split at h
  · exact ans_main S (f8_Cok R_f21 hR_f21) Try.func8 (ent_of Try.func8 (by kernel_rfl) rfl) rfl (fun X K => f8_ev R_f21 hR_f21 k K _) h
  · cases h
/-- "outpost/schema.Blank" -/
def f8 {X : Type} (k : Nat) (K : Int × Int × ByteArray × Nat × (List CV) → Option X) (x0 : CV) : Option X := f8_A (fun X => @f21 X k) k X K x0
theorem f8_ok (k : Nat) : AnsOk Try.prog 8 (f8_cOf (fun X => @f8 X k)) := f8_okA (fun X => @f21 X k) (f21_ok k) k
abbrev f6_R : Type 1 := (X : Type) → (Bool → Option X) → Option X
def f6_out (u : Bool) : Out := ⟨(.v (CV.bool u)), []⟩
def f6_cOf (R : f6_R) : FnC := fun X xs ns K => match xs, ns with
  | [], [] => R X (fun u => K (f6_out u)) 
  | _, _ => none
def f6_plan : Nat → Option (List Nat × List Wk)
  | 0 => some ([], [])
  | 1 => some ([], [])
  | 2 => some ([1, 2], [])
  | 3 => some ([], [])
  | 4 => some ([1, 2], [])
  | 5 => some ([1, 2, 18, 19], [])
  | 6 => some ([1, 2, 18, 19], [])
  | 7 => some ([1, 2, 3, 18, 19], [])
  | 8 => some ([], [])
  | 9 => some ([1, 2, 18, 19], [])
  | 10 => some ([1], [])
  | 11 => some ([1, 4, 5], [])
  | 12 => some ([1, 4, 5, 6, 7], [])
  | 13 => some ([4, 5, 6, 7, 9], [])
  | _ => none
def f6_C (R_f14 : f14_R) (R_f16 : f16_R) (R_f15 : f15_R) (R_f7 : f7_R) (R_f18 : f18_R) (R_f17 : f17_R) (R_f8 : f8_R) : Fns := (orC 7 (f7_cOf R_f7) (orC 8 (f8_cOf R_f8) (orC 14 (f14_cOf R_f14) (orC 15 (f15_cOf R_f15) (orC 16 (f16_cOf R_f16) (orC 17 (f17_cOf R_f17) (orC 18 (f18_cOf R_f18) noC)))))))
theorem f6_Cok (R_f14 : f14_R) (R_f16 : f16_R) (R_f15 : f15_R) (R_f7 : f7_R) (R_f18 : f18_R) (R_f17 : f17_R) (R_f8 : f8_R) (hR_f14 : AnsOk Try.prog 14 (f14_cOf R_f14)) (hR_f16 : AnsOk Try.prog 16 (f16_cOf R_f16)) (hR_f15 : AnsOk Try.prog 15 (f15_cOf R_f15)) (hR_f7 : AnsOk Try.prog 7 (f7_cOf R_f7)) (hR_f18 : AnsOk Try.prog 18 (f18_cOf R_f18)) (hR_f17 : AnsOk Try.prog 17 (f17_cOf R_f17)) (hR_f8 : AnsOk Try.prog 8 (f8_cOf R_f8)) : CsOk Try.prog (f6_C R_f14 R_f16 R_f15 R_f7 R_f18 R_f17 R_f8) := (orC_ok hR_f7 (orC_ok hR_f8 (orC_ok hR_f14 (orC_ok hR_f15 (orC_ok hR_f16 (orC_ok hR_f17 (orC_ok hR_f18 noC_ok)))))))
def f6_cx (R_f14 : f14_R) (R_f16 : f16_R) (R_f15 : f15_R) (R_f7 : f7_R) (R_f18 : f18_R) (R_f17 : f17_R) (R_f8 : f8_R) (hR_f14 : AnsOk Try.prog 14 (f14_cOf R_f14)) (hR_f16 : AnsOk Try.prog 16 (f16_cOf R_f16)) (hR_f15 : AnsOk Try.prog 15 (f15_cOf R_f15)) (hR_f7 : AnsOk Try.prog 7 (f7_cOf R_f7)) (hR_f18 : AnsOk Try.prog 18 (f18_cOf R_f18)) (hR_f17 : AnsOk Try.prog 17 (f17_cOf R_f17)) (hR_f8 : AnsOk Try.prog 8 (f8_cOf R_f8)) : Cx := mkCx (tabOf rows) (f6_C R_f14 R_f16 R_f15 R_f7 R_f18 R_f17 R_f8) md (cmpIn cmps) f6_plan (f6_Cok R_f14 R_f16 R_f15 R_f7 R_f18 R_f17 R_f8 hR_f14 hR_f16 hR_f15 hR_f7 hR_f18 hR_f17 hR_f8)
def f6_S1 (v : Int × (List CV) × (List CV)) : St := ⟨[.undef, (.osl [1] (some 4) 0 5), (.osl [2] (some 4) 0 5), .undef, .undef, .undef, .undef, .undef, .undef, .undef, .undef, .undef, .undef, .undef, .undef, .undef, .undef, .undef, (.v (CV.int .i64 5)), (.v (CV.int .i64 v.1)), .undef, .undef, .undef, .undef, .undef, .undef, .undef, .undef, .undef, .undef, .undef, .undef, .undef, .undef, .undef, .undef, .undef, .undef, .undef, .undef, .undef, .undef, .undef, .undef, .undef, .undef, .undef, .undef, .undef, .undef, .undef, .undef, .undef, .undef, .undef, .undef, .undef, .undef, .undef, .undef, .undef, .undef, .undef, .undef, .undef, .undef, .undef, .undef, .undef, .undef, .undef, .undef, .undef, .undef, .undef, .undef, .undef, .undef, .undef, .undef, .undef, .undef, .undef, .undef, .undef, .undef, .undef, .undef, .undef, .undef, .undef, .undef, .undef, .undef], [([1], (.row false (some 4) v.2.1)), ([2], (.row false (some 4) v.2.2))]⟩
def f6_T1 {X : Type} (R_f14 : f14_R) (R_f16 : f16_R) (R_f15 : f15_R) (R_f7 : f7_R) (R_f18 : f18_R) (R_f17 : f17_R) (R_f8 : f8_R) (k : Nat) (K : Bool → Option X)   (rec1 : Int × (List CV) × (List CV) → Option X) (v6_2 : Int × (List CV) × (List CV)) : Option X :=
(bif (decide (v6_2.1 < 5)) then
grd (decide (0 ≤ v6_2.1)) <|
grd (decide (v6_2.1 < 5)) <|
Option.bind (v6_2.2.1)[(0 + (Int.toNat v6_2.1))]? fun e19 =>
grd (decide (0 ≤ v6_2.1)) <|
grd (decide (v6_2.1 < 5)) <|
Option.bind (v6_2.2.2)[(0 + (Int.toNat v6_2.1))]? fun e20 =>
R_f15 _ (fun u21 =>
(bif (!u21) then
K (false)
else
grd (decide (0 ≤ v6_2.1)) <|
grd (decide (v6_2.1 < 5)) <|
Option.bind (v6_2.2.1)[(0 + (Int.toNat v6_2.1))]? fun e22 =>
R_f7 _ (fun u23 =>
(bif (!u23) then
K (false)
else
rec1 ((IntKind.wrap .i64 (v6_2.1 + 1)), v6_2.2.1, v6_2.2.2))) (e22))) (e19) (e20)
else
R_f18 _ (fun u24 =>
grd (CV.isA 8 u24.1) <|
grd (CV.isI .i64 (CV.cellD 0 u24.1)) <|
grd (CV.isI .i64 (CV.cellD 1 u24.1)) <|
grd (CV.isB (CV.cellD 2 u24.1)) <|
grd (CV.isB (CV.cellD 3 u24.1)) <|
grd (CV.isB (CV.cellD 4 u24.1)) <|
grd (CV.isI .i64 (CV.cellD 5 u24.1)) <|
grd (CV.isI .i64 (CV.cellD 6 u24.1)) <|
grd (CV.isB (CV.cellD 7 u24.1)) <|
R_f17 _ (fun u25 =>
R_f17 _ (fun u26 =>
(bif u24.2 then
(bif ((CV.toI (CV.cellD 1 u24.1)) == 1) then
(bif ((CV.toI (CV.cellD 6 u24.1)) == 3) then
(bif (CV.toB (CV.cellD 2 u24.1)) then
(bif (!(CV.toB (CV.cellD 3 u24.1))) then
(bif u25.2.2.2.2.1 then
(bif (u25.2.1 == 1) then
(bif (!u26.2.2.2.2.1) then
R_f8 _ (fun u27 =>
K ((u27.1 == 1))) ((CV.agg [(CV.int .i64 (CV.toI (CV.cellD 0 u24.1))), (CV.int .i64 (CV.toI (CV.cellD 1 u24.1))), (CV.bool (CV.toB (CV.cellD 2 u24.1))), (CV.bool (CV.toB (CV.cellD 3 u24.1))), (CV.bool (CV.toB (CV.cellD 4 u24.1))), (CV.int .i64 (CV.toI (CV.cellD 5 u24.1))), (CV.int .i64 (CV.toI (CV.cellD 6 u24.1))), (CV.bool (CV.toB (CV.cellD 7 u24.1)))]))
else
K (false))
else
K (false))
else
K (false))
else
K (false))
else
K (false))
else
K (false))
else
K (false))
else
K (false))) ((List.take 5 (List.drop 0 v6_2.2.1))) (4)) ((List.take 5 (List.drop 0 v6_2.2.1))) (3)) ((List.take 5 (List.drop 0 v6_2.2.1))) (5) (3))
def f6_L1 {X : Type} (R_f14 : f14_R) (R_f16 : f16_R) (R_f15 : f15_R) (R_f7 : f7_R) (R_f18 : f18_R) (R_f17 : f17_R) (R_f8 : f8_R) (k : Nat) (K : Bool → Option X)  (rec1 : Int × (List CV) × (List CV) → Option X) (v : Int × (List CV) × (List CV)) : Option X := f6_T1 R_f14 R_f16 R_f15 R_f7 R_f18 R_f17 R_f8 k K   rec1 v
set_option maxRecDepth 100000 in
theorem f6_L1_ev {X : Type} (R_f14 : f14_R) (R_f16 : f16_R) (R_f15 : f15_R) (R_f7 : f7_R) (R_f18 : f18_R) (R_f17 : f17_R) (R_f8 : f8_R) (hR_f14 : AnsOk Try.prog 14 (f14_cOf R_f14)) (hR_f16 : AnsOk Try.prog 16 (f16_cOf R_f16)) (hR_f15 : AnsOk Try.prog 15 (f15_cOf R_f15)) (hR_f7 : AnsOk Try.prog 7 (f7_cOf R_f7)) (hR_f18 : AnsOk Try.prog 18 (f18_cOf R_f18)) (hR_f17 : AnsOk Try.prog 17 (f17_cOf R_f17)) (hR_f8 : AnsOk Try.prog 8 (f8_cOf R_f8)) (k : Nat) (K : Out → Option X)  (r1 : St → Option X) (v : Int × (List CV) × (List CV)) : loopB (f6_cx R_f14 R_f16 R_f15 R_f7 R_f18 R_f17 R_f8 hR_f14 hR_f16 hR_f15 hR_f7 hR_f18 hR_f17 hR_f8) k [.r, .r, .r, .l, .r, .b] (Try.f6.body.getD .skip) (retK (f6_cx R_f14 R_f16 R_f15 R_f7 R_f18 R_f17 R_f8 hR_f14 hR_f16 hR_f15 hR_f7 hR_f18 hR_f17 hR_f8) [] Try.f6.results.toList K) [] r1 (f6_S1 v) = f6_T1 R_f14 R_f16 R_f15 R_f7 R_f18 R_f17 R_f8 k (fun u => K (f6_out u))   (fun v => r1 (f6_S1 v)) v := by kernel_rfl
theorem f6_L1_it {X : Type} (R_f14 : f14_R) (R_f16 : f16_R) (R_f15 : f15_R) (R_f7 : f7_R) (R_f18 : f18_R) (R_f17 : f17_R) (R_f8 : f8_R) (hR_f14 : AnsOk Try.prog 14 (f14_cOf R_f14)) (hR_f16 : AnsOk Try.prog 16 (f16_cOf R_f16)) (hR_f15 : AnsOk Try.prog 15 (f15_cOf R_f15)) (hR_f7 : AnsOk Try.prog 7 (f7_cOf R_f7)) (hR_f18 : AnsOk Try.prog 18 (f18_cOf R_f18)) (hR_f17 : AnsOk Try.prog 17 (f17_cOf R_f17)) (hR_f8 : AnsOk Try.prog 8 (f8_cOf R_f8)) (k : Nat) (K : Out → Option X)  : (fun v => iter (loopB (f6_cx R_f14 R_f16 R_f15 R_f7 R_f18 R_f17 R_f8 hR_f14 hR_f16 hR_f15 hR_f7 hR_f18 hR_f17 hR_f8) k [.r, .r, .r, .l, .r, .b] (Try.f6.body.getD .skip) (retK (f6_cx R_f14 R_f16 R_f15 R_f7 R_f18 R_f17 R_f8 hR_f14 hR_f16 hR_f15 hR_f7 hR_f18 hR_f17 hR_f8) [] Try.f6.results.toList K) []) k (f6_S1 v)) = iterV (f6_L1 R_f14 R_f16 R_f15 R_f7 R_f18 R_f17 R_f8 k (fun u => K (f6_out u)) ) k :=
  iter_map (fun r1 v => (f6_L1_ev R_f14 R_f16 R_f15 R_f7 R_f18 R_f17 R_f8 hR_f14 hR_f16 hR_f15 hR_f7 hR_f18 hR_f17 hR_f8 k K  r1 v).trans rfl) k
def f6_T {X : Type} (R_f14 : f14_R) (R_f16 : f16_R) (R_f15 : f15_R) (R_f7 : f7_R) (R_f18 : f18_R) (R_f17 : f17_R) (R_f8 : f8_R) (k : Nat) (K : Bool → Option X) (loop1 : Int × (List CV) × (List CV) → Option X)  : Option X :=
R_f14 _ (fun u1 =>
R_f16 _ (fun u2 =>
loop1 (0, u1, u2)) ) 
/-- "outpost/outpostlaw18.alive" -/
def f6_A (R_f14 : f14_R) (R_f16 : f16_R) (R_f15 : f15_R) (R_f7 : f7_R) (R_f18 : f18_R) (R_f17 : f17_R) (R_f8 : f8_R) (k : Nat) : f6_R := fun X K  => f6_T R_f14 R_f16 R_f15 R_f7 R_f18 R_f17 R_f8 k K (iterV (f6_L1 R_f14 R_f16 R_f15 R_f7 R_f18 R_f17 R_f8 k K) k) 
set_option maxRecDepth 100000 in
theorem f6_ev' {X : Type} (R_f14 : f14_R) (R_f16 : f16_R) (R_f15 : f15_R) (R_f7 : f7_R) (R_f18 : f18_R) (R_f17 : f17_R) (R_f8 : f8_R) (hR_f14 : AnsOk Try.prog 14 (f14_cOf R_f14)) (hR_f16 : AnsOk Try.prog 16 (f16_cOf R_f16)) (hR_f15 : AnsOk Try.prog 15 (f15_cOf R_f15)) (hR_f7 : AnsOk Try.prog 7 (f7_cOf R_f7)) (hR_f18 : AnsOk Try.prog 18 (f18_cOf R_f18)) (hR_f17 : AnsOk Try.prog 17 (f17_cOf R_f17)) (hR_f8 : AnsOk Try.prog 8 (f8_cOf R_f8)) (k : Nat) (K : Out → Option X)  : evFn (f6_cx R_f14 R_f16 R_f15 R_f7 R_f18 R_f17 R_f8 hR_f14 hR_f16 hR_f15 hR_f7 hR_f18 hR_f17 hR_f8) [] k Try.f6.ntmps Try.f6.results.toList (Try.f6.body.getD .skip) [] [] K = f6_T R_f14 R_f16 R_f15 R_f7 R_f18 R_f17 R_f8 k (fun u => K (f6_out u)) (fun v => iter (loopB (f6_cx R_f14 R_f16 R_f15 R_f7 R_f18 R_f17 R_f8 hR_f14 hR_f16 hR_f15 hR_f7 hR_f18 hR_f17 hR_f8) k [.r, .r, .r, .l, .r, .b] (Try.f6.body.getD .skip) (retK (f6_cx R_f14 R_f16 R_f15 R_f7 R_f18 R_f17 R_f8 hR_f14 hR_f16 hR_f15 hR_f7 hR_f18 hR_f17 hR_f8) [] Try.f6.results.toList K) []) k (f6_S1 v))  := by kernel_rfl
theorem f6_ev {X : Type} (R_f14 : f14_R) (R_f16 : f16_R) (R_f15 : f15_R) (R_f7 : f7_R) (R_f18 : f18_R) (R_f17 : f17_R) (R_f8 : f8_R) (hR_f14 : AnsOk Try.prog 14 (f14_cOf R_f14)) (hR_f16 : AnsOk Try.prog 16 (f16_cOf R_f16)) (hR_f15 : AnsOk Try.prog 15 (f15_cOf R_f15)) (hR_f7 : AnsOk Try.prog 7 (f7_cOf R_f7)) (hR_f18 : AnsOk Try.prog 18 (f18_cOf R_f18)) (hR_f17 : AnsOk Try.prog 17 (f17_cOf R_f17)) (hR_f8 : AnsOk Try.prog 8 (f8_cOf R_f8)) (k : Nat) (K : Out → Option X)  : evFn (f6_cx R_f14 R_f16 R_f15 R_f7 R_f18 R_f17 R_f8 hR_f14 hR_f16 hR_f15 hR_f7 hR_f18 hR_f17 hR_f8) [] k Try.f6.ntmps Try.f6.results.toList (Try.f6.body.getD .skip) [] [] K = f6_A R_f14 R_f16 R_f15 R_f7 R_f18 R_f17 R_f8 k X (fun u => K (f6_out u))  := (f6_ev' R_f14 R_f16 R_f15 R_f7 R_f18 R_f17 R_f8 hR_f14 hR_f16 hR_f15 hR_f7 hR_f18 hR_f17 hR_f8 k K ).trans (by rw [f6_L1_it R_f14 R_f16 R_f15 R_f7 R_f18 R_f17 R_f8 hR_f14 hR_f16 hR_f15 hR_f7 hR_f18 hR_f17 hR_f8 k K]; rfl)
theorem f6_okA (R_f14 : f14_R) (R_f16 : f16_R) (R_f15 : f15_R) (R_f7 : f7_R) (R_f18 : f18_R) (R_f17 : f17_R) (R_f8 : f8_R) (hR_f14 : AnsOk Try.prog 14 (f14_cOf R_f14)) (hR_f16 : AnsOk Try.prog 16 (f16_cOf R_f16)) (hR_f15 : AnsOk Try.prog 15 (f15_cOf R_f15)) (hR_f7 : AnsOk Try.prog 7 (f7_cOf R_f7)) (hR_f18 : AnsOk Try.prog 18 (f18_cOf R_f18)) (hR_f17 : AnsOk Try.prog 17 (f17_cOf R_f17)) (hR_f8 : AnsOk Try.prog 8 (f8_cOf R_f8)) (k : Nat) : AnsOk Try.prog 6 (f6_cOf (f6_A R_f14 R_f16 R_f15 R_f7 R_f18 R_f17 R_f8 k)) := by
  intro X xs ns K x h
  unfold f6_cOf at h ⊢
  split at h
  · exact ans_main S (f6_Cok R_f14 R_f16 R_f15 R_f7 R_f18 R_f17 R_f8 hR_f14 hR_f16 hR_f15 hR_f7 hR_f18 hR_f17 hR_f8) Try.func6 (ent_of Try.func6 (by kernel_rfl) rfl) rfl (fun X K => f6_ev R_f14 R_f16 R_f15 R_f7 R_f18 R_f17 R_f8 hR_f14 hR_f16 hR_f15 hR_f7 hR_f18 hR_f17 hR_f8 k K ) h
  · cases h
/-- "outpost/outpostlaw18.alive" -/
def f6 {X : Type} (k : Nat) (K : Bool → Option X)  : Option X := f6_A (fun X => @f14 X k) (fun X => @f16 X k) (fun X => @f15 X k) (fun X => @f7 X k) (fun X => @f18 X k) (fun X => @f17 X k) (fun X => @f8 X k) k X K 
theorem f6_ok (k : Nat) : AnsOk Try.prog 6 (f6_cOf (fun X => @f6 X k)) := f6_okA (fun X => @f14 X k) (fun X => @f16 X k) (fun X => @f15 X k) (fun X => @f7 X k) (fun X => @f18 X k) (fun X => @f17 X k) (fun X => @f8 X k) (f14_ok k) (f16_ok k) (f15_ok k) (f7_ok k) (f18_ok k) (f17_ok k) (f8_ok k) k
abbrev f23_R : Type 1 := (X : Type) → (Nat × (List CV) → Option X) → (List CV) → Option X
def f23_out (u : Nat × (List CV)) : Out := ⟨(.osl [2000] none 0 u.1), [([2000], (.row false none u.2))]⟩
def f23_cOf (R : f23_R) : FnC := fun X xs ns K => match xs, ns with
  | [(.sl false none x0)], [] => R X (fun u => K (f23_out u)) x0
  | _, _ => none
def f23_plan : Nat → Option (List Nat × List Wk)
  | 0 => some ([0], [])
  | 1 => some ([0], [])
  | 2 => some ([0, 3], [])
  | 3 => some ([0, 3, 4], [])
  | 4 => some ([0, 3, 4], [])
  | 5 => some ([0, 3, 4], [])
  | 6 => some ([3], [])
  | _ => none
def f23_C : Fns := noC
theorem f23_Cok : CsOk Try.prog (f23_C) := noC_ok
def f23_cx : Cx := mkCx (tabOf rows) (f23_C) md (cmpIn cmps) f23_plan (f23_Cok)
def f23_S1 (v : (List CV) × Nat × Int × (List CV)) : St := ⟨[(.sl false none v.1), .undef, .undef, (.osl [3] none 0 v.2.1), (.v (CV.int .i64 v.2.2.1)), .undef, .undef, .undef, .undef, .undef, .undef, .undef, .undef, .undef, .undef, .undef, .undef, .undef, .undef, .undef], [([3], (.row false none v.2.2.2))]⟩
def f23_T1 {X : Type} (k : Nat) (K : Nat × (List CV) → Option X)   (rec1 : (List CV) × Nat × Int × (List CV) → Option X) (v5_0 : (List CV) × Nat × Int × (List CV)) : Option X :=
(bif (decide (v5_0.2.2.1 < (Nat.cast ((List.length v5_0.1)) : Int))) then
grd (decide (0 ≤ v5_0.2.2.1)) <|
Option.bind (v5_0.1)[(Int.toNat v5_0.2.2.1)]? fun e5 =>
grd (CV.isI .u8 e5) <|
grd (decide ((v5_0.2.1 + (List.length (List.take 1 (List.drop 0 [(CV.int .u8 (CV.toI e5))])))) * 1 ≤ 140737488355328)) <|
rec1 (v5_0.1, (v5_0.2.1 + (List.length (List.take 1 (List.drop 0 [(CV.int .u8 (CV.toI e5))])))), (IntKind.wrap .i64 (v5_0.2.2.1 + 1)), ((List.take v5_0.2.1 v5_0.2.2.2) ++ (List.take 1 (List.drop 0 [(CV.int .u8 (CV.toI e5))]))))
else
K (v5_0.2.1, (List.take (0 + v5_0.2.1) v5_0.2.2.2)))
def f23_L1 {X : Type} (k : Nat) (K : Nat × (List CV) → Option X)  (rec1 : (List CV) × Nat × Int × (List CV) → Option X) (v : (List CV) × Nat × Int × (List CV)) : Option X := f23_T1 k K   rec1 v
set_option maxRecDepth 100000 in
theorem f23_L1_ev {X : Type} (k : Nat) (K : Out → Option X)  (r1 : St → Option X) (v : (List CV) × Nat × Int × (List CV)) : loopB (f23_cx) k [.r, .r, .l, .r, .b] (Try.f23.body.getD .skip) (retK (f23_cx) [] Try.f23.results.toList K) [] r1 (f23_S1 v) = f23_T1 k (fun u => K (f23_out u))   (fun v => r1 (f23_S1 v)) v := by kernel_rfl
theorem f23_L1_it {X : Type} (k : Nat) (K : Out → Option X)  : (fun v => iter (loopB (f23_cx) k [.r, .r, .l, .r, .b] (Try.f23.body.getD .skip) (retK (f23_cx) [] Try.f23.results.toList K) []) k (f23_S1 v)) = iterV (f23_L1 k (fun u => K (f23_out u)) ) k :=
  iter_map (fun r1 v => (f23_L1_ev k K  r1 v).trans rfl) k
def f23_T {X : Type} (k : Nat) (K : Nat × (List CV) → Option X) (loop1 : (List CV) × Nat × Int × (List CV) → Option X) (x0 : List CV) : Option X :=
loop1 (x0, 0, 0, [])
/-- "outpost/outpostref01.Copy" -/
def f23_A (k : Nat) : f23_R := fun X K x0 => f23_T k K (iterV (f23_L1 k K) k) x0
set_option maxRecDepth 100000 in
theorem f23_ev' {X : Type} (k : Nat) (K : Out → Option X) (x0 : List CV) : evFn (f23_cx) [] k Try.f23.ntmps Try.f23.results.toList (Try.f23.body.getD .skip) [(.sl false none x0)] [] K = f23_T k (fun u => K (f23_out u)) (fun v => iter (loopB (f23_cx) k [.r, .r, .l, .r, .b] (Try.f23.body.getD .skip) (retK (f23_cx) [] Try.f23.results.toList K) []) k (f23_S1 v)) x0 := by kernel_rfl
theorem f23_ev {X : Type} (k : Nat) (K : Out → Option X) (x0 : List CV) : evFn (f23_cx) [] k Try.f23.ntmps Try.f23.results.toList (Try.f23.body.getD .skip) [(.sl false none x0)] [] K = f23_A k X (fun u => K (f23_out u)) x0 := (f23_ev' k K x0).trans (by rw [f23_L1_it k K]; rfl)
theorem f23_okA (k : Nat) : AnsOk Try.prog 23 (f23_cOf (f23_A k)) := by
  intro X xs ns K x h
  unfold f23_cOf at h ⊢
  split at h
  · exact ans_main S (f23_Cok) Try.func23 (ent_of Try.func23 (by kernel_rfl) rfl) rfl (fun X K => f23_ev k K _) h
  · cases h
/-- "outpost/outpostref01.Copy" -/
def f23 {X : Type} (k : Nat) (K : Nat × (List CV) → Option X) (x0 : List CV) : Option X := f23_A k X K x0
theorem f23_ok (k : Nat) : AnsOk Try.prog 23 (f23_cOf (fun X => @f23 X k)) := f23_okA k
abbrev f10_R : Type 1 := (X : Type) → (Int × Int × ByteArray × Nat × (List CV) → Option X) → CV → Option X
def f10_out (u : Int × Int × ByteArray × Nat × (List CV)) : Out := ⟨(.agg [(.v (CV.int .i64 u.1)), (.v (CV.int .i64 u.2.1)), (.v (CV.str u.2.2.1)), (.osl [3, 2000] none 0 u.2.2.2.1), (.v (CV.int .i64 0)), (.v (CV.int .i64 0))]), [([3, 2000], (.row false none u.2.2.2.2))]⟩
def f10_cOf (R : f10_R) : FnC := fun X xs ns K => match xs, ns with
  | [(.v x0)], [] => R X (fun u => K (f10_out u)) x0
  | _, _ => none
def f10_plan : Nat → Option (List Nat × List Wk)
  | 0 => some ([0], [])
  | 1 => some ([1, 2], [])
  | 2 => some ([1, 2, 3], [])
  | 3 => some ([1, 2, 3], [])
  | 4 => some ([1, 2, 3], [])
  | 5 => some ([1, 2, 3, 17], [])
  | 6 => some ([1, 2, 3, 17], [])
  | 7 => some ([1, 2], [])
  | 8 => some ([1, 2, 3, 17], [])
  | 9 => some ([1, 2, 3, 17], [])
  | 10 => some ([1, 2], [])
  | 11 => some ([2, 3, 17], [])
  | 12 => some ([2, 3], [])
  | 13 => some ([2, 3, 4], [])
  | 14 => some ([2, 3, 4, 5], [])
  | 15 => some ([2, 3, 4, 5], [])
  | 16 => some ([2, 3, 4, 5], [])
  | 17 => some ([2, 4], [])
  | 18 => some ([2, 3, 17], [])
  | 19 => some ([2, 3], [])
  | 20 => some ([2], [])
  | _ => none
def f10_C (R_f23 : f23_R) : Fns := (orC 23 (f23_cOf R_f23) noC)
theorem f10_Cok (R_f23 : f23_R) (hR_f23 : AnsOk Try.prog 23 (f23_cOf R_f23)) : CsOk Try.prog (f10_C R_f23) := (orC_ok hR_f23 noC_ok)
def f10_cx (R_f23 : f23_R) (hR_f23 : AnsOk Try.prog 23 (f23_cOf R_f23)) : Cx := mkCx (tabOf rows) (f10_C R_f23) md (cmpIn cmps) f10_plan (f10_Cok R_f23 hR_f23)
def f10_S1 (v : Int × Int × Int × Bool × Bool × Bool × Int × Int × Bool) : St := ⟨[.undef, (.ptr [1] 0 0 0), (.ptr [2] 0 0 0), (.v (CV.int .i64 v.1)), .undef, .undef, .undef, .undef, .undef, .undef, .undef, .undef, .undef, .undef, .undef, .undef, .undef, .undef, .undef, .undef, .undef, .undef, .undef, .undef, .undef, .undef, .undef, .undef, .undef, .undef, .undef, .undef, .undef, .undef, .undef, .undef, .undef, .undef, .undef, .undef, .undef, .undef, .undef, .undef, .undef, .undef, .undef, .undef, .undef, .undef], [([1], (.obj [(.v (CV.int .i64 v.2.1)), (.v (CV.int .i64 v.2.2.1)), (.v (CV.bool v.2.2.2.1)), (.v (CV.bool v.2.2.2.2.1)), (.v (CV.bool v.2.2.2.2.2.1)), (.v (CV.int .i64 v.2.2.2.2.2.2.1)), (.v (CV.int .i64 v.2.2.2.2.2.2.2.1)), (.v (CV.bool v.2.2.2.2.2.2.2.2))])), ([2], (.obj [(.v (CV.int .i64 0)), (.v (CV.int .i64 0)), (.v (CV.str ⟨#[]⟩)), (.osl [3, 2] none 0 0), (.v (CV.int .i64 0)), (.v (CV.int .i64 0))])), ([3, 2], (.row false none []))]⟩
def f10_S2 (v : Int × ByteArray × Int) : St := ⟨[.undef, .undef, (.ptr [2] 0 0 0), (.v (CV.int .i64 v.1)), (.v (CV.str v.2.1)), (.v (CV.int .i64 v.2.2)), .undef, .undef, .undef, .undef, .undef, .undef, .undef, .undef, .undef, .undef, .undef, .undef, .undef, .undef, .undef, .undef, .undef, .undef, .undef, .undef, .undef, .undef, .undef, .undef, .undef, .undef, .undef, .undef, .undef, .undef, .undef, .undef, .undef, .undef, .undef, .undef, .undef, .undef, .undef, .undef, .undef, .undef, .undef, .undef], [([2], (.obj [(.v (CV.int .i64 0)), (.v (CV.int .i64 0)), (.v (CV.str ⟨#[]⟩)), (.osl [3, 2] none 0 0), (.v (CV.int .i64 0)), (.v (CV.int .i64 0))])), ([3, 2], (.row false none []))]⟩
def f10_S3 (v : Int × ByteArray × Int) : St := ⟨[.undef, .undef, (.ptr [2] 0 0 0), (.v (CV.int .i64 v.1)), (.v (CV.str v.2.1)), (.v (CV.int .i64 v.2.2)), .undef, .undef, .undef, .undef, .undef, .undef, .undef, .undef, .undef, .undef, .undef, .undef, .undef, .undef, .undef, .undef, .undef, .undef, .undef, .undef, .undef, .undef, .undef, .undef, .undef, .undef, .undef, .undef, .undef, .undef, .undef, .undef, .undef, .undef, .undef, .undef, .undef, .undef, .undef, .undef, .undef, .undef, .undef, .undef], [([2], (.obj [(.v (CV.int .i64 0)), (.v (CV.int .i64 0)), (.v (CV.str ⟨#[]⟩)), (.osl [3, 2] none 0 0), (.v (CV.int .i64 0)), (.v (CV.int .i64 0))])), ([3, 2], (.row false none []))]⟩
def f10_J1 {X : Type} (R_f23 : f23_R) (k : Nat) (K : Int × Int × ByteArray × Nat × (List CV) → Option X) (loop2 : Int × ByteArray × Int → Option X) (v4_0 : Int × Int × Int × Bool × Bool × Bool × Int × Int × Bool) (v3 : Bool) : Option X :=
(bif v3 then
K (v4_0.2.2.1, 0, ⟨#[]⟩, 0, (List.take 0 []))
else
(bif (v4_0.2.2.1 == 3) then
loop2 (v4_0.1, ⟨#[]⟩, 0)
else
(bif (v4_0.2.2.1 == 4) then
grd (decide (0 ≤ v4_0.1)) <|
grd (decide (v4_0.1 ≤ v4_0.1)) <|
grd (decide ((v4_0.1 * 1) ≤ 140737488355328)) <|
R_f23 _ (fun u5 =>
K (4, 0, ⟨#[]⟩, u5.1, (List.take (0 + u5.1) u5.2))) ((List.take (Int.toNat v4_0.1) (List.drop 0 (List.replicate (Int.toNat v4_0.1) (CV.int .u8 0)))))
else
K (0, 0, ⟨#[]⟩, 0, (List.take 0 [])))))
def f10_J2 {X : Type} (R_f23 : f23_R) (k : Nat) (K : Int × Int × ByteArray × Nat × (List CV) → Option X) (loop2 : Int × ByteArray × Int → Option X) (v4_0 : Int × Int × Int × Bool × Bool × Bool × Int × Int × Bool) (v2 : Bool) : Option X :=
(bif v2 then
K (v4_0.2.2.1, v4_0.2.2.2.2.2.2.1, ⟨#[]⟩, 0, (List.take 0 []))
else
(bif (v4_0.2.2.1 == 2) then
f10_J1 R_f23 k K loop2 v4_0 ((v4_0.2.2.1 == 2))
else
f10_J1 R_f23 k K loop2 v4_0 ((v4_0.2.2.1 == 6))))
def f10_J3 {X : Type} (R_f23 : f23_R) (k : Nat) (K : Int × Int × ByteArray × Nat × (List CV) → Option X) (loop3 : Int × ByteArray × Int → Option X) (v4_0 : Int × Int × Int × Bool × Bool × Bool × Int × Int × Bool) (v7 : Bool) : Option X :=
(bif v7 then
K (v4_0.2.2.1, 0, ⟨#[]⟩, 0, (List.take 0 []))
else
(bif (v4_0.2.2.1 == 3) then
loop3 (v4_0.1, ⟨#[]⟩, 0)
else
(bif (v4_0.2.2.1 == 4) then
grd (decide (0 ≤ v4_0.1)) <|
grd (decide (v4_0.1 ≤ v4_0.1)) <|
grd (decide ((v4_0.1 * 1) ≤ 140737488355328)) <|
R_f23 _ (fun u9 =>
K (4, 0, ⟨#[]⟩, u9.1, (List.take (0 + u9.1) u9.2))) ((List.take (Int.toNat v4_0.1) (List.drop 0 (List.replicate (Int.toNat v4_0.1) (CV.int .u8 0)))))
else
K (0, 0, ⟨#[]⟩, 0, (List.take 0 [])))))
def f10_J4 {X : Type} (R_f23 : f23_R) (k : Nat) (K : Int × Int × ByteArray × Nat × (List CV) → Option X) (loop3 : Int × ByteArray × Int → Option X) (v4_0 : Int × Int × Int × Bool × Bool × Bool × Int × Int × Bool) (v6 : Bool) : Option X :=
(bif v6 then
K (v4_0.2.2.1, v4_0.2.2.2.2.2.2.1, ⟨#[]⟩, 0, (List.take 0 []))
else
(bif (v4_0.2.2.1 == 2) then
f10_J3 R_f23 k K loop3 v4_0 ((v4_0.2.2.1 == 2))
else
f10_J3 R_f23 k K loop3 v4_0 ((v4_0.2.2.1 == 6))))
def f10_T3 {X : Type} (R_f23 : f23_R) (k : Nat) (K : Int × Int × ByteArray × Nat × (List CV) → Option X)   (rec3 : Int × ByteArray × Int → Option X) (v16_7 : Int × ByteArray × Int) : Option X :=
(bif (decide (v16_7.2.2 < v16_7.1)) then
grd (decide (v16_7.2.1.size + (⟨#[120]⟩ : ByteArray).size ≤ 9223372036854775807)) <|
rec3 (v16_7.1, (v16_7.2.1 ++ (⟨#[120]⟩ : ByteArray)), (IntKind.wrap .i64 (v16_7.2.2 + 1)))
else
K (3, 0, v16_7.2.1, 0, (List.take 0 [])))
def f10_L3 {X : Type} (R_f23 : f23_R) (k : Nat) (K : Int × Int × ByteArray × Nat × (List CV) → Option X)  (rec3 : Int × ByteArray × Int → Option X) (v : Int × ByteArray × Int) : Option X := f10_T3 R_f23 k K   rec3 v
set_option maxRecDepth 100000 in
theorem f10_L3_ev {X : Type} (R_f23 : f23_R) (hR_f23 : AnsOk Try.prog 23 (f23_cOf R_f23)) (k : Nat) (K : Out → Option X)  (r3 : St → Option X) (v : Int × ByteArray × Int) : loopB (f10_cx R_f23 hR_f23) k [.r, .r, .r, .l, .r, .b, .r, .e, .r, .e, .r, .t, .r, .l, .r, .b] (Try.f10.body.getD .skip) (retK (f10_cx R_f23 hR_f23) [] Try.f10.results.toList K) [] r3 (f10_S3 v) = f10_T3 R_f23 k (fun u => K (f10_out u))   (fun v => r3 (f10_S3 v)) v := by kernel_rfl
theorem f10_L3_it {X : Type} (R_f23 : f23_R) (hR_f23 : AnsOk Try.prog 23 (f23_cOf R_f23)) (k : Nat) (K : Out → Option X)  : (fun v => iter (loopB (f10_cx R_f23 hR_f23) k [.r, .r, .r, .l, .r, .b, .r, .e, .r, .e, .r, .t, .r, .l, .r, .b] (Try.f10.body.getD .skip) (retK (f10_cx R_f23 hR_f23) [] Try.f10.results.toList K) []) k (f10_S3 v)) = iterV (f10_L3 R_f23 k (fun u => K (f10_out u)) ) k :=
  iter_map (fun r3 v => (f10_L3_ev R_f23 hR_f23 k K  r3 v).trans rfl) k
def f10_T2 {X : Type} (R_f23 : f23_R) (k : Nat) (K : Int × Int × ByteArray × Nat × (List CV) → Option X)   (rec2 : Int × ByteArray × Int → Option X) (v16_3 : Int × ByteArray × Int) : Option X :=
(bif (decide (v16_3.2.2 < v16_3.1)) then
grd (decide (v16_3.2.1.size + (⟨#[120]⟩ : ByteArray).size ≤ 9223372036854775807)) <|
rec2 (v16_3.1, (v16_3.2.1 ++ (⟨#[120]⟩ : ByteArray)), (IntKind.wrap .i64 (v16_3.2.2 + 1)))
else
K (3, 0, v16_3.2.1, 0, (List.take 0 [])))
def f10_L2 {X : Type} (R_f23 : f23_R) (k : Nat) (K : Int × Int × ByteArray × Nat × (List CV) → Option X)  (rec2 : Int × ByteArray × Int → Option X) (v : Int × ByteArray × Int) : Option X := f10_T2 R_f23 k K   rec2 v
set_option maxRecDepth 100000 in
theorem f10_L2_ev {X : Type} (R_f23 : f23_R) (hR_f23 : AnsOk Try.prog 23 (f23_cOf R_f23)) (k : Nat) (K : Out → Option X)  (r2 : St → Option X) (v : Int × ByteArray × Int) : loopB (f10_cx R_f23 hR_f23) k [.r, .r, .r, .l, .r, .b, .r, .e, .r, .e, .r, .t, .r, .l, .r, .b] (Try.f10.body.getD .skip) (retK (f10_cx R_f23 hR_f23) [] Try.f10.results.toList K) [] r2 (f10_S2 v) = f10_T2 R_f23 k (fun u => K (f10_out u))   (fun v => r2 (f10_S2 v)) v := by kernel_rfl
theorem f10_L2_it {X : Type} (R_f23 : f23_R) (hR_f23 : AnsOk Try.prog 23 (f23_cOf R_f23)) (k : Nat) (K : Out → Option X)  : (fun v => iter (loopB (f10_cx R_f23 hR_f23) k [.r, .r, .r, .l, .r, .b, .r, .e, .r, .e, .r, .t, .r, .l, .r, .b] (Try.f10.body.getD .skip) (retK (f10_cx R_f23 hR_f23) [] Try.f10.results.toList K) []) k (f10_S2 v)) = iterV (f10_L2 R_f23 k (fun u => K (f10_out u)) ) k :=
  iter_map (fun r2 v => (f10_L2_ev R_f23 hR_f23 k K  r2 v).trans rfl) k
def f10_T1 {X : Type} (R_f23 : f23_R) (k : Nat) (K : Int × Int × ByteArray × Nat × (List CV) → Option X)  (loop2 : Int × ByteArray × Int → Option X) (loop3 : Int × ByteArray × Int → Option X) (rec1 : Int × Int × Int × Bool × Bool × Bool × Int × Int × Bool → Option X) (v4_0 : Int × Int × Int × Bool × Bool × Bool × Int × Int × Bool) : Option X :=
(bif (decide (v4_0.1 < v4_0.2.2.2.2.2.2.1)) then
(bif (decide (v4_0.1 < 200)) then
rec1 ((IntKind.wrap .i64 (v4_0.1 + 1)), v4_0.2.1, v4_0.2.2.1, v4_0.2.2.2.1, v4_0.2.2.2.2.1, v4_0.2.2.2.2.2.1, v4_0.2.2.2.2.2.2.1, v4_0.2.2.2.2.2.2.2.1, v4_0.2.2.2.2.2.2.2.2)
else
(bif (v4_0.2.2.1 == 1) then
f10_J2 R_f23 k K loop2 v4_0 ((v4_0.2.2.1 == 1))
else
f10_J2 R_f23 k K loop2 v4_0 ((v4_0.2.2.1 == 5))))
else
(bif (v4_0.2.2.1 == 1) then
f10_J4 R_f23 k K loop3 v4_0 ((v4_0.2.2.1 == 1))
else
f10_J4 R_f23 k K loop3 v4_0 ((v4_0.2.2.1 == 5))))
def f10_L1 {X : Type} (R_f23 : f23_R) (k : Nat) (K : Int × Int × ByteArray × Nat × (List CV) → Option X)  (rec1 : Int × Int × Int × Bool × Bool × Bool × Int × Int × Bool → Option X) (v : Int × Int × Int × Bool × Bool × Bool × Int × Int × Bool) : Option X := f10_T1 R_f23 k K  (iterV (f10_L2 R_f23 k K ) k) (iterV (f10_L3 R_f23 k K ) k) rec1 v
set_option maxRecDepth 100000 in
theorem f10_L1_ev {X : Type} (R_f23 : f23_R) (hR_f23 : AnsOk Try.prog 23 (f23_cOf R_f23)) (k : Nat) (K : Out → Option X)  (r1 : St → Option X) (v : Int × Int × Int × Bool × Bool × Bool × Int × Int × Bool) : loopB (f10_cx R_f23 hR_f23) k [.r, .r, .l, .b] (Try.f10.body.getD .skip) (retK (f10_cx R_f23 hR_f23) [] Try.f10.results.toList K) [] r1 (f10_S1 v) = f10_T1 R_f23 k (fun u => K (f10_out u))  (fun v => iter (loopB (f10_cx R_f23 hR_f23) k [.r, .r, .r, .l, .r, .b, .r, .e, .r, .e, .r, .t, .r, .l, .r, .b] (Try.f10.body.getD .skip) (retK (f10_cx R_f23 hR_f23) [] Try.f10.results.toList K) []) k (f10_S2 v)) (fun v => iter (loopB (f10_cx R_f23 hR_f23) k [.r, .r, .r, .l, .r, .b, .r, .e, .r, .e, .r, .t, .r, .l, .r, .b] (Try.f10.body.getD .skip) (retK (f10_cx R_f23 hR_f23) [] Try.f10.results.toList K) []) k (f10_S3 v)) (fun v => r1 (f10_S1 v)) v := by kernel_rfl
theorem f10_L1_it {X : Type} (R_f23 : f23_R) (hR_f23 : AnsOk Try.prog 23 (f23_cOf R_f23)) (k : Nat) (K : Out → Option X)  : (fun v => iter (loopB (f10_cx R_f23 hR_f23) k [.r, .r, .l, .b] (Try.f10.body.getD .skip) (retK (f10_cx R_f23 hR_f23) [] Try.f10.results.toList K) []) k (f10_S1 v)) = iterV (f10_L1 R_f23 k (fun u => K (f10_out u)) ) k :=
  iter_map (fun r1 v => (f10_L1_ev R_f23 hR_f23 k K  r1 v).trans (by rw [f10_L2_it R_f23 hR_f23 k K , f10_L3_it R_f23 hR_f23 k K ]; rfl)) k
def f10_T {X : Type} (R_f23 : f23_R) (k : Nat) (K : Int × Int × ByteArray × Nat × (List CV) → Option X) (loop1 : Int × Int × Int × Bool × Bool × Bool × Int × Int × Bool → Option X) (x0 : CV) : Option X :=
grd (CV.isA 8 x0) <|
grd (CV.isI .i64 (CV.cellD 0 x0)) <|
grd (CV.isI .i64 (CV.cellD 1 x0)) <|
grd (CV.isB (CV.cellD 2 x0)) <|
grd (CV.isB (CV.cellD 3 x0)) <|
grd (CV.isB (CV.cellD 4 x0)) <|
grd (CV.isI .i64 (CV.cellD 5 x0)) <|
grd (CV.isI .i64 (CV.cellD 6 x0)) <|
grd (CV.isB (CV.cellD 7 x0)) <|
loop1 (0, (CV.toI (CV.cellD 0 x0)), (CV.toI (CV.cellD 1 x0)), (CV.toB (CV.cellD 2 x0)), (CV.toB (CV.cellD 3 x0)), (CV.toB (CV.cellD 4 x0)), (CV.toI (CV.cellD 5 x0)), (CV.toI (CV.cellD 6 x0)), (CV.toB (CV.cellD 7 x0)))
/-- "outpost/outpostref18.Blank" -/
def f10_A (R_f23 : f23_R) (k : Nat) : f10_R := fun X K x0 => f10_T R_f23 k K (iterV (f10_L1 R_f23 k K) k) x0
set_option maxRecDepth 100000 in
theorem f10_ev' {X : Type} (R_f23 : f23_R) (hR_f23 : AnsOk Try.prog 23 (f23_cOf R_f23)) (k : Nat) (K : Out → Option X) (x0 : CV) : evFn (f10_cx R_f23 hR_f23) [] k Try.f10.ntmps Try.f10.results.toList (Try.f10.body.getD .skip) [(.v x0)] [] K = f10_T R_f23 k (fun u => K (f10_out u)) (fun v => iter (loopB (f10_cx R_f23 hR_f23) k [.r, .r, .l, .b] (Try.f10.body.getD .skip) (retK (f10_cx R_f23 hR_f23) [] Try.f10.results.toList K) []) k (f10_S1 v)) x0 := by kernel_rfl
theorem f10_ev {X : Type} (R_f23 : f23_R) (hR_f23 : AnsOk Try.prog 23 (f23_cOf R_f23)) (k : Nat) (K : Out → Option X) (x0 : CV) : evFn (f10_cx R_f23 hR_f23) [] k Try.f10.ntmps Try.f10.results.toList (Try.f10.body.getD .skip) [(.v x0)] [] K = f10_A R_f23 k X (fun u => K (f10_out u)) x0 := (f10_ev' R_f23 hR_f23 k K x0).trans (by rw [f10_L1_it R_f23 hR_f23 k K]; rfl)
theorem f10_okA (R_f23 : f23_R) (hR_f23 : AnsOk Try.prog 23 (f23_cOf R_f23)) (k : Nat) : AnsOk Try.prog 10 (f10_cOf (f10_A R_f23 k)) := by
  intro X xs ns K x h
  unfold f10_cOf at h ⊢
  split at h
  · exact ans_main S (f10_Cok R_f23 hR_f23) Try.func10 (ent_of Try.func10 (by kernel_rfl) rfl) rfl (fun X K => f10_ev R_f23 hR_f23 k K _) h
  · cases h
/-- "outpost/outpostref18.Blank" -/
def f10 {X : Type} (k : Nat) (K : Int × Int × ByteArray × Nat × (List CV) → Option X) (x0 : CV) : Option X := f10_A (fun X => @f23 X k) k X K x0
theorem f10_ok (k : Nat) : AnsOk Try.prog 10 (f10_cOf (fun X => @f10 X k)) := f10_okA (fun X => @f23 X k) (f23_ok k) k
abbrev f22_R : Type 1 := (X : Type) → (Bool → Option X) → (List CV) → (List CV) → Option X
def f22_out (u : Bool) : Out := ⟨(.v (CV.bool u)), []⟩
def f22_cOf (R : f22_R) : FnC := fun X xs ns K => match xs, ns with
  | [(.sl false none x0), (.sl false none x1)], [] => R X (fun u => K (f22_out u)) x0 x1
  | _, _ => none
def f22_plan : Nat → Option (List Nat × List Wk)
  | 0 => some ([0, 1], [])
  | 1 => some ([0, 1], [])
  | 2 => some ([], [])
  | 3 => some ([0, 1], [])
  | 4 => some ([0, 1, 5], [])
  | 5 => some ([0, 1, 5], [])
  | 6 => some ([0, 1, 5], [])
  | 7 => some ([], [])
  | 8 => some ([], [])
  | _ => none
def f22_C : Fns := noC
theorem f22_Cok : CsOk Try.prog (f22_C) := noC_ok
def f22_cx : Cx := mkCx (tabOf rows) (f22_C) md (cmpIn cmps) f22_plan (f22_Cok)
def f22_S1 (v : (List CV) × (List CV) × Int) : St := ⟨[(.sl false none v.1), (.sl false none v.2.1), .undef, .undef, .undef, (.v (CV.int .i64 v.2.2)), .undef, .undef, .undef, .undef, .undef, .undef, .undef, .undef, .undef, .undef, .undef, .undef, .undef, .undef, .undef, .undef, .undef, .undef, .undef, .undef], []⟩
def f22_T1 {X : Type} (k : Nat) (K : Bool → Option X)   (rec1 : (List CV) × (List CV) × Int → Option X) (v5_0 : (List CV) × (List CV) × Int) : Option X :=
(bif (decide (v5_0.2.2 < (Nat.cast ((List.length v5_0.1)) : Int))) then
grd (decide (0 ≤ v5_0.2.2)) <|
Option.bind (v5_0.1)[(Int.toNat v5_0.2.2)]? fun e8 =>
grd (CV.isI .u8 e8) <|
grd (decide (0 ≤ v5_0.2.2)) <|
Option.bind (v5_0.2.1)[(Int.toNat v5_0.2.2)]? fun e9 =>
grd (CV.isI .u8 e9) <|
(bif ((CV.toI e8) != (CV.toI e9)) then
K (false)
else
rec1 (v5_0.1, v5_0.2.1, (IntKind.wrap .i64 (v5_0.2.2 + 1))))
else
K (true))
def f22_L1 {X : Type} (k : Nat) (K : Bool → Option X)  (rec1 : (List CV) × (List CV) × Int → Option X) (v : (List CV) × (List CV) × Int) : Option X := f22_T1 k K   rec1 v
set_option maxRecDepth 100000 in
theorem f22_L1_ev {X : Type} (k : Nat) (K : Out → Option X)  (r1 : St → Option X) (v : (List CV) × (List CV) × Int) : loopB (f22_cx) k [.r, .r, .l, .r, .b] (Try.f22.body.getD .skip) (retK (f22_cx) [] Try.f22.results.toList K) [] r1 (f22_S1 v) = f22_T1 k (fun u => K (f22_out u))   (fun v => r1 (f22_S1 v)) v := by kernel_rfl
theorem f22_L1_it {X : Type} (k : Nat) (K : Out → Option X)  : (fun v => iter (loopB (f22_cx) k [.r, .r, .l, .r, .b] (Try.f22.body.getD .skip) (retK (f22_cx) [] Try.f22.results.toList K) []) k (f22_S1 v)) = iterV (f22_L1 k (fun u => K (f22_out u)) ) k :=
  iter_map (fun r1 v => (f22_L1_ev k K  r1 v).trans rfl) k
def f22_T {X : Type} (k : Nat) (K : Bool → Option X) (loop1 : (List CV) × (List CV) × Int → Option X) (x0 : List CV) (x1 : List CV) : Option X :=
(bif ((Nat.cast ((List.length x0)) : Int) != (Nat.cast ((List.length x1)) : Int)) then
K (false)
else
loop1 (x0, x1, 0))
/-- "outpost/outpostref01.Same" -/
def f22_A (k : Nat) : f22_R := fun X K x0 x1 => f22_T k K (iterV (f22_L1 k K) k) x0 x1
set_option maxRecDepth 100000 in
theorem f22_ev' {X : Type} (k : Nat) (K : Out → Option X) (x0 : List CV) (x1 : List CV) : evFn (f22_cx) [] k Try.f22.ntmps Try.f22.results.toList (Try.f22.body.getD .skip) [(.sl false none x0), (.sl false none x1)] [] K = f22_T k (fun u => K (f22_out u)) (fun v => iter (loopB (f22_cx) k [.r, .r, .l, .r, .b] (Try.f22.body.getD .skip) (retK (f22_cx) [] Try.f22.results.toList K) []) k (f22_S1 v)) x0 x1 := by kernel_rfl
theorem f22_ev {X : Type} (k : Nat) (K : Out → Option X) (x0 : List CV) (x1 : List CV) : evFn (f22_cx) [] k Try.f22.ntmps Try.f22.results.toList (Try.f22.body.getD .skip) [(.sl false none x0), (.sl false none x1)] [] K = f22_A k X (fun u => K (f22_out u)) x0 x1 := (f22_ev' k K x0 x1).trans (by rw [f22_L1_it k K]; rfl)
theorem f22_okA (k : Nat) : AnsOk Try.prog 22 (f22_cOf (f22_A k)) := by
  intro X xs ns K x h
  unfold f22_cOf at h ⊢
  split at h
  · exact ans_main S (f22_Cok) Try.func22 (ent_of Try.func22 (by kernel_rfl) rfl) rfl (fun X K => f22_ev k K _ _) h
  · cases h
/-- "outpost/outpostref01.Same" -/
def f22 {X : Type} (k : Nat) (K : Bool → Option X) (x0 : List CV) (x1 : List CV) : Option X := f22_A k X K x0 x1
theorem f22_ok (k : Nat) : AnsOk Try.prog 22 (f22_cOf (fun X => @f22 X k)) := f22_okA k
abbrev f9_R : Type 1 := (X : Type) → (Bool → Option X) → Int → Int → ByteArray → (List CV) → Int → Int → Int → Int → ByteArray → (List CV) → Int → Int → Option X
def f9_out (u : Bool) : Out := ⟨(.v (CV.bool u)), []⟩
def f9_cOf (R : f9_R) : FnC := fun X xs ns K => match xs, ns with
  | [(.agg [(.v (CV.int .i64 x0)), (.v (CV.int .i64 x1)), (.v (CV.str x2)), (.sl false none x3), (.v (CV.int .i64 x4)), (.v (CV.int .i64 x5))]), (.agg [(.v (CV.int .i64 x6)), (.v (CV.int .i64 x7)), (.v (CV.str x8)), (.sl false none x9), (.v (CV.int .i64 x10)), (.v (CV.int .i64 x11))])], [] => R X (fun u => K (f9_out u)) x0 x1 x2 x3 x4 x5 x6 x7 x8 x9 x10 x11
  | _, _ => none
def f9_plan : Nat → Option (List Nat × List Wk)
  | 0 => some ([0, 1], [])
  | 1 => some ([2, 3], [])
  | _ => none
def f9_C (R_f22 : f22_R) : Fns := (orC 22 (f22_cOf R_f22) noC)
theorem f9_Cok (R_f22 : f22_R) (hR_f22 : AnsOk Try.prog 22 (f22_cOf R_f22)) : CsOk Try.prog (f9_C R_f22) := (orC_ok hR_f22 noC_ok)
def f9_cx (R_f22 : f22_R) (hR_f22 : AnsOk Try.prog 22 (f22_cOf R_f22)) : Cx := mkCx (tabOf rows) (f9_C R_f22) md (cmpIn cmps) f9_plan (f9_Cok R_f22 hR_f22)
def f9_T {X : Type} (R_f22 : f22_R) (k : Nat) (K : Bool → Option X)  (x0 : Int) (x1 : Int) (x2 : ByteArray) (x3 : List CV) (x4 : Int) (x5 : Int) (x6 : Int) (x7 : Int) (x8 : ByteArray) (x9 : List CV) (x10 : Int) (x11 : Int) : Option X :=
(bif (x0 == x6) then
(bif (x1 == x7) then
(bif (x2.toList == x8.toList) then
R_f22 _ (fun u1 =>
(bif u1 then
(bif (x4 == x10) then
K ((x5 == x11))
else
K (false))
else
K (false))) (x3) (x9)
else
K (false))
else
K (false))
else
K (false))
/-- "outpost/outpostref13.Same" -/
def f9_A (R_f22 : f22_R) (k : Nat) : f9_R := fun X K x0 x1 x2 x3 x4 x5 x6 x7 x8 x9 x10 x11 => f9_T R_f22 k K  x0 x1 x2 x3 x4 x5 x6 x7 x8 x9 x10 x11
set_option maxRecDepth 100000 in
theorem f9_ev' {X : Type} (R_f22 : f22_R) (hR_f22 : AnsOk Try.prog 22 (f22_cOf R_f22)) (k : Nat) (K : Out → Option X) (x0 : Int) (x1 : Int) (x2 : ByteArray) (x3 : List CV) (x4 : Int) (x5 : Int) (x6 : Int) (x7 : Int) (x8 : ByteArray) (x9 : List CV) (x10 : Int) (x11 : Int) : evFn (f9_cx R_f22 hR_f22) [] k Try.f9.ntmps Try.f9.results.toList (Try.f9.body.getD .skip) [(.agg [(.v (CV.int .i64 x0)), (.v (CV.int .i64 x1)), (.v (CV.str x2)), (.sl false none x3), (.v (CV.int .i64 x4)), (.v (CV.int .i64 x5))]), (.agg [(.v (CV.int .i64 x6)), (.v (CV.int .i64 x7)), (.v (CV.str x8)), (.sl false none x9), (.v (CV.int .i64 x10)), (.v (CV.int .i64 x11))])] [] K = f9_T R_f22 k (fun u => K (f9_out u)) x0 x1 x2 x3 x4 x5 x6 x7 x8 x9 x10 x11 := by kernel_rfl
theorem f9_ev {X : Type} (R_f22 : f22_R) (hR_f22 : AnsOk Try.prog 22 (f22_cOf R_f22)) (k : Nat) (K : Out → Option X) (x0 : Int) (x1 : Int) (x2 : ByteArray) (x3 : List CV) (x4 : Int) (x5 : Int) (x6 : Int) (x7 : Int) (x8 : ByteArray) (x9 : List CV) (x10 : Int) (x11 : Int) : evFn (f9_cx R_f22 hR_f22) [] k Try.f9.ntmps Try.f9.results.toList (Try.f9.body.getD .skip) [(.agg [(.v (CV.int .i64 x0)), (.v (CV.int .i64 x1)), (.v (CV.str x2)), (.sl false none x3), (.v (CV.int .i64 x4)), (.v (CV.int .i64 x5))]), (.agg [(.v (CV.int .i64 x6)), (.v (CV.int .i64 x7)), (.v (CV.str x8)), (.sl false none x9), (.v (CV.int .i64 x10)), (.v (CV.int .i64 x11))])] [] K = f9_A R_f22 k X (fun u => K (f9_out u)) x0 x1 x2 x3 x4 x5 x6 x7 x8 x9 x10 x11 := (f9_ev' R_f22 hR_f22 k K x0 x1 x2 x3 x4 x5 x6 x7 x8 x9 x10 x11).trans rfl
theorem f9_okA (R_f22 : f22_R) (hR_f22 : AnsOk Try.prog 22 (f22_cOf R_f22)) (k : Nat) : AnsOk Try.prog 9 (f9_cOf (f9_A R_f22 k)) := by
  intro X xs ns K x h
  unfold f9_cOf at h ⊢
  split at h
  · exact ans_main S (f9_Cok R_f22 hR_f22) Try.func9 (ent_of Try.func9 (by kernel_rfl) rfl) rfl (fun X K => f9_ev R_f22 hR_f22 k K _ _ _ _ _ _ _ _ _ _ _ _) h
  · cases h
/-- "outpost/outpostref13.Same" -/
def f9 {X : Type} (k : Nat) (K : Bool → Option X) (x0 : Int) (x1 : Int) (x2 : ByteArray) (x3 : List CV) (x4 : Int) (x5 : Int) (x6 : Int) (x7 : Int) (x8 : ByteArray) (x9 : List CV) (x10 : Int) (x11 : Int) : Option X := f9_A (fun X => @f22 X k) k X K x0 x1 x2 x3 x4 x5 x6 x7 x8 x9 x10 x11
theorem f9_ok (k : Nat) : AnsOk Try.prog 9 (f9_cOf (fun X => @f9 X k)) := f9_okA (fun X => @f22 X k) (f22_ok k) k
abbrev f43_R : Type 1 := (X : Type) → (Int × Int → Option X) → ByteArray → Option X
def f43_out (u : Int × Int) : Out := ⟨(.tup [(.v (CV.int .i64 u.1)), (.v (CV.int .i64 u.2))]), []⟩
def f43_cOf (R : f43_R) : FnC := fun X xs ns K => match xs, ns with
  | [(.v (CV.str x0))], [] => R X (fun u => K (f43_out u)) x0
  | _, _ => none
def f43_plan : Nat → Option (List Nat × List Wk)
  | 0 => some ([0], [])
  | 1 => some ([0], [])
  | 2 => some ([0, 4], [])
  | 3 => some ([], [])
  | 4 => some ([0, 4], [])
  | 5 => some ([4], [])
  | 6 => some ([0, 4], [])
  | 7 => some ([0, 4], [])
  | 8 => some ([0, 4], [])
  | 9 => some ([0, 4], [])
  | 10 => some ([0, 4], [])
  | 11 => some ([0, 4], [])
  | 12 => some ([0, 4, 5, 6], [])
  | 13 => some ([], [])
  | 14 => some ([0, 4, 5, 6], [])
  | 15 => some ([0, 4, 5, 6, 7], [])
  | 16 => some ([0, 4, 5, 6, 7], [])
  | 17 => some ([0, 4, 5, 6, 7], [])
  | 18 => some ([], [])
  | 19 => some ([0, 4, 5, 6, 7], [])
  | 20 => some ([4, 5, 6], [])
  | 21 => some ([], [])
  | 22 => some ([4, 5], [])
  | _ => none
def f43_C : Fns := noC
theorem f43_Cok : CsOk Try.prog (f43_C) := noC_ok
def f43_cx : Cx := mkCx (tabOf rows) (f43_C) md (cmpIn cmps) f43_plan (f43_Cok)
def f43_S1 (v : ByteArray × Int × Int × Int × Int) : St := ⟨[(.v (CV.str v.1)), .undef, .undef, .undef, (.v (CV.int .i64 v.2.1)), (.v (CV.int .i64 v.2.2.1)), (.v (CV.int .i64 v.2.2.2.1)), (.v (CV.int .i64 v.2.2.2.2)), .undef, .undef, .undef, .undef, .undef, .undef, .undef, .undef, .undef, .undef, .undef, .undef, .undef, .undef, .undef, .undef, .undef, .undef, .undef, .undef, .undef, .undef, .undef, .undef, .undef, .undef, .undef, .undef, .undef, .undef, .undef, .undef, .undef, .undef, .undef, .undef, .undef, .undef, .undef, .undef, .undef, .undef, .undef, .undef, .undef, .undef, .undef, .undef, .undef, .undef, .undef, .undef, .undef, .undef, .undef, .undef, .undef, .undef, .undef, .undef, .undef, .undef, .undef, .undef, .undef, .undef, .undef, .undef, .undef, .undef, .undef, .undef, .undef, .undef, .undef, .undef, .undef, .undef], []⟩
def f43_J1 {X : Type} (k : Nat) (K : Int × Int → Option X) (v8_2 : ByteArray × Int × Int × Int × Int) (v24 : Unit) : Option X :=
K (v8_2.2.2.1, v8_2.2.1)
def f43_J2 {X : Type} (k : Nat) (K : Int × Int → Option X) (loop1 : ByteArray × Int × Int × Int × Int → Option X) (x0 : ByteArray) (v2 : Int × Int × Int) : Option X :=
(bif (decide ((Nat.cast ((ByteArray.size x0)) : Int) < v2.2.1)) then
K (0, 0)
else
loop1 (x0, v2.1, v2.2.1, v2.2.2, 1))
def f43_T1 {X : Type} (k : Nat) (K : Int × Int → Option X)   (rec1 : ByteArray × Int × Int × Int × Int → Option X) (v8_2 : ByteArray × Int × Int × Int × Int) : Option X :=
(bif (decide (v8_2.2.2.2.2 < v8_2.2.2.1)) then
grd (decide (0 ≤ v8_2.2.2.2.2)) <|
Option.bind (ByteArray.data v8_2.1)[(Int.toNat v8_2.2.2.2.2)]? fun b21 =>
(bif (decide ((Nat.cast ((UInt8.toNat b21)) : Int) < 128)) then
K (0, 0)
else
grd (decide (0 ≤ v8_2.2.2.2.2)) <|
Option.bind (ByteArray.data v8_2.1)[(Int.toNat v8_2.2.2.2.2)]? fun b22 =>
(bif (decide ((Nat.cast ((UInt8.toNat b22)) : Int) > 191)) then
K (0, 0)
else
grd (decide (0 ≤ v8_2.2.2.2.2)) <|
Option.bind (ByteArray.data v8_2.1)[(Int.toNat v8_2.2.2.2.2)]? fun b23 =>
rec1 (v8_2.1, (IntKind.wrap .i64 ((IntKind.wrap .i64 ((IntKind.wrap .i64 (v8_2.2.1 * 64)) + (IntKind.wrap .i64 (Nat.cast ((UInt8.toNat b23)) : Int)))) - 128)), v8_2.2.2.1, v8_2.2.2.2.1, (IntKind.wrap .i64 (v8_2.2.2.2.2 + 1)))))
else
(bif (decide (v8_2.2.1 < v8_2.2.2.2.1)) then
K (0, 0)
else
(bif (decide (v8_2.2.1 > 1114111)) then
K (0, 0)
else
(bif (decide (v8_2.2.1 ≥ 55296)) then
(bif (decide (v8_2.2.1 < 57344)) then
K (0, 0)
else
f43_J1 k K v8_2 (()))
else
f43_J1 k K v8_2 (())))))
def f43_L1 {X : Type} (k : Nat) (K : Int × Int → Option X)  (rec1 : ByteArray × Int × Int × Int × Int → Option X) (v : ByteArray × Int × Int × Int × Int) : Option X := f43_T1 k K   rec1 v
set_option maxRecDepth 100000 in
theorem f43_L1_ev {X : Type} (k : Nat) (K : Out → Option X)  (r1 : St → Option X) (v : ByteArray × Int × Int × Int × Int) : loopB (f43_cx) k [.r, .r, .r, .r, .r, .l, .r, .b] (Try.f43.body.getD .skip) (retK (f43_cx) [] Try.f43.results.toList K) [] r1 (f43_S1 v) = f43_T1 k (fun u => K (f43_out u))   (fun v => r1 (f43_S1 v)) v := by kernel_rfl
theorem f43_L1_it {X : Type} (k : Nat) (K : Out → Option X)  : (fun v => iter (loopB (f43_cx) k [.r, .r, .r, .r, .r, .l, .r, .b] (Try.f43.body.getD .skip) (retK (f43_cx) [] Try.f43.results.toList K) []) k (f43_S1 v)) = iterV (f43_L1 k (fun u => K (f43_out u)) ) k :=
  iter_map (fun r1 v => (f43_L1_ev k K  r1 v).trans rfl) k
def f43_T {X : Type} (k : Nat) (K : Int × Int → Option X) (loop1 : ByteArray × Int × Int × Int × Int → Option X) (x0 : ByteArray) : Option X :=
Option.bind (ByteArray.data x0)[0]? fun b1 =>
(bif (decide ((IntKind.wrap .i64 (Nat.cast ((UInt8.toNat b1)) : Int)) < 128)) then
K (1, (IntKind.wrap .i64 (Nat.cast ((UInt8.toNat b1)) : Int)))
else
(bif (decide ((IntKind.wrap .i64 (Nat.cast ((UInt8.toNat b1)) : Int)) ≥ 194)) then
(bif (decide ((IntKind.wrap .i64 (Nat.cast ((UInt8.toNat b1)) : Int)) < 224)) then
f43_J2 k K loop1 x0 ((IntKind.wrap .i64 ((IntKind.wrap .i64 (Nat.cast ((UInt8.toNat b1)) : Int)) - 192)), 2, 128)
else
(bif (decide ((IntKind.wrap .i64 (Nat.cast ((UInt8.toNat b1)) : Int)) ≥ 224)) then
(bif (decide ((IntKind.wrap .i64 (Nat.cast ((UInt8.toNat b1)) : Int)) < 240)) then
f43_J2 k K loop1 x0 ((IntKind.wrap .i64 ((IntKind.wrap .i64 (Nat.cast ((UInt8.toNat b1)) : Int)) - 224)), 3, 2048)
else
(bif (decide ((IntKind.wrap .i64 (Nat.cast ((UInt8.toNat b1)) : Int)) ≥ 240)) then
(bif (decide ((IntKind.wrap .i64 (Nat.cast ((UInt8.toNat b1)) : Int)) < 245)) then
f43_J2 k K loop1 x0 ((IntKind.wrap .i64 ((IntKind.wrap .i64 (Nat.cast ((UInt8.toNat b1)) : Int)) - 240)), 4, 65536)
else
K (0, 0))
else
K (0, 0)))
else
(bif (decide ((IntKind.wrap .i64 (Nat.cast ((UInt8.toNat b1)) : Int)) ≥ 240)) then
(bif (decide ((IntKind.wrap .i64 (Nat.cast ((UInt8.toNat b1)) : Int)) < 245)) then
f43_J2 k K loop1 x0 ((IntKind.wrap .i64 ((IntKind.wrap .i64 (Nat.cast ((UInt8.toNat b1)) : Int)) - 240)), 4, 65536)
else
K (0, 0))
else
K (0, 0))))
else
(bif (decide ((IntKind.wrap .i64 (Nat.cast ((UInt8.toNat b1)) : Int)) ≥ 224)) then
(bif (decide ((IntKind.wrap .i64 (Nat.cast ((UInt8.toNat b1)) : Int)) < 240)) then
f43_J2 k K loop1 x0 ((IntKind.wrap .i64 ((IntKind.wrap .i64 (Nat.cast ((UInt8.toNat b1)) : Int)) - 224)), 3, 2048)
else
(bif (decide ((IntKind.wrap .i64 (Nat.cast ((UInt8.toNat b1)) : Int)) ≥ 240)) then
(bif (decide ((IntKind.wrap .i64 (Nat.cast ((UInt8.toNat b1)) : Int)) < 245)) then
f43_J2 k K loop1 x0 ((IntKind.wrap .i64 ((IntKind.wrap .i64 (Nat.cast ((UInt8.toNat b1)) : Int)) - 240)), 4, 65536)
else
K (0, 0))
else
K (0, 0)))
else
(bif (decide ((IntKind.wrap .i64 (Nat.cast ((UInt8.toNat b1)) : Int)) ≥ 240)) then
(bif (decide ((IntKind.wrap .i64 (Nat.cast ((UInt8.toNat b1)) : Int)) < 245)) then
f43_J2 k K loop1 x0 ((IntKind.wrap .i64 ((IntKind.wrap .i64 (Nat.cast ((UInt8.toNat b1)) : Int)) - 240)), 4, 65536)
else
K (0, 0))
else
K (0, 0)))))
/-- "outpost/outpostref13.sign" -/
def f43_A (k : Nat) : f43_R := fun X K x0 => f43_T k K (iterV (f43_L1 k K) k) x0
set_option maxRecDepth 100000 in
theorem f43_ev' {X : Type} (k : Nat) (K : Out → Option X) (x0 : ByteArray) : evFn (f43_cx) [] k Try.f43.ntmps Try.f43.results.toList (Try.f43.body.getD .skip) [(.v (CV.str x0))] [] K = f43_T k (fun u => K (f43_out u)) (fun v => iter (loopB (f43_cx) k [.r, .r, .r, .r, .r, .l, .r, .b] (Try.f43.body.getD .skip) (retK (f43_cx) [] Try.f43.results.toList K) []) k (f43_S1 v)) x0 := by kernel_rfl
theorem f43_ev {X : Type} (k : Nat) (K : Out → Option X) (x0 : ByteArray) : evFn (f43_cx) [] k Try.f43.ntmps Try.f43.results.toList (Try.f43.body.getD .skip) [(.v (CV.str x0))] [] K = f43_A k X (fun u => K (f43_out u)) x0 := (f43_ev' k K x0).trans (by rw [f43_L1_it k K]; rfl)
theorem f43_okA (k : Nat) : AnsOk Try.prog 43 (f43_cOf (f43_A k)) := by
  intro X xs ns K x h
  unfold f43_cOf at h ⊢
  split at h
  · exact ans_main S (f43_Cok) Try.func43 (ent_of Try.func43 (by kernel_rfl) rfl) rfl (fun X K => f43_ev k K _) h
  · cases h
/-- "outpost/outpostref13.sign" -/
def f43 {X : Type} (k : Nat) (K : Int × Int → Option X) (x0 : ByteArray) : Option X := f43_A k X K x0
theorem f43_ok (k : Nat) : AnsOk Try.prog 43 (f43_cOf (fun X => @f43 X k)) := f43_okA k
abbrev f24_R : Type 1 := (X : Type) → (Int × Bool → Option X) → ByteArray → Option X
def f24_out (u : Int × Bool) : Out := ⟨(.tup [(.v (CV.int .i64 u.1)), (.v (CV.bool u.2))]), []⟩
def f24_cOf (R : f24_R) : FnC := fun X xs ns K => match xs, ns with
  | [(.v (CV.str x0))], [] => R X (fun u => K (f24_out u)) x0
  | _, _ => none
def f24_plan : Nat → Option (List Nat × List Wk)
  | 0 => some ([0], [])
  | 1 => some ([0], [])
  | 2 => some ([0, 4], [])
  | 3 => some ([0, 4], [])
  | 4 => some ([0, 4, 5, 6], [])
  | 5 => some ([], [])
  | 6 => some ([0, 4, 5], [])
  | 7 => some ([0, 4], [])
  | 8 => some ([4], [])
  | _ => none
def f24_C (R_f43 : f43_R) : Fns := (orC 43 (f43_cOf R_f43) noC)
theorem f24_Cok (R_f43 : f43_R) (hR_f43 : AnsOk Try.prog 43 (f43_cOf R_f43)) : CsOk Try.prog (f24_C R_f43) := (orC_ok hR_f43 noC_ok)
def f24_cx (R_f43 : f43_R) (hR_f43 : AnsOk Try.prog 43 (f43_cOf R_f43)) : Cx := mkCx (tabOf rows) (f24_C R_f43) md (cmpIn cmps) f24_plan (f24_Cok R_f43 hR_f43)
def f24_S1 (v : ByteArray × Int) : St := ⟨[(.v (CV.str v.1)), .undef, .undef, .undef, (.v (CV.int .i64 v.2)), .undef, .undef, .undef, .undef, .undef, .undef, .undef, .undef, .undef, .undef, .undef, .undef, .undef, .undef, .undef, .undef, .undef, .undef, .undef, .undef, .undef, .undef, .undef, .undef, .undef, .undef], []⟩
def f24_T1 {X : Type} (R_f43 : f43_R) (k : Nat) (K : Int × Bool → Option X)   (rec1 : ByteArray × Int → Option X) (v4_0 : ByteArray × Int) : Option X :=
(bif (decide ((Nat.cast ((ByteArray.size v4_0.1)) : Int) > 0)) then
R_f43 _ (fun u3 =>
(bif (u3.1 == 0) then
K (0, false)
else
(bif (decide (u3.2 < 32)) then
K (0, false)
else
(bif (u3.2 == 127) then
K (0, false)
else
grd (decide (0 ≤ u3.1)) <|
grd (decide (u3.1 ≤ (Nat.cast ((ByteArray.size v4_0.1)) : Int))) <|
grd (decide ((Nat.cast ((ByteArray.size v4_0.1)) : Int) ≤ (Nat.cast ((ByteArray.size v4_0.1)) : Int))) <|
rec1 ((ByteArray.extract v4_0.1 (Int.toNat u3.1) (ByteArray.size v4_0.1)), (IntKind.wrap .i64 (v4_0.2 + 1))))))) (v4_0.1)
else
K (v4_0.2, true))
def f24_L1 {X : Type} (R_f43 : f43_R) (k : Nat) (K : Int × Bool → Option X)  (rec1 : ByteArray × Int → Option X) (v : ByteArray × Int) : Option X := f24_T1 R_f43 k K   rec1 v
set_option maxRecDepth 100000 in
theorem f24_L1_ev {X : Type} (R_f43 : f43_R) (hR_f43 : AnsOk Try.prog 43 (f43_cOf R_f43)) (k : Nat) (K : Out → Option X)  (r1 : St → Option X) (v : ByteArray × Int) : loopB (f24_cx R_f43 hR_f43) k [.r, .r, .l, .b] (Try.f24.body.getD .skip) (retK (f24_cx R_f43 hR_f43) [] Try.f24.results.toList K) [] r1 (f24_S1 v) = f24_T1 R_f43 k (fun u => K (f24_out u))   (fun v => r1 (f24_S1 v)) v := by kernel_rfl
theorem f24_L1_it {X : Type} (R_f43 : f43_R) (hR_f43 : AnsOk Try.prog 43 (f43_cOf R_f43)) (k : Nat) (K : Out → Option X)  : (fun v => iter (loopB (f24_cx R_f43 hR_f43) k [.r, .r, .l, .b] (Try.f24.body.getD .skip) (retK (f24_cx R_f43 hR_f43) [] Try.f24.results.toList K) []) k (f24_S1 v)) = iterV (f24_L1 R_f43 k (fun u => K (f24_out u)) ) k :=
  iter_map (fun r1 v => (f24_L1_ev R_f43 hR_f43 k K  r1 v).trans rfl) k
def f24_T {X : Type} (R_f43 : f43_R) (k : Nat) (K : Int × Bool → Option X) (loop1 : ByteArray × Int → Option X) (x0 : ByteArray) : Option X :=
loop1 (x0, 0)
/-- "outpost/outpostref13.Runes" -/
def f24_A (R_f43 : f43_R) (k : Nat) : f24_R := fun X K x0 => f24_T R_f43 k K (iterV (f24_L1 R_f43 k K) k) x0
set_option maxRecDepth 100000 in
theorem f24_ev' {X : Type} (R_f43 : f43_R) (hR_f43 : AnsOk Try.prog 43 (f43_cOf R_f43)) (k : Nat) (K : Out → Option X) (x0 : ByteArray) : evFn (f24_cx R_f43 hR_f43) [] k Try.f24.ntmps Try.f24.results.toList (Try.f24.body.getD .skip) [(.v (CV.str x0))] [] K = f24_T R_f43 k (fun u => K (f24_out u)) (fun v => iter (loopB (f24_cx R_f43 hR_f43) k [.r, .r, .l, .b] (Try.f24.body.getD .skip) (retK (f24_cx R_f43 hR_f43) [] Try.f24.results.toList K) []) k (f24_S1 v)) x0 := by kernel_rfl
theorem f24_ev {X : Type} (R_f43 : f43_R) (hR_f43 : AnsOk Try.prog 43 (f43_cOf R_f43)) (k : Nat) (K : Out → Option X) (x0 : ByteArray) : evFn (f24_cx R_f43 hR_f43) [] k Try.f24.ntmps Try.f24.results.toList (Try.f24.body.getD .skip) [(.v (CV.str x0))] [] K = f24_A R_f43 k X (fun u => K (f24_out u)) x0 := (f24_ev' R_f43 hR_f43 k K x0).trans (by rw [f24_L1_it R_f43 hR_f43 k K]; rfl)
theorem f24_okA (R_f43 : f43_R) (hR_f43 : AnsOk Try.prog 43 (f43_cOf R_f43)) (k : Nat) : AnsOk Try.prog 24 (f24_cOf (f24_A R_f43 k)) := by
  intro X xs ns K x h
  unfold f24_cOf at h ⊢
  split at h
  · exact ans_main S (f24_Cok R_f43 hR_f43) Try.func24 (ent_of Try.func24 (by kernel_rfl) rfl) rfl (fun X K => f24_ev R_f43 hR_f43 k K _) h
  · cases h
/-- "outpost/outpostref13.Runes" -/
def f24 {X : Type} (k : Nat) (K : Int × Bool → Option X) (x0 : ByteArray) : Option X := f24_A (fun X => @f43 X k) k X K x0
theorem f24_ok (k : Nat) : AnsOk Try.prog 24 (f24_cOf (fun X => @f24 X k)) := f24_okA (fun X => @f43 X k) (f43_ok k) k
abbrev f11_R : Type 1 := (X : Type) → (Bool → Option X) → Int → Int → ByteArray → (List CV) → Int → Int → Option X
def f11_out (u : Bool) : Out := ⟨(.v (CV.bool u)), []⟩
def f11_cOf (R : f11_R) : FnC := fun X xs ns K => match xs, ns with
  | [(.agg [(.v (CV.int .i64 x0)), (.v (CV.int .i64 x1)), (.v (CV.str x2)), (.sl false none x3), (.v (CV.int .i64 x4)), (.v (CV.int .i64 x5))])], [] => R X (fun u => K (f11_out u)) x0 x1 x2 x3 x4 x5
  | _, _ => none
def f11_plan : Nat → Option (List Nat × List Wk)
  | 0 => some ([0], [])
  | 1 => some ([1], [])
  | 2 => some ([1, 3], [])
  | 3 => some ([], [])
  | 4 => some ([1, 3], [])
  | 5 => some ([1, 56], [])
  | 6 => some ([1, 56], [])
  | 7 => some ([], [])
  | 8 => some ([1, 56], [])
  | 9 => some ([1], [])
  | 10 => some ([1, 56], [])
  | 11 => some ([1], [])
  | 12 => some ([1, 5], [])
  | 13 => some ([1, 56], [])
  | 14 => some ([1], [])
  | 15 => some ([1, 56], [])
  | 16 => some ([1], [])
  | 17 => some ([], [])
  | _ => none
def f11_C (R_f24 : f24_R) : Fns := (orC 24 (f24_cOf R_f24) noC)
theorem f11_Cok (R_f24 : f24_R) (hR_f24 : AnsOk Try.prog 24 (f24_cOf R_f24)) : CsOk Try.prog (f11_C R_f24) := (orC_ok hR_f24 noC_ok)
def f11_cx (R_f24 : f24_R) (hR_f24 : AnsOk Try.prog 24 (f24_cOf R_f24)) : Cx := mkCx (tabOf rows) (f11_C R_f24) md (cmpIn cmps) f11_plan (f11_Cok R_f24 hR_f24)
def f11_J1 {X : Type} (R_f24 : f24_R) (k : Nat) (K : Bool → Option X) (v1 : Int × ByteArray × (List CV) × Int × Int) (x0 : Int) (v3 : Bool) : Option X :=
(bif v3 then
K (true)
else
(bif (x0 == 2) then
(bif (v1.1 == 0) then
K (true)
else
K ((v1.1 == 1)))
else
(bif (x0 == 3) then
R_f24 _ (fun u4 =>
(bif u4.2 then
K ((decide ((Nat.cast ((ByteArray.size v1.2.1)) : Int) ≤ 200)))
else
K (false))) (v1.2.1)
else
(bif (x0 == 4) then
K ((decide ((Nat.cast ((List.length v1.2.2.1)) : Int) ≤ 200)))
else
(bif (x0 == 6) then
(bif (decide (v1.2.2.2.1 ≥ 0)) then
(bif (decide (v1.2.2.2.1 ≤ 65535)) then
(bif (decide (v1.2.2.2.2 ≥ 0)) then
K ((decide (v1.2.2.2.2 ≤ 65535)))
else
K (false))
else
K (false))
else
K (false))
else
K (false))))))
def f11_J2 {X : Type} (R_f24 : f24_R) (k : Nat) (K : Bool → Option X) (x0 : Int) (v1 : Int × ByteArray × (List CV) × Int × Int) : Option X :=
(bif (x0 == 1) then
f11_J1 R_f24 k K v1 x0 ((x0 == 1))
else
f11_J1 R_f24 k K v1 x0 ((x0 == 5)))
def f11_T {X : Type} (R_f24 : f24_R) (k : Nat) (K : Bool → Option X)  (x0 : Int) (x1 : Int) (x2 : ByteArray) (x3 : List CV) (x4 : Int) (x5 : Int) : Option X :=
(bif (x0 != 1) then
(bif (x0 != 2) then
(bif (x0 != 5) then
(bif (x1 != 0) then
K (false)
else
(bif (x0 != 3) then
(bif (!(x2.toList == (⟨#[]⟩ : ByteArray).toList)) then
K (false)
else
(bif (x0 != 4) then
(bif (decide ((Nat.cast ((List.length x3)) : Int) > 0)) then
K (false)
else
(bif (x0 != 6) then
(bif (x4 != 0) then
K (false)
else
(bif (x5 != 0) then
K (false)
else
f11_J2 R_f24 k K x0 (x1, x2, x3, x4, x5)))
else
f11_J2 R_f24 k K x0 (x1, x2, x3, x4, x5)))
else
(bif (x0 != 6) then
(bif (x4 != 0) then
K (false)
else
(bif (x5 != 0) then
K (false)
else
f11_J2 R_f24 k K x0 (x1, x2, x3, x4, x5)))
else
f11_J2 R_f24 k K x0 (x1, x2, x3, x4, x5))))
else
(bif (x0 != 4) then
(bif (decide ((Nat.cast ((List.length x3)) : Int) > 0)) then
K (false)
else
(bif (x0 != 6) then
(bif (x4 != 0) then
K (false)
else
(bif (x5 != 0) then
K (false)
else
f11_J2 R_f24 k K x0 (x1, x2, x3, x4, x5)))
else
f11_J2 R_f24 k K x0 (x1, x2, x3, x4, x5)))
else
(bif (x0 != 6) then
(bif (x4 != 0) then
K (false)
else
(bif (x5 != 0) then
K (false)
else
f11_J2 R_f24 k K x0 (x1, x2, x3, x4, x5)))
else
f11_J2 R_f24 k K x0 (x1, x2, x3, x4, x5)))))
else
(bif (x0 != 3) then
(bif (!(x2.toList == (⟨#[]⟩ : ByteArray).toList)) then
K (false)
else
(bif (x0 != 4) then
(bif (decide ((Nat.cast ((List.length x3)) : Int) > 0)) then
K (false)
else
(bif (x0 != 6) then
(bif (x4 != 0) then
K (false)
else
(bif (x5 != 0) then
K (false)
else
f11_J2 R_f24 k K x0 (x1, x2, x3, x4, x5)))
else
f11_J2 R_f24 k K x0 (x1, x2, x3, x4, x5)))
else
(bif (x0 != 6) then
(bif (x4 != 0) then
K (false)
else
(bif (x5 != 0) then
K (false)
else
f11_J2 R_f24 k K x0 (x1, x2, x3, x4, x5)))
else
f11_J2 R_f24 k K x0 (x1, x2, x3, x4, x5))))
else
(bif (x0 != 4) then
(bif (decide ((Nat.cast ((List.length x3)) : Int) > 0)) then
K (false)
else
(bif (x0 != 6) then
(bif (x4 != 0) then
K (false)
else
(bif (x5 != 0) then
K (false)
else
f11_J2 R_f24 k K x0 (x1, x2, x3, x4, x5)))
else
f11_J2 R_f24 k K x0 (x1, x2, x3, x4, x5)))
else
(bif (x0 != 6) then
(bif (x4 != 0) then
K (false)
else
(bif (x5 != 0) then
K (false)
else
f11_J2 R_f24 k K x0 (x1, x2, x3, x4, x5)))
else
f11_J2 R_f24 k K x0 (x1, x2, x3, x4, x5)))))
else
(bif (x0 != 3) then
(bif (!(x2.toList == (⟨#[]⟩ : ByteArray).toList)) then
K (false)
else
(bif (x0 != 4) then
(bif (decide ((Nat.cast ((List.length x3)) : Int) > 0)) then
K (false)
else
(bif (x0 != 6) then
(bif (x4 != 0) then
K (false)
else
(bif (x5 != 0) then
K (false)
else
f11_J2 R_f24 k K x0 (x1, x2, x3, x4, x5)))
else
f11_J2 R_f24 k K x0 (x1, x2, x3, x4, x5)))
else
(bif (x0 != 6) then
(bif (x4 != 0) then
K (false)
else
(bif (x5 != 0) then
K (false)
else
f11_J2 R_f24 k K x0 (x1, x2, x3, x4, x5)))
else
f11_J2 R_f24 k K x0 (x1, x2, x3, x4, x5))))
else
(bif (x0 != 4) then
(bif (decide ((Nat.cast ((List.length x3)) : Int) > 0)) then
K (false)
else
(bif (x0 != 6) then
(bif (x4 != 0) then
K (false)
else
(bif (x5 != 0) then
K (false)
else
f11_J2 R_f24 k K x0 (x1, x2, x3, x4, x5)))
else
f11_J2 R_f24 k K x0 (x1, x2, x3, x4, x5)))
else
(bif (x0 != 6) then
(bif (x4 != 0) then
K (false)
else
(bif (x5 != 0) then
K (false)
else
f11_J2 R_f24 k K x0 (x1, x2, x3, x4, x5)))
else
f11_J2 R_f24 k K x0 (x1, x2, x3, x4, x5)))))
else
(bif (x0 != 3) then
(bif (!(x2.toList == (⟨#[]⟩ : ByteArray).toList)) then
K (false)
else
(bif (x0 != 4) then
(bif (decide ((Nat.cast ((List.length x3)) : Int) > 0)) then
K (false)
else
(bif (x0 != 6) then
(bif (x4 != 0) then
K (false)
else
(bif (x5 != 0) then
K (false)
else
f11_J2 R_f24 k K x0 (x1, x2, x3, x4, x5)))
else
f11_J2 R_f24 k K x0 (x1, x2, x3, x4, x5)))
else
(bif (x0 != 6) then
(bif (x4 != 0) then
K (false)
else
(bif (x5 != 0) then
K (false)
else
f11_J2 R_f24 k K x0 (x1, x2, x3, x4, x5)))
else
f11_J2 R_f24 k K x0 (x1, x2, x3, x4, x5))))
else
(bif (x0 != 4) then
(bif (decide ((Nat.cast ((List.length x3)) : Int) > 0)) then
K (false)
else
(bif (x0 != 6) then
(bif (x4 != 0) then
K (false)
else
(bif (x5 != 0) then
K (false)
else
f11_J2 R_f24 k K x0 (x1, x2, x3, x4, x5)))
else
f11_J2 R_f24 k K x0 (x1, x2, x3, x4, x5)))
else
(bif (x0 != 6) then
(bif (x4 != 0) then
K (false)
else
(bif (x5 != 0) then
K (false)
else
f11_J2 R_f24 k K x0 (x1, x2, x3, x4, x5)))
else
f11_J2 R_f24 k K x0 (x1, x2, x3, x4, x5)))))
/-- "outpost/outpostref13.Right" -/
def f11_A (R_f24 : f24_R) (k : Nat) : f11_R := fun X K x0 x1 x2 x3 x4 x5 => f11_T R_f24 k K  x0 x1 x2 x3 x4 x5
set_option maxRecDepth 100000 in
theorem f11_ev' {X : Type} (R_f24 : f24_R) (hR_f24 : AnsOk Try.prog 24 (f24_cOf R_f24)) (k : Nat) (K : Out → Option X) (x0 : Int) (x1 : Int) (x2 : ByteArray) (x3 : List CV) (x4 : Int) (x5 : Int) : evFn (f11_cx R_f24 hR_f24) [] k Try.f11.ntmps Try.f11.results.toList (Try.f11.body.getD .skip) [(.agg [(.v (CV.int .i64 x0)), (.v (CV.int .i64 x1)), (.v (CV.str x2)), (.sl false none x3), (.v (CV.int .i64 x4)), (.v (CV.int .i64 x5))])] [] K = f11_T R_f24 k (fun u => K (f11_out u)) x0 x1 x2 x3 x4 x5 := by kernel_rfl
theorem f11_ev {X : Type} (R_f24 : f24_R) (hR_f24 : AnsOk Try.prog 24 (f24_cOf R_f24)) (k : Nat) (K : Out → Option X) (x0 : Int) (x1 : Int) (x2 : ByteArray) (x3 : List CV) (x4 : Int) (x5 : Int) : evFn (f11_cx R_f24 hR_f24) [] k Try.f11.ntmps Try.f11.results.toList (Try.f11.body.getD .skip) [(.agg [(.v (CV.int .i64 x0)), (.v (CV.int .i64 x1)), (.v (CV.str x2)), (.sl false none x3), (.v (CV.int .i64 x4)), (.v (CV.int .i64 x5))])] [] K = f11_A R_f24 k X (fun u => K (f11_out u)) x0 x1 x2 x3 x4 x5 := (f11_ev' R_f24 hR_f24 k K x0 x1 x2 x3 x4 x5).trans rfl
theorem f11_okA (R_f24 : f24_R) (hR_f24 : AnsOk Try.prog 24 (f24_cOf R_f24)) (k : Nat) : AnsOk Try.prog 11 (f11_cOf (f11_A R_f24 k)) := by
  intro X xs ns K x h
  unfold f11_cOf at h ⊢
  split at h
  · exact ans_main S (f11_Cok R_f24 hR_f24) Try.func11 (ent_of Try.func11 (by kernel_rfl) rfl) rfl (fun X K => f11_ev R_f24 hR_f24 k K _ _ _ _ _ _) h
  · cases h
/-- "outpost/outpostref13.Right" -/
def f11 {X : Type} (k : Nat) (K : Bool → Option X) (x0 : Int) (x1 : Int) (x2 : ByteArray) (x3 : List CV) (x4 : Int) (x5 : Int) : Option X := f11_A (fun X => @f24 X k) k X K x0 x1 x2 x3 x4 x5
theorem f11_ok (k : Nat) : AnsOk Try.prog 11 (f11_cOf (fun X => @f11 X k)) := f11_okA (fun X => @f24 X k) (f24_ok k) k
abbrev f12_R : Type 1 := (X : Type) → (Int → Option X) → CV → Int → Int → ByteArray → (List CV) → Int → Int → Option X
def f12_out (u : Int) : Out := ⟨(.v (CV.int .i64 u)), []⟩
def f12_cOf (R : f12_R) : FnC := fun X xs ns K => match xs, ns with
  | [(.v x0), (.agg [(.v (CV.int .i64 x1)), (.v (CV.int .i64 x2)), (.v (CV.str x3)), (.sl false none x4), (.v (CV.int .i64 x5)), (.v (CV.int .i64 x6))])], [] => R X (fun u => K (f12_out u)) x0 x1 x2 x3 x4 x5 x6
  | _, _ => none
def f12_plan : Nat → Option (List Nat × List Wk)
  | 0 => some ([0, 1], [])
  | 1 => some ([2, 3], [])
  | 2 => some ([], [])
  | 3 => some ([2, 3], [])
  | 4 => some ([2, 3, 5], [])
  | 5 => some ([2, 3, 5, 14], [])
  | 6 => some ([2, 3, 5, 14], [])
  | 7 => some ([], [])
  | 8 => some ([2, 3, 5, 14], [])
  | 9 => some ([2, 3], [])
  | 10 => some ([2, 3, 5, 14], [])
  | 11 => some ([2, 3], [])
  | 12 => some ([2, 5], [])
  | 13 => some ([], [])
  | 14 => some ([], [])
  | _ => none
def f12_C : Fns := noC
theorem f12_Cok : CsOk Try.prog (f12_C) := noC_ok
def f12_cx : Cx := mkCx (tabOf rows) (f12_C) md (cmpIn cmps) f12_plan (f12_Cok)
def f12_J1 {X : Type} (k : Nat) (K : Int → Option X) (x0 : CV) (v1 : Int) : Option X :=
(bif (decide (v1 < (CV.toI (CV.cellD 5 x0)))) then
K (1)
else
(bif (decide (v1 > (CV.toI (CV.cellD 6 x0)))) then
K (1)
else
K (0)))
def f12_J2 {X : Type} (k : Nat) (K : Int → Option X) (x0 : CV) (x1 : Int) (v2 : Int × Bool × Int × ByteArray × (List CV) × Int × Int) : Option X :=
(bif v2.2.1 then
K (0)
else
(bif (x1 == 3) then
f12_J1 k K x0 ((Nat.cast ((ByteArray.size v2.2.2.2.1)) : Int))
else
(bif (x1 == 4) then
f12_J1 k K x0 ((Nat.cast ((List.length v2.2.2.2.2.1)) : Int))
else
f12_J1 k K x0 (v2.1))))
def f12_T {X : Type} (k : Nat) (K : Int → Option X)  (x0 : CV) (x1 : Int) (x2 : Int) (x3 : ByteArray) (x4 : List CV) (x5 : Int) (x6 : Int) : Option X :=
grd (CV.isA 8 x0) <|
grd (CV.isI .i64 (CV.cellD 0 x0)) <|
grd (CV.isI .i64 (CV.cellD 1 x0)) <|
grd (CV.isB (CV.cellD 2 x0)) <|
grd (CV.isB (CV.cellD 3 x0)) <|
grd (CV.isB (CV.cellD 4 x0)) <|
grd (CV.isI .i64 (CV.cellD 5 x0)) <|
grd (CV.isI .i64 (CV.cellD 6 x0)) <|
grd (CV.isB (CV.cellD 7 x0)) <|
(bif (x1 != (CV.toI (CV.cellD 1 x0))) then
K (70)
else
(bif (x1 == 2) then
f12_J2 k K x0 x1 (x2, (x1 == 2), x2, x3, x4, x5, x6)
else
f12_J2 k K x0 x1 (x2, (x1 == 6), x2, x3, x4, x5, x6)))
/-- "outpost/outpostref14.Fits" -/
def f12_A (k : Nat) : f12_R := fun X K x0 x1 x2 x3 x4 x5 x6 => f12_T k K  x0 x1 x2 x3 x4 x5 x6
set_option maxRecDepth 100000 in
theorem f12_ev' {X : Type} (k : Nat) (K : Out → Option X) (x0 : CV) (x1 : Int) (x2 : Int) (x3 : ByteArray) (x4 : List CV) (x5 : Int) (x6 : Int) : evFn (f12_cx) [] k Try.f12.ntmps Try.f12.results.toList (Try.f12.body.getD .skip) [(.v x0), (.agg [(.v (CV.int .i64 x1)), (.v (CV.int .i64 x2)), (.v (CV.str x3)), (.sl false none x4), (.v (CV.int .i64 x5)), (.v (CV.int .i64 x6))])] [] K = f12_T k (fun u => K (f12_out u)) x0 x1 x2 x3 x4 x5 x6 := by kernel_rfl
theorem f12_ev {X : Type} (k : Nat) (K : Out → Option X) (x0 : CV) (x1 : Int) (x2 : Int) (x3 : ByteArray) (x4 : List CV) (x5 : Int) (x6 : Int) : evFn (f12_cx) [] k Try.f12.ntmps Try.f12.results.toList (Try.f12.body.getD .skip) [(.v x0), (.agg [(.v (CV.int .i64 x1)), (.v (CV.int .i64 x2)), (.v (CV.str x3)), (.sl false none x4), (.v (CV.int .i64 x5)), (.v (CV.int .i64 x6))])] [] K = f12_A k X (fun u => K (f12_out u)) x0 x1 x2 x3 x4 x5 x6 := (f12_ev' k K x0 x1 x2 x3 x4 x5 x6).trans rfl
theorem f12_okA (k : Nat) : AnsOk Try.prog 12 (f12_cOf (f12_A k)) := by
  intro X xs ns K x h
  unfold f12_cOf at h ⊢
  split at h
  · exact ans_main S (f12_Cok) Try.func12 (ent_of Try.func12 (by kernel_rfl) rfl) rfl (fun X K => f12_ev k K _ _ _ _ _ _ _) h
  · cases h
/-- "outpost/outpostref14.Fits" -/
def f12 {X : Type} (k : Nat) (K : Int → Option X) (x0 : CV) (x1 : Int) (x2 : Int) (x3 : ByteArray) (x4 : List CV) (x5 : Int) (x6 : Int) : Option X := f12_A k X K x0 x1 x2 x3 x4 x5 x6
theorem f12_ok (k : Nat) : AnsOk Try.prog 12 (f12_cOf (fun X => @f12 X k)) := f12_okA k
abbrev f3_R : Type 1 := (X : Type) → (Bool → Option X) → CV → Option X
def f3_out (u : Bool) : Out := ⟨(.v (CV.bool u)), []⟩
def f3_cOf (R : f3_R) : FnC := fun X xs ns K => match xs, ns with
  | [(.v x0)], [] => R X (fun u => K (f3_out u)) x0
  | _, _ => none
def f3_plan : Nat → Option (List Nat × List Wk)
  | 0 => some ([0], [])
  | 1 => some ([1], [])
  | 2 => some ([], [])
  | 3 => some ([1], [])
  | 4 => some ([], [])
  | 5 => some ([1], [])
  | 6 => some ([1, 3], [])
  | 7 => some ([3, 16, 17, 18], [])
  | 8 => some ([3, 16, 17, 18], [])
  | 9 => some ([3, 5, 16, 17, 18], [])
  | 10 => some ([3, 5, 6, 16, 17, 18], [])
  | 11 => some ([], [])
  | 12 => some ([3, 5, 6, 16, 17, 18], [])
  | 13 => some ([], [])
  | 14 => some ([3, 16, 17, 18], [])
  | 15 => some ([], [])
  | _ => none
def f3_C (R_f6 : f6_R) (R_f7 : f7_R) (R_f8 : f8_R) (R_f10 : f10_R) (R_f9 : f9_R) (R_f11 : f11_R) (R_f12 : f12_R) : Fns := (orC 6 (f6_cOf R_f6) (orC 7 (f7_cOf R_f7) (orC 8 (f8_cOf R_f8) (orC 9 (f9_cOf R_f9) (orC 10 (f10_cOf R_f10) (orC 11 (f11_cOf R_f11) (orC 12 (f12_cOf R_f12) noC)))))))
theorem f3_Cok (R_f6 : f6_R) (R_f7 : f7_R) (R_f8 : f8_R) (R_f10 : f10_R) (R_f9 : f9_R) (R_f11 : f11_R) (R_f12 : f12_R) (hR_f6 : AnsOk Try.prog 6 (f6_cOf R_f6)) (hR_f7 : AnsOk Try.prog 7 (f7_cOf R_f7)) (hR_f8 : AnsOk Try.prog 8 (f8_cOf R_f8)) (hR_f10 : AnsOk Try.prog 10 (f10_cOf R_f10)) (hR_f9 : AnsOk Try.prog 9 (f9_cOf R_f9)) (hR_f11 : AnsOk Try.prog 11 (f11_cOf R_f11)) (hR_f12 : AnsOk Try.prog 12 (f12_cOf R_f12)) : CsOk Try.prog (f3_C R_f6 R_f7 R_f8 R_f10 R_f9 R_f11 R_f12) := (orC_ok hR_f6 (orC_ok hR_f7 (orC_ok hR_f8 (orC_ok hR_f9 (orC_ok hR_f10 (orC_ok hR_f11 (orC_ok hR_f12 noC_ok)))))))
def f3_cx (R_f6 : f6_R) (R_f7 : f7_R) (R_f8 : f8_R) (R_f10 : f10_R) (R_f9 : f9_R) (R_f11 : f11_R) (R_f12 : f12_R) (hR_f6 : AnsOk Try.prog 6 (f6_cOf R_f6)) (hR_f7 : AnsOk Try.prog 7 (f7_cOf R_f7)) (hR_f8 : AnsOk Try.prog 8 (f8_cOf R_f8)) (hR_f10 : AnsOk Try.prog 10 (f10_cOf R_f10)) (hR_f9 : AnsOk Try.prog 9 (f9_cOf R_f9)) (hR_f11 : AnsOk Try.prog 11 (f11_cOf R_f11)) (hR_f12 : AnsOk Try.prog 12 (f12_cOf R_f12)) : Cx := mkCx (tabOf rows) (f3_C R_f6 R_f7 R_f8 R_f10 R_f9 R_f11 R_f12) md (cmpIn cmps) f3_plan (f3_Cok R_f6 R_f7 R_f8 R_f10 R_f9 R_f11 R_f12 hR_f6 hR_f7 hR_f8 hR_f10 hR_f9 hR_f11 hR_f12)
def f3_S1 (v : Bool × (List CV) × Int × Int) : St := ⟨[.undef, .undef, .undef, (.v (CV.bool v.1)), .undef, .undef, .undef, .undef, .undef, .undef, .undef, .undef, .undef, .undef, .undef, .undef, (.sl true (some 8) v.2.1), (.v (CV.int .i64 v.2.2.1)), (.v (CV.int .i64 v.2.2.2)), .undef, .undef, .undef, .undef, .undef, .undef, .undef, .undef, .undef, .undef, .undef, .undef, .undef, .undef, .undef, .undef, .undef, .undef, .undef, .undef, .undef, .undef, .undef, .undef, .undef, .undef, .undef, .undef], []⟩
def f3_J1 {X : Type} (R_f6 : f6_R) (R_f7 : f7_R) (R_f8 : f8_R) (R_f10 : f10_R) (R_f9 : f9_R) (R_f11 : f11_R) (R_f12 : f12_R) (k : Nat) (K : Bool → Option X) (rec1 : Bool × (List CV) × Int × Int → Option X) (v7_3 : Bool × (List CV) × Int × Int) (v29 : Unit) : Option X :=
rec1 (v7_3.1, v7_3.2.1, v7_3.2.2.1, (IntKind.wrap .i64 (v7_3.2.2.2 + 1)))
def f3_T1 {X : Type} (R_f6 : f6_R) (R_f7 : f7_R) (R_f8 : f8_R) (R_f10 : f10_R) (R_f9 : f9_R) (R_f11 : f11_R) (R_f12 : f12_R) (k : Nat) (K : Bool → Option X)   (rec1 : Bool × (List CV) × Int × Int → Option X) (v7_3 : Bool × (List CV) × Int × Int) : Option X :=
(bif (decide (v7_3.2.2.2 < v7_3.2.2.1)) then
grd (decide (0 ≤ v7_3.2.2.2)) <|
Option.bind (v7_3.2.1)[(Int.toNat v7_3.2.2.2)]? fun e30 =>
grd (CV.isA 8 e30) <|
grd (CV.isI .i64 (CV.cellD 0 e30)) <|
grd (CV.isI .i64 (CV.cellD 1 e30)) <|
grd (CV.isB (CV.cellD 2 e30)) <|
grd (CV.isB (CV.cellD 3 e30)) <|
grd (CV.isB (CV.cellD 4 e30)) <|
grd (CV.isI .i64 (CV.cellD 5 e30)) <|
grd (CV.isI .i64 (CV.cellD 6 e30)) <|
grd (CV.isB (CV.cellD 7 e30)) <|
R_f8 _ (fun u31 =>
R_f10 _ (fun u34 =>
R_f9 _ (fun u35 =>
(bif (!u35) then
K (false)
else
(bif v7_3.1 then
(bif (!(CV.toB (CV.cellD 4 e30))) then
R_f11 _ (fun u36 =>
(bif (!u36) then
K (false)
else
R_f12 _ (fun u37 =>
(bif (u37 != 0) then
K (false)
else
f3_J1 R_f6 R_f7 R_f8 R_f10 R_f9 R_f11 R_f12 k K rec1 v7_3 (()))) ((CV.agg [(CV.int .i64 (CV.toI (CV.cellD 0 e30))), (CV.int .i64 (CV.toI (CV.cellD 1 e30))), (CV.bool (CV.toB (CV.cellD 2 e30))), (CV.bool (CV.toB (CV.cellD 3 e30))), (CV.bool (CV.toB (CV.cellD 4 e30))), (CV.int .i64 (CV.toI (CV.cellD 5 e30))), (CV.int .i64 (CV.toI (CV.cellD 6 e30))), (CV.bool (CV.toB (CV.cellD 7 e30)))])) (u31.1) (u31.2.1) (u31.2.2.1) ((List.take u31.2.2.2.1 (List.drop 0 u31.2.2.2.2))) (0) (0))) (u31.1) (u31.2.1) (u31.2.2.1) ((List.take u31.2.2.2.1 (List.drop 0 u31.2.2.2.2))) (0) (0)
else
f3_J1 R_f6 R_f7 R_f8 R_f10 R_f9 R_f11 R_f12 k K rec1 v7_3 (()))
else
f3_J1 R_f6 R_f7 R_f8 R_f10 R_f9 R_f11 R_f12 k K rec1 v7_3 (())))) (u31.1) (u31.2.1) (u31.2.2.1) ((List.take u31.2.2.2.1 (List.drop 0 u31.2.2.2.2))) (0) (0) (u34.1) (u34.2.1) (u34.2.2.1) ((List.take u34.2.2.2.1 (List.drop 0 u34.2.2.2.2))) (0) (0)) ((CV.agg [(CV.int .i64 (CV.toI (CV.cellD 0 e30))), (CV.int .i64 (CV.toI (CV.cellD 1 e30))), (CV.bool (CV.toB (CV.cellD 2 e30))), (CV.bool (CV.toB (CV.cellD 3 e30))), (CV.bool (CV.toB (CV.cellD 4 e30))), (CV.int .i64 (CV.toI (CV.cellD 5 e30))), (CV.int .i64 (CV.toI (CV.cellD 6 e30))), (CV.bool (CV.toB (CV.cellD 7 e30)))]))) ((CV.agg [(CV.int .i64 (CV.toI (CV.cellD 0 e30))), (CV.int .i64 (CV.toI (CV.cellD 1 e30))), (CV.bool (CV.toB (CV.cellD 2 e30))), (CV.bool (CV.toB (CV.cellD 3 e30))), (CV.bool (CV.toB (CV.cellD 4 e30))), (CV.int .i64 (CV.toI (CV.cellD 5 e30))), (CV.int .i64 (CV.toI (CV.cellD 6 e30))), (CV.bool (CV.toB (CV.cellD 7 e30)))]))
else
K (true))
def f3_L1 {X : Type} (R_f6 : f6_R) (R_f7 : f7_R) (R_f8 : f8_R) (R_f10 : f10_R) (R_f9 : f9_R) (R_f11 : f11_R) (R_f12 : f12_R) (k : Nat) (K : Bool → Option X)  (rec1 : Bool × (List CV) × Int × Int → Option X) (v : Bool × (List CV) × Int × Int) : Option X := f3_T1 R_f6 R_f7 R_f8 R_f10 R_f9 R_f11 R_f12 k K   rec1 v
set_option maxRecDepth 100000 in
theorem f3_L1_ev {X : Type} (R_f6 : f6_R) (R_f7 : f7_R) (R_f8 : f8_R) (R_f10 : f10_R) (R_f9 : f9_R) (R_f11 : f11_R) (R_f12 : f12_R) (hR_f6 : AnsOk Try.prog 6 (f6_cOf R_f6)) (hR_f7 : AnsOk Try.prog 7 (f7_cOf R_f7)) (hR_f8 : AnsOk Try.prog 8 (f8_cOf R_f8)) (hR_f10 : AnsOk Try.prog 10 (f10_cOf R_f10)) (hR_f9 : AnsOk Try.prog 9 (f9_cOf R_f9)) (hR_f11 : AnsOk Try.prog 11 (f11_cOf R_f11)) (hR_f12 : AnsOk Try.prog 12 (f12_cOf R_f12)) (k : Nat) (K : Out → Option X)  (r1 : St → Option X) (v : Bool × (List CV) × Int × Int) : loopB (f3_cx R_f6 R_f7 R_f8 R_f10 R_f9 R_f11 R_f12 hR_f6 hR_f7 hR_f8 hR_f10 hR_f9 hR_f11 hR_f12) k [.r, .r, .r, .r, .l, .r, .b] (Try.f3.body.getD .skip) (retK (f3_cx R_f6 R_f7 R_f8 R_f10 R_f9 R_f11 R_f12 hR_f6 hR_f7 hR_f8 hR_f10 hR_f9 hR_f11 hR_f12) [] Try.f3.results.toList K) [] r1 (f3_S1 v) = f3_T1 R_f6 R_f7 R_f8 R_f10 R_f9 R_f11 R_f12 k (fun u => K (f3_out u))   (fun v => r1 (f3_S1 v)) v := by kernel_rfl
theorem f3_L1_it {X : Type} (R_f6 : f6_R) (R_f7 : f7_R) (R_f8 : f8_R) (R_f10 : f10_R) (R_f9 : f9_R) (R_f11 : f11_R) (R_f12 : f12_R) (hR_f6 : AnsOk Try.prog 6 (f6_cOf R_f6)) (hR_f7 : AnsOk Try.prog 7 (f7_cOf R_f7)) (hR_f8 : AnsOk Try.prog 8 (f8_cOf R_f8)) (hR_f10 : AnsOk Try.prog 10 (f10_cOf R_f10)) (hR_f9 : AnsOk Try.prog 9 (f9_cOf R_f9)) (hR_f11 : AnsOk Try.prog 11 (f11_cOf R_f11)) (hR_f12 : AnsOk Try.prog 12 (f12_cOf R_f12)) (k : Nat) (K : Out → Option X)  : (fun v => iter (loopB (f3_cx R_f6 R_f7 R_f8 R_f10 R_f9 R_f11 R_f12 hR_f6 hR_f7 hR_f8 hR_f10 hR_f9 hR_f11 hR_f12) k [.r, .r, .r, .r, .l, .r, .b] (Try.f3.body.getD .skip) (retK (f3_cx R_f6 R_f7 R_f8 R_f10 R_f9 R_f11 R_f12 hR_f6 hR_f7 hR_f8 hR_f10 hR_f9 hR_f11 hR_f12) [] Try.f3.results.toList K) []) k (f3_S1 v)) = iterV (f3_L1 R_f6 R_f7 R_f8 R_f10 R_f9 R_f11 R_f12 k (fun u => K (f3_out u)) ) k :=
  iter_map (fun r1 v => (f3_L1_ev R_f6 R_f7 R_f8 R_f10 R_f9 R_f11 R_f12 hR_f6 hR_f7 hR_f8 hR_f10 hR_f9 hR_f11 hR_f12 k K  r1 v).trans rfl) k
def f3_T {X : Type} (R_f6 : f6_R) (R_f7 : f7_R) (R_f8 : f8_R) (R_f10 : f10_R) (R_f9 : f9_R) (R_f11 : f11_R) (R_f12 : f12_R) (k : Nat) (K : Bool → Option X) (loop1 : Bool × (List CV) × Int × Int → Option X) (x0 : CV) : Option X :=
grd (CV.isA 4 x0) <|
grd (CV.isI .i64 (CV.cellD 0 x0)) <|
grd (CV.isI .i64 (CV.cellD 1 x0)) <|
grd (CV.isB (CV.cellD 2 x0)) <|
grd (CV.isL (some 8) (CV.cellD 3 x0)) <|
R_f6 _ (fun u2 =>
(bif (!u2) then
K (false)
else
(bif (decide ((Nat.cast ((List.length (CV.toL (CV.cellD 3 x0)))) : Int) > 50)) then
K (true)
else
R_f7 _ (fun u3 =>
loop1 (u3, (CV.toL (CV.cellD 3 x0)), (Nat.cast ((List.length (CV.toL (CV.cellD 3 x0)))) : Int), 0)) ((CV.agg [(CV.int .i64 (CV.toI (CV.cellD 0 x0))), (CV.int .i64 (CV.toI (CV.cellD 1 x0))), (CV.bool (CV.toB (CV.cellD 2 x0))), (CV.slc (some 8) (CV.toL (CV.cellD 3 x0)))]))))) 
/-- "outpost/outpostlaw18.SchemaBlanks" -/
def f3_A (R_f6 : f6_R) (R_f7 : f7_R) (R_f8 : f8_R) (R_f10 : f10_R) (R_f9 : f9_R) (R_f11 : f11_R) (R_f12 : f12_R) (k : Nat) : f3_R := fun X K x0 => f3_T R_f6 R_f7 R_f8 R_f10 R_f9 R_f11 R_f12 k K (iterV (f3_L1 R_f6 R_f7 R_f8 R_f10 R_f9 R_f11 R_f12 k K) k) x0
set_option maxRecDepth 100000 in
theorem f3_ev' {X : Type} (R_f6 : f6_R) (R_f7 : f7_R) (R_f8 : f8_R) (R_f10 : f10_R) (R_f9 : f9_R) (R_f11 : f11_R) (R_f12 : f12_R) (hR_f6 : AnsOk Try.prog 6 (f6_cOf R_f6)) (hR_f7 : AnsOk Try.prog 7 (f7_cOf R_f7)) (hR_f8 : AnsOk Try.prog 8 (f8_cOf R_f8)) (hR_f10 : AnsOk Try.prog 10 (f10_cOf R_f10)) (hR_f9 : AnsOk Try.prog 9 (f9_cOf R_f9)) (hR_f11 : AnsOk Try.prog 11 (f11_cOf R_f11)) (hR_f12 : AnsOk Try.prog 12 (f12_cOf R_f12)) (k : Nat) (K : Out → Option X) (x0 : CV) : evFn (f3_cx R_f6 R_f7 R_f8 R_f10 R_f9 R_f11 R_f12 hR_f6 hR_f7 hR_f8 hR_f10 hR_f9 hR_f11 hR_f12) [] k Try.f3.ntmps Try.f3.results.toList (Try.f3.body.getD .skip) [(.v x0)] [] K = f3_T R_f6 R_f7 R_f8 R_f10 R_f9 R_f11 R_f12 k (fun u => K (f3_out u)) (fun v => iter (loopB (f3_cx R_f6 R_f7 R_f8 R_f10 R_f9 R_f11 R_f12 hR_f6 hR_f7 hR_f8 hR_f10 hR_f9 hR_f11 hR_f12) k [.r, .r, .r, .r, .l, .r, .b] (Try.f3.body.getD .skip) (retK (f3_cx R_f6 R_f7 R_f8 R_f10 R_f9 R_f11 R_f12 hR_f6 hR_f7 hR_f8 hR_f10 hR_f9 hR_f11 hR_f12) [] Try.f3.results.toList K) []) k (f3_S1 v)) x0 := by kernel_rfl
theorem f3_ev {X : Type} (R_f6 : f6_R) (R_f7 : f7_R) (R_f8 : f8_R) (R_f10 : f10_R) (R_f9 : f9_R) (R_f11 : f11_R) (R_f12 : f12_R) (hR_f6 : AnsOk Try.prog 6 (f6_cOf R_f6)) (hR_f7 : AnsOk Try.prog 7 (f7_cOf R_f7)) (hR_f8 : AnsOk Try.prog 8 (f8_cOf R_f8)) (hR_f10 : AnsOk Try.prog 10 (f10_cOf R_f10)) (hR_f9 : AnsOk Try.prog 9 (f9_cOf R_f9)) (hR_f11 : AnsOk Try.prog 11 (f11_cOf R_f11)) (hR_f12 : AnsOk Try.prog 12 (f12_cOf R_f12)) (k : Nat) (K : Out → Option X) (x0 : CV) : evFn (f3_cx R_f6 R_f7 R_f8 R_f10 R_f9 R_f11 R_f12 hR_f6 hR_f7 hR_f8 hR_f10 hR_f9 hR_f11 hR_f12) [] k Try.f3.ntmps Try.f3.results.toList (Try.f3.body.getD .skip) [(.v x0)] [] K = f3_A R_f6 R_f7 R_f8 R_f10 R_f9 R_f11 R_f12 k X (fun u => K (f3_out u)) x0 := (f3_ev' R_f6 R_f7 R_f8 R_f10 R_f9 R_f11 R_f12 hR_f6 hR_f7 hR_f8 hR_f10 hR_f9 hR_f11 hR_f12 k K x0).trans (by rw [f3_L1_it R_f6 R_f7 R_f8 R_f10 R_f9 R_f11 R_f12 hR_f6 hR_f7 hR_f8 hR_f10 hR_f9 hR_f11 hR_f12 k K]; rfl)
theorem f3_okA (R_f6 : f6_R) (R_f7 : f7_R) (R_f8 : f8_R) (R_f10 : f10_R) (R_f9 : f9_R) (R_f11 : f11_R) (R_f12 : f12_R) (hR_f6 : AnsOk Try.prog 6 (f6_cOf R_f6)) (hR_f7 : AnsOk Try.prog 7 (f7_cOf R_f7)) (hR_f8 : AnsOk Try.prog 8 (f8_cOf R_f8)) (hR_f10 : AnsOk Try.prog 10 (f10_cOf R_f10)) (hR_f9 : AnsOk Try.prog 9 (f9_cOf R_f9)) (hR_f11 : AnsOk Try.prog 11 (f11_cOf R_f11)) (hR_f12 : AnsOk Try.prog 12 (f12_cOf R_f12)) (k : Nat) : AnsOk Try.prog 3 (f3_cOf (f3_A R_f6 R_f7 R_f8 R_f10 R_f9 R_f11 R_f12 k)) := by
  intro X xs ns K x h
  unfold f3_cOf at h ⊢
  split at h
  · exact ans_main S (f3_Cok R_f6 R_f7 R_f8 R_f10 R_f9 R_f11 R_f12 hR_f6 hR_f7 hR_f8 hR_f10 hR_f9 hR_f11 hR_f12) Try.func3 (ent_of Try.func3 (by kernel_rfl) rfl) rfl (fun X K => f3_ev R_f6 R_f7 R_f8 R_f10 R_f9 R_f11 R_f12 hR_f6 hR_f7 hR_f8 hR_f10 hR_f9 hR_f11 hR_f12 k K _) h
  · cases h
/-- "outpost/outpostlaw18.SchemaBlanks" -/
def f3 {X : Type} (k : Nat) (K : Bool → Option X) (x0 : CV) : Option X := f3_A (fun X => @f6 X k) (fun X => @f7 X k) (fun X => @f8 X k) (fun X => @f10 X k) (fun X => @f9 X k) (fun X => @f11 X k) (fun X => @f12 X k) k X K x0
theorem f3_ok (k : Nat) : AnsOk Try.prog 3 (f3_cOf (fun X => @f3 X k)) := f3_okA (fun X => @f6 X k) (fun X => @f7 X k) (fun X => @f8 X k) (fun X => @f10 X k) (fun X => @f9 X k) (fun X => @f11 X k) (fun X => @f12 X k) (f6_ok k) (f7_ok k) (f8_ok k) (f10_ok k) (f9_ok k) (f11_ok k) (f12_ok k) k
end Go.Proofs.YtoijlllboghpcaaD
