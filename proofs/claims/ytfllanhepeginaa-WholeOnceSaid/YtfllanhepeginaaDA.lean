/- Functions of the program, as plain Lean functions: each with the proof that the evaluator computes it. (Printed by wip/dec/dec.py.) -/
import Derived.Test.YtfllanhepeginaaTN
import Derived.Test.YtfllanhepeginaaTO
import Derived.Test.YtfllanhepeginaaTR
import Derived.Test.YtfllanhepeginaaProg
import Derived.Test.YtfllanhepeginaaChecked
namespace Go.Proofs.YtfllanhepeginaaD
open Go Go.Proofs.YtfllanhepeginaaS Go.Proofs
set_option linter.unusedVariables false
set_option linter.unusedSimpArgs false
def rows : List (Nat × TI) := [
  (2, ⟨(.int .i64), 1, 8, .v (.int .i64 0)⟩),
  (3, ⟨(.int .i64), 1, 8, .v (.int .i64 0)⟩),
  (4, ⟨.bool, 1, 1, .v (.bool false)⟩),
  (5, ⟨(.int .u8), 1, 1, .v (.int .u8 0)⟩),
  (22, ⟨(.slice 32), 1, 24, .nil0 (some 6)⟩),
  (23, ⟨(.slice 3), 1, 24, .nil0 none⟩),
  (25, ⟨(.ptr 57), 1, 8, .v .nilp⟩),
  (27, ⟨(.ptr 60), 1, 8, .v .nilp⟩),
  (29, ⟨(.slice 5), 1, 24, .nil0 none⟩),
  (30, ⟨(.slice 86), 1, 24, .nil0 (some 2)⟩),
  (32, ⟨(.struct [(0, 3), (1, 3), (2, 3), (3, 29), (4, 30), (5, 29)]), 6, 96, .agg [.v (.int .i64 0), .v (.int .i64 0), .v (.int .i64 0), .nil0 none, .nil0 (some 2), .nil0 none]⟩),
  (34, ⟨(.int .i64), 1, 8, .v (.int .i64 0)⟩),
  (40, ⟨(.slice 43), 1, 24, .nil0 (some 4)⟩),
  (43, ⟨(.struct [(0, 3), (1, 3), (2, 29), (3, 4)]), 4, 48, .agg [.v (.int .i64 0), .v (.int .i64 0), .nil0 none, .v (.bool false)]⟩),
  (55, ⟨(.slice 79), 1, 24, .nil0 (some 4)⟩),
  (57, ⟨(.struct [(0, 55)]), 1, 24, .agg [.nil0 (some 4)]⟩),
  (58, ⟨(.slice 70), 1, 24, .nil0 (some 6)⟩),
  (60, ⟨(.struct [(0, 58), (1, 2)]), 2, 32, .agg [.nil0 (some 6), .v (.int .i64 0)]⟩),
  (64, ⟨(.int .u64), 1, 8, .v (.int .u64 0)⟩),
  (70, ⟨(.struct [(0, 3), (1, 3), (2, 29), (3, 2), (4, 2), (5, 3)]), 6, 64, .agg [.v (.int .i64 0), .v (.int .i64 0), .nil0 none, .v (.int .i64 0), .v (.int .i64 0), .v (.int .i64 0)]⟩),
  (79, ⟨(.struct [(0, 3), (1, 3), (2, 2), (3, 29)]), 4, 48, .agg [.v (.int .i64 0), .v (.int .i64 0), .v (.int .i64 0), .nil0 none]⟩),
  (86, ⟨(.struct [(0, 3), (1, 29)]), 2, 32, .agg [.v (.int .i64 0), .nil0 none]⟩),
  (90, ⟨(.slice 29), 1, 24, .nil0 none⟩),
  (92, ⟨(.ptr 70), 1, 8, .v .nilp⟩),
  (93, ⟨(.ptr 95), 1, 8, .v .nilp⟩),
  (95, ⟨(.struct [(0, 29), (1, 3)]), 2, 32, .agg [.nil0 none, .v (.int .i64 0)]⟩)]
set_option maxRecDepth 100000 in
theorem rows_ok : rowsAre Try.prog rows = true := by kernel_rfl
def cmps : List Nat := []
theorem cmps_ok : cmpsAre Try.prog cmps = true := by kernel_rfl
def S : Seat Try.prog := ⟨rows, rows_ok, Try.checked.mixed, cmps, cmps_ok⟩
def md (g : FuncId) (i : Nat) : Nat := (bif Nat.beq g 66 && Nat.beq i 0 then 2 else (bif Nat.beq g 65 && Nat.beq i 0 then 2 else (bif Nat.beq g 64 && Nat.beq i 0 then 2 else (bif Nat.beq g 63 && Nat.beq i 0 then 2 else (bif Nat.beq g 61 && Nat.beq i 0 then 2 else (bif Nat.beq g 56 && Nat.beq i 0 then 2 else (bif Nat.beq g 46 && Nat.beq i 0 then 2 else (bif Nat.beq g 42 && Nat.beq i 0 then 2 else (bif Nat.beq g 38 && Nat.beq i 0 then 2 else (bif Nat.beq g 37 && Nat.beq i 0 then 1 else (bif Nat.beq g 33 && Nat.beq i 0 then 1 else (bif Nat.beq g 24 && Nat.beq i 0 then 1 else (bif Nat.beq g 16 && Nat.beq i 4 then 1 else (bif Nat.beq g 16 && Nat.beq i 3 then 1 else (bif Nat.beq g 16 && Nat.beq i 0 then 1 else (bif Nat.beq g 14 && Nat.beq i 0 then 1 else (bif Nat.beq g 9 && Nat.beq i 0 then 1 else (bif Nat.beq g 8 && Nat.beq i 0 then 1 else (bif Nat.beq g 7 && Nat.beq i 0 then 1 else 0)))))))))))))))))))
def setRun {X : Type} (e : CV) (j n : Nat) (cs : List CV) (K : CV → Option X) : Option X := match e with
  | .agg ds => grd (Nat.ble (j + n) ds.length) (K (.agg (putRun ds j cs)))
  | _ => none
def setCell {X : Type} (e : CV) (j : Nat) (c : CV) (K : CV → Option X) : Option X := match e with
  | .agg ds => grd (Nat.blt j ds.length) (K (.agg (ds.set j c)))
  | _ => none
abbrev f26_R : Type 1 := (X : Type) → (Int → Option X) → Int → Option X
def f26_out (u : Int) : Out := ⟨(.v (CV.int .i64 u)), []⟩
def f26_cOf (R : f26_R) : FnC := fun X xs ns K => match xs, ns with
  | [(.v (CV.int .i64 x0))], [] => R X (fun u => K (f26_out u)) x0
  | _, _ => none
def f26_plan : Nat → Option (List Nat × List Wk)
  | 0 => some ([0], [])
  | 1 => some ([0], [])
  | _ => none
def f26_C : Fns := noC
theorem f26_Cok : CsOk Try.prog (f26_C) := noC_ok
def f26_cx : Cx := mkCx (tabOf rows) (f26_C) md (cmpIn cmps) f26_plan (f26_Cok)
def f26_T {X : Type} (k : Nat) (K : Int → Option X)  (x0 : Int) : Option X :=
K ((Int.fdiv x0 (2 ^ 5)))
/-- "outpost/msg.class" -/
def f26_A (k : Nat) : f26_R := fun X K x0 => f26_T k K  x0
set_option maxRecDepth 100000 in
theorem f26_ev' {X : Type} (k : Nat) (K : Out → Option X) (x0 : Int) : evFn (f26_cx) [] k Try.f26.ntmps Try.f26.results.toList (Try.f26.body.getD .skip) [(.v (CV.int .i64 x0))] [] K = f26_T k (fun u => K (f26_out u)) x0 := by kernel_rfl
theorem f26_ev {X : Type} (k : Nat) (K : Out → Option X) (x0 : Int) : evFn (f26_cx) [] k Try.f26.ntmps Try.f26.results.toList (Try.f26.body.getD .skip) [(.v (CV.int .i64 x0))] [] K = f26_A k X (fun u => K (f26_out u)) x0 := (f26_ev' k K x0).trans rfl
theorem f26_okA (k : Nat) : AnsOk Try.prog 26 (f26_cOf (f26_A k)) := by
  intro X xs ns K x h
  unfold f26_cOf at h ⊢
  split at h
  · exact ans_main S (f26_Cok) Try.func26 (ent_of Try.func26 (by kernel_rfl) rfl) rfl (fun X K => f26_ev k K _) h
  · cases h
/-- "outpost/msg.class" -/
def f26 {X : Type} (k : Nat) (K : Int → Option X) (x0 : Int) : Option X := f26_A k X K x0
theorem f26_ok (k : Nat) : AnsOk Try.prog 26 (f26_cOf (fun X => @f26 X k)) := f26_okA k
abbrev f22_R : Type 1 := (X : Type) → (Bool → Option X) → Int → Option X
def f22_out (u : Bool) : Out := ⟨(.v (CV.bool u)), []⟩
def f22_cOf (R : f22_R) : FnC := fun X xs ns K => match xs, ns with
  | [(.v (CV.int .i64 x0))], [] => R X (fun u => K (f22_out u)) x0
  | _, _ => none
def f22_plan : Nat → Option (List Nat × List Wk)
  | 0 => some ([0], [])
  | 1 => some ([0], [])
  | 2 => some ([4], [])
  | 3 => some ([4], [])
  | 4 => some ([4], [])
  | 5 => some ([4], [])
  | 6 => some ([4], [])
  | 7 => some ([], [])
  | 8 => some ([], [])
  | _ => none
def f22_C (R_f26 : f26_R) : Fns := (orC 26 (f26_cOf R_f26) noC)
theorem f22_Cok (R_f26 : f26_R) (hR_f26 : AnsOk Try.prog 26 (f26_cOf R_f26)) : CsOk Try.prog (f22_C R_f26) := (orC_ok hR_f26 noC_ok)
def f22_cx (R_f26 : f26_R) (hR_f26 : AnsOk Try.prog 26 (f26_cOf R_f26)) : Cx := mkCx (tabOf rows) (f22_C R_f26) md (cmpIn cmps) f22_plan (f22_Cok R_f26 hR_f26)
def f22_J1 {X : Type} (R_f26 : f26_R) (k : Nat) (K : Bool → Option X)  (v3 : Bool) : Option X :=
(bif v3 then
K (true)
else
K (false))
def f22_T {X : Type} (R_f26 : f26_R) (k : Nat) (K : Bool → Option X)  (x0 : Int) : Option X :=
R_f26 _ (fun u2 =>
(bif (u2 == 0) then
f22_J1 R_f26 k K ((u2 == 0))
else
(bif (u2 == 2) then
f22_J1 R_f26 k K ((u2 == 2))
else
(bif (u2 == 3) then
f22_J1 R_f26 k K ((u2 == 3))
else
(bif (u2 == 4) then
f22_J1 R_f26 k K ((u2 == 4))
else
f22_J1 R_f26 k K ((u2 == 5))))))) (x0)
/-- "outpost/msg.used" -/
def f22_A (R_f26 : f26_R) (k : Nat) : f22_R := fun X K x0 => f22_T R_f26 k K  x0
set_option maxRecDepth 100000 in
theorem f22_ev' {X : Type} (R_f26 : f26_R) (hR_f26 : AnsOk Try.prog 26 (f26_cOf R_f26)) (k : Nat) (K : Out → Option X) (x0 : Int) : evFn (f22_cx R_f26 hR_f26) [] k Try.f22.ntmps Try.f22.results.toList (Try.f22.body.getD .skip) [(.v (CV.int .i64 x0))] [] K = f22_T R_f26 k (fun u => K (f22_out u)) x0 := by kernel_rfl
theorem f22_ev {X : Type} (R_f26 : f26_R) (hR_f26 : AnsOk Try.prog 26 (f26_cOf R_f26)) (k : Nat) (K : Out → Option X) (x0 : Int) : evFn (f22_cx R_f26 hR_f26) [] k Try.f22.ntmps Try.f22.results.toList (Try.f22.body.getD .skip) [(.v (CV.int .i64 x0))] [] K = f22_A R_f26 k X (fun u => K (f22_out u)) x0 := (f22_ev' R_f26 hR_f26 k K x0).trans rfl
theorem f22_okA (R_f26 : f26_R) (hR_f26 : AnsOk Try.prog 26 (f26_cOf R_f26)) (k : Nat) : AnsOk Try.prog 22 (f22_cOf (f22_A R_f26 k)) := by
  intro X xs ns K x h
  unfold f22_cOf at h ⊢
  split at h
  · exact ans_main S (f22_Cok R_f26 hR_f26) Try.func22 (ent_of Try.func22 (by kernel_rfl) rfl) rfl (fun X K => f22_ev R_f26 hR_f26 k K _) h
  · cases h
/-- "outpost/msg.used" -/
def f22 {X : Type} (k : Nat) (K : Bool → Option X) (x0 : Int) : Option X := f22_A (fun X => @f26 X k) k X K x0
theorem f22_ok (k : Nat) : AnsOk Try.prog 22 (f22_cOf (fun X => @f22 X k)) := f22_okA (fun X => @f26 X k) (f26_ok k) k
abbrev f23_R : Type 1 := (X : Type) → (Bool → Option X) → CV → Option X
def f23_out (u : Bool) : Out := ⟨(.v (CV.bool u)), []⟩
def f23_cOf (R : f23_R) : FnC := fun X xs ns K => match xs, ns with
  | [(.v x0)], [] => R X (fun u => K (f23_out u)) x0
  | _, _ => none
def f23_plan : Nat → Option (List Nat × List Wk)
  | 0 => some ([0], [])
  | 1 => some ([1], [])
  | _ => none
def f23_C : Fns := noC
theorem f23_Cok : CsOk Try.prog (f23_C) := noC_ok
def f23_cx : Cx := mkCx (tabOf rows) (f23_C) md (cmpIn cmps) f23_plan (f23_Cok)
def f23_T {X : Type} (k : Nat) (K : Bool → Option X)  (x0 : CV) : Option X :=
grd (CV.isA 6 x0) <|
grd (CV.isI .i64 (CV.cellD 0 x0)) <|
grd (CV.isI .i64 (CV.cellD 1 x0)) <|
grd (CV.isI .i64 (CV.cellD 2 x0)) <|
grd (CV.isL none (CV.cellD 3 x0)) <|
grd (CV.isL (some 2) (CV.cellD 4 x0)) <|
grd (CV.isL none (CV.cellD 5 x0)) <|
(bif ((Nat.cast ((List.length (CV.toL (CV.cellD 3 x0)))) : Int) == 0) then
(bif ((Nat.cast ((List.length (CV.toL (CV.cellD 4 x0)))) : Int) == 0) then
K (((Nat.cast ((List.length (CV.toL (CV.cellD 5 x0)))) : Int) == 0))
else
K (false))
else
K (false))
/-- "outpost/msg.bare" -/
def f23_A (k : Nat) : f23_R := fun X K x0 => f23_T k K  x0
set_option maxRecDepth 100000 in
theorem f23_ev' {X : Type} (k : Nat) (K : Out → Option X) (x0 : CV) : evFn (f23_cx) [] k Try.f23.ntmps Try.f23.results.toList (Try.f23.body.getD .skip) [(.v x0)] [] K = f23_T k (fun u => K (f23_out u)) x0 := by kernel_rfl
theorem f23_ev {X : Type} (k : Nat) (K : Out → Option X) (x0 : CV) : evFn (f23_cx) [] k Try.f23.ntmps Try.f23.results.toList (Try.f23.body.getD .skip) [(.v x0)] [] K = f23_A k X (fun u => K (f23_out u)) x0 := (f23_ev' k K x0).trans rfl
theorem f23_okA (k : Nat) : AnsOk Try.prog 23 (f23_cOf (f23_A k)) := by
  intro X xs ns K x h
  unfold f23_cOf at h ⊢
  split at h
  · exact ans_main S (f23_Cok) Try.func23 (ent_of Try.func23 (by kernel_rfl) rfl) rfl (fun X K => f23_ev k K _) h
  · cases h
/-- "outpost/msg.bare" -/
def f23 {X : Type} (k : Nat) (K : Bool → Option X) (x0 : CV) : Option X := f23_A k X K x0
theorem f23_ok (k : Nat) : AnsOk Try.prog 23 (f23_cOf (fun X => @f23 X k)) := f23_okA k
abbrev f53_R : Type 1 := (X : Type) → (Bool → Option X) → CV → Option X
def f53_out (u : Bool) : Out := ⟨(.v (CV.bool u)), []⟩
def f53_cOf (R : f53_R) : FnC := fun X xs ns K => match xs, ns with
  | [(.v x0)], [] => R X (fun u => K (f53_out u)) x0
  | _, _ => none
def f53_plan : Nat → Option (List Nat × List Wk)
  | 0 => some ([0], [])
  | 1 => some ([1], [])
  | _ => none
def f53_C : Fns := noC
theorem f53_Cok : CsOk Try.prog (f53_C) := noC_ok
def f53_cx : Cx := mkCx (tabOf rows) (f53_C) md (cmpIn cmps) f53_plan (f53_Cok)
def f53_T {X : Type} (k : Nat) (K : Bool → Option X)  (x0 : CV) : Option X :=
grd (CV.isA 2 x0) <|
grd (CV.isI .i64 (CV.cellD 0 x0)) <|
grd (CV.isL none (CV.cellD 1 x0)) <|
(bif (decide ((CV.toI (CV.cellD 0 x0)) < 0)) then
K (true)
else
K ((decide ((CV.toI (CV.cellD 0 x0)) > 65535))))
/-- "outpost/opt.fault$1" -/
def f53_A (k : Nat) : f53_R := fun X K x0 => f53_T k K  x0
set_option maxRecDepth 100000 in
theorem f53_ev' {X : Type} (k : Nat) (K : Out → Option X) (x0 : CV) : evFn (f53_cx) [] k Try.f53.ntmps Try.f53.results.toList (Try.f53.body.getD .skip) [(.v x0)] [] K = f53_T k (fun u => K (f53_out u)) x0 := by kernel_rfl
theorem f53_ev {X : Type} (k : Nat) (K : Out → Option X) (x0 : CV) : evFn (f53_cx) [] k Try.f53.ntmps Try.f53.results.toList (Try.f53.body.getD .skip) [(.v x0)] [] K = f53_A k X (fun u => K (f53_out u)) x0 := (f53_ev' k K x0).trans rfl
theorem f53_okA (k : Nat) : AnsOk Try.prog 53 (f53_cOf (f53_A k)) := by
  intro X xs ns K x h
  unfold f53_cOf at h ⊢
  split at h
  · exact ans_main S (f53_Cok) Try.func53 (ent_of Try.func53 (by kernel_rfl) rfl) rfl (fun X K => f53_ev k K _) h
  · cases h
/-- "outpost/opt.fault$1" -/
def f53 {X : Type} (k : Nat) (K : Bool → Option X) (x0 : CV) : Option X := f53_A k X K x0
theorem f53_ok (k : Nat) : AnsOk Try.prog 53 (f53_cOf (fun X => @f53 X k)) := f53_okA k
abbrev f60_R : Type 1 := (X : Type) → (Int → Option X) → (List CV) → Option X
def f60_out (u : Int) : Out := ⟨(.v (CV.int .i64 u)), []⟩
def f60_cOf (R : f60_R) : FnC := fun X xs ns K => match xs, ns with
  | [(.sl false (some 2) x0), (.fn 53 [])], [] => R X (fun u => K (f60_out u)) x0
  | _, _ => none
def f60_is (xs : List AVal) (ns : Nodes) : Bool := match xs, ns with
  | [(.sl false (some 2) x0), (.fn 53 [])], [] => true
  | _, _ => false
def f60_plan : Nat → Option (List Nat × List Wk)
  | 0 => some ([0, 1], [])
  | 1 => some ([0, 1], [])
  | 2 => some ([0, 1, 7, 8], [])
  | 3 => some ([0, 1, 7, 8], [])
  | 4 => some ([0, 1, 5, 7, 8], [])
  | 5 => some ([5], [])
  | 6 => some ([0, 1, 7, 8], [])
  | 7 => some ([], [])
  | _ => none
def f60_C (R_f53 : f53_R) : Fns := (orC 53 (f53_cOf R_f53) noC)
theorem f60_Cok (R_f53 : f53_R) (hR_f53 : AnsOk Try.prog 53 (f53_cOf R_f53)) : CsOk Try.prog (f60_C R_f53) := (orC_ok hR_f53 noC_ok)
def f60_cx (R_f53 : f53_R) (hR_f53 : AnsOk Try.prog 53 (f53_cOf R_f53)) : Cx := mkCx (tabOf rows) (f60_C R_f53) md (cmpIn cmps) f60_plan (f60_Cok R_f53 hR_f53)
def f60_S1 (v : (List CV) × Int × Int) : St := ⟨[(.sl false (some 2) v.1), (.fn 53 []), .undef, .undef, .undef, .undef, .undef, (.v (CV.int .i64 v.2.1)), (.v (CV.int .i64 v.2.2)), .undef, .undef, .undef, .undef, .undef, .undef, .undef, .undef, .undef, .undef], []⟩
def f60_T1 {X : Type} (R_f53 : f53_R) (k : Nat) (K : Int → Option X)   (rec1 : (List CV) × Int × Int → Option X) (v4_0 : (List CV) × Int × Int) : Option X :=
(bif (decide (v4_0.2.2 < v4_0.2.1)) then
grd (decide (0 ≤ v4_0.2.2)) <|
Option.bind (v4_0.1)[(Int.toNat v4_0.2.2)]? fun e8 =>
R_f53 _ (fun u9 =>
(bif u9 then
K (v4_0.2.2)
else
rec1 (v4_0.1, v4_0.2.1, (IntKind.wrap .i64 (v4_0.2.2 + 1))))) (e8)
else
K ((-1)))
def f60_L1 {X : Type} (R_f53 : f53_R) (k : Nat) (K : Int → Option X)  (rec1 : (List CV) × Int × Int → Option X) (v : (List CV) × Int × Int) : Option X := f60_T1 R_f53 k K   rec1 v
set_option maxRecDepth 100000 in
theorem f60_L1_ev {X : Type} (R_f53 : f53_R) (hR_f53 : AnsOk Try.prog 53 (f53_cOf R_f53)) (k : Nat) (K : Out → Option X)  (r1 : St → Option X) (v : (List CV) × Int × Int) : loopB (f60_cx R_f53 hR_f53) k [.r, .l, .r, .b] (Try.f60.body.getD .skip) (retK (f60_cx R_f53 hR_f53) [] Try.f60.results.toList K) [] r1 (f60_S1 v) = f60_T1 R_f53 k (fun u => K (f60_out u))   (fun v => r1 (f60_S1 v)) v := by kernel_rfl
theorem f60_L1_it {X : Type} (R_f53 : f53_R) (hR_f53 : AnsOk Try.prog 53 (f53_cOf R_f53)) (k : Nat) (K : Out → Option X)  : (fun v => iter (loopB (f60_cx R_f53 hR_f53) k [.r, .l, .r, .b] (Try.f60.body.getD .skip) (retK (f60_cx R_f53 hR_f53) [] Try.f60.results.toList K) []) k (f60_S1 v)) = iterV (f60_L1 R_f53 k (fun u => K (f60_out u)) ) k :=
  iter_map (fun r1 v => (f60_L1_ev R_f53 hR_f53 k K  r1 v).trans rfl) k
def f60_T {X : Type} (R_f53 : f53_R) (k : Nat) (K : Int → Option X) (loop1 : (List CV) × Int × Int → Option X) (x0 : List CV) : Option X :=
loop1 (x0, (Nat.cast ((List.length x0)) : Int), 0)
/-- "slices.IndexFunc[[]outpost/api.Opt,outpost/api.Opt]" -/
def f60_A (R_f53 : f53_R) (k : Nat) : f60_R := fun X K x0 => f60_T R_f53 k K (iterV (f60_L1 R_f53 k K) k) x0
set_option maxRecDepth 100000 in
theorem f60_ev' {X : Type} (R_f53 : f53_R) (hR_f53 : AnsOk Try.prog 53 (f53_cOf R_f53)) (k : Nat) (K : Out → Option X) (x0 : List CV) : evFn (f60_cx R_f53 hR_f53) [] k Try.f60.ntmps Try.f60.results.toList (Try.f60.body.getD .skip) [(.sl false (some 2) x0), (.fn 53 [])] [] K = f60_T R_f53 k (fun u => K (f60_out u)) (fun v => iter (loopB (f60_cx R_f53 hR_f53) k [.r, .l, .r, .b] (Try.f60.body.getD .skip) (retK (f60_cx R_f53 hR_f53) [] Try.f60.results.toList K) []) k (f60_S1 v)) x0 := by kernel_rfl
theorem f60_ev {X : Type} (R_f53 : f53_R) (hR_f53 : AnsOk Try.prog 53 (f53_cOf R_f53)) (k : Nat) (K : Out → Option X) (x0 : List CV) : evFn (f60_cx R_f53 hR_f53) [] k Try.f60.ntmps Try.f60.results.toList (Try.f60.body.getD .skip) [(.sl false (some 2) x0), (.fn 53 [])] [] K = f60_A R_f53 k X (fun u => K (f60_out u)) x0 := (f60_ev' R_f53 hR_f53 k K x0).trans (by rw [f60_L1_it R_f53 hR_f53 k K]; rfl)
theorem f60_okA (R_f53 : f53_R) (hR_f53 : AnsOk Try.prog 53 (f53_cOf R_f53)) (k : Nat) : AnsOk Try.prog 60 (f60_cOf (f60_A R_f53 k)) := by
  intro X xs ns K x h
  unfold f60_cOf at h ⊢
  split at h
  · exact ans_main S (f60_Cok R_f53 hR_f53) Try.func60 (ent_of Try.func60 (by kernel_rfl) rfl) rfl (fun X K => f60_ev R_f53 hR_f53 k K _) h
  · cases h
/-- "slices.IndexFunc[[]outpost/api.Opt,outpost/api.Opt]" -/
def f60 {X : Type} (k : Nat) (K : Int → Option X) (x0 : List CV) : Option X := f60_A (fun X => @f53 X k) k X K x0
theorem f60_ok (k : Nat) : AnsOk Try.prog 60 (f60_cOf (fun X => @f60 X k)) := f60_okA (fun X => @f53 X k) (f53_ok k) k
abbrev f52_R : Type 1 := (X : Type) → (Bool → Option X) → (List CV) → Option X
def f52_out (u : Bool) : Out := ⟨(.v (CV.bool u)), []⟩
def f52_cOf (R : f52_R) : FnC := fun X xs ns K => match xs, ns with
  | [(.sl false (some 2) x0), (.fn 53 [])], [] => R X (fun u => K (f52_out u)) x0
  | _, _ => none
def f52_is (xs : List AVal) (ns : Nodes) : Bool := match xs, ns with
  | [(.sl false (some 2) x0), (.fn 53 [])], [] => true
  | _, _ => false
def f52_plan : Nat → Option (List Nat × List Wk)
  | 0 => some ([0, 1], [])
  | 1 => some ([0, 1], [])
  | _ => none
def f52_C (R_f60 : f60_R) : Fns := (orC 60 (f60_cOf R_f60) noC)
theorem f52_Cok (R_f60 : f60_R) (hR_f60 : AnsOk Try.prog 60 (f60_cOf R_f60)) : CsOk Try.prog (f52_C R_f60) := (orC_ok hR_f60 noC_ok)
def f52_cx (R_f60 : f60_R) (hR_f60 : AnsOk Try.prog 60 (f60_cOf R_f60)) : Cx := mkCx (tabOf rows) (f52_C R_f60) md (cmpIn cmps) f52_plan (f52_Cok R_f60 hR_f60)
def f52_T {X : Type} (R_f60 : f60_R) (k : Nat) (K : Bool → Option X)  (x0 : List CV) : Option X :=
R_f60 _ (fun u1 =>
K ((decide (u1 ≥ 0)))) (x0)
/-- "slices.ContainsFunc[[]outpost/api.Opt,outpost/api.Opt]" -/
def f52_A (R_f60 : f60_R) (k : Nat) : f52_R := fun X K x0 => f52_T R_f60 k K  x0
set_option maxRecDepth 100000 in
theorem f52_ev' {X : Type} (R_f60 : f60_R) (hR_f60 : AnsOk Try.prog 60 (f60_cOf R_f60)) (k : Nat) (K : Out → Option X) (x0 : List CV) : evFn (f52_cx R_f60 hR_f60) [] k Try.f52.ntmps Try.f52.results.toList (Try.f52.body.getD .skip) [(.sl false (some 2) x0), (.fn 53 [])] [] K = f52_T R_f60 k (fun u => K (f52_out u)) x0 := by kernel_rfl
theorem f52_ev {X : Type} (R_f60 : f60_R) (hR_f60 : AnsOk Try.prog 60 (f60_cOf R_f60)) (k : Nat) (K : Out → Option X) (x0 : List CV) : evFn (f52_cx R_f60 hR_f60) [] k Try.f52.ntmps Try.f52.results.toList (Try.f52.body.getD .skip) [(.sl false (some 2) x0), (.fn 53 [])] [] K = f52_A R_f60 k X (fun u => K (f52_out u)) x0 := (f52_ev' R_f60 hR_f60 k K x0).trans rfl
theorem f52_okA (R_f60 : f60_R) (hR_f60 : AnsOk Try.prog 60 (f60_cOf R_f60)) (k : Nat) : AnsOk Try.prog 52 (f52_cOf (f52_A R_f60 k)) := by
  intro X xs ns K x h
  unfold f52_cOf at h ⊢
  split at h
  · exact ans_main S (f52_Cok R_f60 hR_f60) Try.func52 (ent_of Try.func52 (by kernel_rfl) rfl) rfl (fun X K => f52_ev R_f60 hR_f60 k K _) h
  · cases h
/-- "slices.ContainsFunc[[]outpost/api.Opt,outpost/api.Opt]" -/
def f52 {X : Type} (k : Nat) (K : Bool → Option X) (x0 : List CV) : Option X := f52_A (fun X => @f60 X k) k X K x0
theorem f52_ok (k : Nat) : AnsOk Try.prog 52 (f52_cOf (fun X => @f52 X k)) := f52_okA (fun X => @f60 X k) (f60_ok k) k
abbrev f54_R : Type 1 := (X : Type) → (Bool → Option X) → CV → Option X
def f54_out (u : Bool) : Out := ⟨(.v (CV.bool u)), []⟩
def f54_cOf (R : f54_R) : FnC := fun X xs ns K => match xs, ns with
  | [(.v x0)], [] => R X (fun u => K (f54_out u)) x0
  | _, _ => none
def f54_plan : Nat → Option (List Nat × List Wk)
  | 0 => some ([0], [])
  | 1 => some ([1], [])
  | _ => none
def f54_C : Fns := noC
theorem f54_Cok : CsOk Try.prog (f54_C) := noC_ok
def f54_cx : Cx := mkCx (tabOf rows) (f54_C) md (cmpIn cmps) f54_plan (f54_Cok)
def f54_T {X : Type} (k : Nat) (K : Bool → Option X)  (x0 : CV) : Option X :=
grd (CV.isA 2 x0) <|
grd (CV.isI .i64 (CV.cellD 0 x0)) <|
grd (CV.isL none (CV.cellD 1 x0)) <|
K ((decide ((Nat.cast ((List.length (CV.toL (CV.cellD 1 x0)))) : Int) > 300)))
/-- "outpost/opt.fault$2" -/
def f54_A (k : Nat) : f54_R := fun X K x0 => f54_T k K  x0
set_option maxRecDepth 100000 in
theorem f54_ev' {X : Type} (k : Nat) (K : Out → Option X) (x0 : CV) : evFn (f54_cx) [] k Try.f54.ntmps Try.f54.results.toList (Try.f54.body.getD .skip) [(.v x0)] [] K = f54_T k (fun u => K (f54_out u)) x0 := by kernel_rfl
theorem f54_ev {X : Type} (k : Nat) (K : Out → Option X) (x0 : CV) : evFn (f54_cx) [] k Try.f54.ntmps Try.f54.results.toList (Try.f54.body.getD .skip) [(.v x0)] [] K = f54_A k X (fun u => K (f54_out u)) x0 := (f54_ev' k K x0).trans rfl
theorem f54_okA (k : Nat) : AnsOk Try.prog 54 (f54_cOf (f54_A k)) := by
  intro X xs ns K x h
  unfold f54_cOf at h ⊢
  split at h
  · exact ans_main S (f54_Cok) Try.func54 (ent_of Try.func54 (by kernel_rfl) rfl) rfl (fun X K => f54_ev k K _) h
  · cases h
/-- "outpost/opt.fault$2" -/
def f54 {X : Type} (k : Nat) (K : Bool → Option X) (x0 : CV) : Option X := f54_A k X K x0
theorem f54_ok (k : Nat) : AnsOk Try.prog 54 (f54_cOf (fun X => @f54 X k)) := f54_okA k
abbrev f60b_R : Type 1 := (X : Type) → (Int → Option X) → (List CV) → Option X
def f60b_out (u : Int) : Out := ⟨(.v (CV.int .i64 u)), []⟩
def f60b_cOf (R : f60b_R) : FnC := fun X xs ns K => match xs, ns with
  | [(.sl false (some 2) x0), (.fn 54 [])], [] => R X (fun u => K (f60b_out u)) x0
  | _, _ => none
def f60b_is (xs : List AVal) (ns : Nodes) : Bool := match xs, ns with
  | [(.sl false (some 2) x0), (.fn 54 [])], [] => true
  | _, _ => false
def f60b_plan : Nat → Option (List Nat × List Wk)
  | 0 => some ([0, 1], [])
  | 1 => some ([0, 1], [])
  | 2 => some ([0, 1, 7, 8], [])
  | 3 => some ([0, 1, 7, 8], [])
  | 4 => some ([0, 1, 5, 7, 8], [])
  | 5 => some ([5], [])
  | 6 => some ([0, 1, 7, 8], [])
  | 7 => some ([], [])
  | _ => none
def f60b_C (R_f54 : f54_R) : Fns := (orC 54 (f54_cOf R_f54) noC)
theorem f60b_Cok (R_f54 : f54_R) (hR_f54 : AnsOk Try.prog 54 (f54_cOf R_f54)) : CsOk Try.prog (f60b_C R_f54) := (orC_ok hR_f54 noC_ok)
def f60b_cx (R_f54 : f54_R) (hR_f54 : AnsOk Try.prog 54 (f54_cOf R_f54)) : Cx := mkCx (tabOf rows) (f60b_C R_f54) md (cmpIn cmps) f60b_plan (f60b_Cok R_f54 hR_f54)
def f60b_S1 (v : (List CV) × Int × Int) : St := ⟨[(.sl false (some 2) v.1), (.fn 54 []), .undef, .undef, .undef, .undef, .undef, (.v (CV.int .i64 v.2.1)), (.v (CV.int .i64 v.2.2)), .undef, .undef, .undef, .undef, .undef, .undef, .undef, .undef, .undef, .undef], []⟩
def f60b_T1 {X : Type} (R_f54 : f54_R) (k : Nat) (K : Int → Option X)   (rec1 : (List CV) × Int × Int → Option X) (v4_0 : (List CV) × Int × Int) : Option X :=
(bif (decide (v4_0.2.2 < v4_0.2.1)) then
grd (decide (0 ≤ v4_0.2.2)) <|
Option.bind (v4_0.1)[(Int.toNat v4_0.2.2)]? fun e8 =>
R_f54 _ (fun u9 =>
(bif u9 then
K (v4_0.2.2)
else
rec1 (v4_0.1, v4_0.2.1, (IntKind.wrap .i64 (v4_0.2.2 + 1))))) (e8)
else
K ((-1)))
def f60b_L1 {X : Type} (R_f54 : f54_R) (k : Nat) (K : Int → Option X)  (rec1 : (List CV) × Int × Int → Option X) (v : (List CV) × Int × Int) : Option X := f60b_T1 R_f54 k K   rec1 v
set_option maxRecDepth 100000 in
theorem f60b_L1_ev {X : Type} (R_f54 : f54_R) (hR_f54 : AnsOk Try.prog 54 (f54_cOf R_f54)) (k : Nat) (K : Out → Option X)  (r1 : St → Option X) (v : (List CV) × Int × Int) : loopB (f60b_cx R_f54 hR_f54) k [.r, .l, .r, .b] (Try.f60.body.getD .skip) (retK (f60b_cx R_f54 hR_f54) [] Try.f60.results.toList K) [] r1 (f60b_S1 v) = f60b_T1 R_f54 k (fun u => K (f60b_out u))   (fun v => r1 (f60b_S1 v)) v := by kernel_rfl
theorem f60b_L1_it {X : Type} (R_f54 : f54_R) (hR_f54 : AnsOk Try.prog 54 (f54_cOf R_f54)) (k : Nat) (K : Out → Option X)  : (fun v => iter (loopB (f60b_cx R_f54 hR_f54) k [.r, .l, .r, .b] (Try.f60.body.getD .skip) (retK (f60b_cx R_f54 hR_f54) [] Try.f60.results.toList K) []) k (f60b_S1 v)) = iterV (f60b_L1 R_f54 k (fun u => K (f60b_out u)) ) k :=
  iter_map (fun r1 v => (f60b_L1_ev R_f54 hR_f54 k K  r1 v).trans rfl) k
def f60b_T {X : Type} (R_f54 : f54_R) (k : Nat) (K : Int → Option X) (loop1 : (List CV) × Int × Int → Option X) (x0 : List CV) : Option X :=
loop1 (x0, (Nat.cast ((List.length x0)) : Int), 0)
/-- "slices.IndexFunc[[]outpost/api.Opt,outpost/api.Opt]" -/
def f60b_A (R_f54 : f54_R) (k : Nat) : f60b_R := fun X K x0 => f60b_T R_f54 k K (iterV (f60b_L1 R_f54 k K) k) x0
set_option maxRecDepth 100000 in
theorem f60b_ev' {X : Type} (R_f54 : f54_R) (hR_f54 : AnsOk Try.prog 54 (f54_cOf R_f54)) (k : Nat) (K : Out → Option X) (x0 : List CV) : evFn (f60b_cx R_f54 hR_f54) [] k Try.f60.ntmps Try.f60.results.toList (Try.f60.body.getD .skip) [(.sl false (some 2) x0), (.fn 54 [])] [] K = f60b_T R_f54 k (fun u => K (f60b_out u)) (fun v => iter (loopB (f60b_cx R_f54 hR_f54) k [.r, .l, .r, .b] (Try.f60.body.getD .skip) (retK (f60b_cx R_f54 hR_f54) [] Try.f60.results.toList K) []) k (f60b_S1 v)) x0 := by kernel_rfl
theorem f60b_ev {X : Type} (R_f54 : f54_R) (hR_f54 : AnsOk Try.prog 54 (f54_cOf R_f54)) (k : Nat) (K : Out → Option X) (x0 : List CV) : evFn (f60b_cx R_f54 hR_f54) [] k Try.f60.ntmps Try.f60.results.toList (Try.f60.body.getD .skip) [(.sl false (some 2) x0), (.fn 54 [])] [] K = f60b_A R_f54 k X (fun u => K (f60b_out u)) x0 := (f60b_ev' R_f54 hR_f54 k K x0).trans (by rw [f60b_L1_it R_f54 hR_f54 k K]; rfl)
theorem f60b_okA (R_f54 : f54_R) (hR_f54 : AnsOk Try.prog 54 (f54_cOf R_f54)) (k : Nat) : AnsOk Try.prog 60 (f60b_cOf (f60b_A R_f54 k)) := by
  intro X xs ns K x h
  unfold f60b_cOf at h ⊢
  split at h
  · exact ans_main S (f60b_Cok R_f54 hR_f54) Try.func60 (ent_of Try.func60 (by kernel_rfl) rfl) rfl (fun X K => f60b_ev R_f54 hR_f54 k K _) h
  · cases h
/-- "slices.IndexFunc[[]outpost/api.Opt,outpost/api.Opt]" -/
def f60b {X : Type} (k : Nat) (K : Int → Option X) (x0 : List CV) : Option X := f60b_A (fun X => @f54 X k) k X K x0
theorem f60b_ok (k : Nat) : AnsOk Try.prog 60 (f60b_cOf (fun X => @f60b X k)) := f60b_okA (fun X => @f54 X k) (f54_ok k) k
abbrev f52b_R : Type 1 := (X : Type) → (Bool → Option X) → (List CV) → Option X
def f52b_out (u : Bool) : Out := ⟨(.v (CV.bool u)), []⟩
def f52b_cOf (R : f52b_R) : FnC := fun X xs ns K => match xs, ns with
  | [(.sl false (some 2) x0), (.fn 54 [])], [] => R X (fun u => K (f52b_out u)) x0
  | _, _ => none
def f52b_is (xs : List AVal) (ns : Nodes) : Bool := match xs, ns with
  | [(.sl false (some 2) x0), (.fn 54 [])], [] => true
  | _, _ => false
def f52b_plan : Nat → Option (List Nat × List Wk)
  | 0 => some ([0, 1], [])
  | 1 => some ([0, 1], [])
  | _ => none
def f52b_C (R_f60b : f60b_R) : Fns := (orC 60 (f60b_cOf R_f60b) noC)
theorem f52b_Cok (R_f60b : f60b_R) (hR_f60b : AnsOk Try.prog 60 (f60b_cOf R_f60b)) : CsOk Try.prog (f52b_C R_f60b) := (orC_ok hR_f60b noC_ok)
def f52b_cx (R_f60b : f60b_R) (hR_f60b : AnsOk Try.prog 60 (f60b_cOf R_f60b)) : Cx := mkCx (tabOf rows) (f52b_C R_f60b) md (cmpIn cmps) f52b_plan (f52b_Cok R_f60b hR_f60b)
def f52b_T {X : Type} (R_f60b : f60b_R) (k : Nat) (K : Bool → Option X)  (x0 : List CV) : Option X :=
R_f60b _ (fun u1 =>
K ((decide (u1 ≥ 0)))) (x0)
/-- "slices.ContainsFunc[[]outpost/api.Opt,outpost/api.Opt]" -/
def f52b_A (R_f60b : f60b_R) (k : Nat) : f52b_R := fun X K x0 => f52b_T R_f60b k K  x0
set_option maxRecDepth 100000 in
theorem f52b_ev' {X : Type} (R_f60b : f60b_R) (hR_f60b : AnsOk Try.prog 60 (f60b_cOf R_f60b)) (k : Nat) (K : Out → Option X) (x0 : List CV) : evFn (f52b_cx R_f60b hR_f60b) [] k Try.f52.ntmps Try.f52.results.toList (Try.f52.body.getD .skip) [(.sl false (some 2) x0), (.fn 54 [])] [] K = f52b_T R_f60b k (fun u => K (f52b_out u)) x0 := by kernel_rfl
theorem f52b_ev {X : Type} (R_f60b : f60b_R) (hR_f60b : AnsOk Try.prog 60 (f60b_cOf R_f60b)) (k : Nat) (K : Out → Option X) (x0 : List CV) : evFn (f52b_cx R_f60b hR_f60b) [] k Try.f52.ntmps Try.f52.results.toList (Try.f52.body.getD .skip) [(.sl false (some 2) x0), (.fn 54 [])] [] K = f52b_A R_f60b k X (fun u => K (f52b_out u)) x0 := (f52b_ev' R_f60b hR_f60b k K x0).trans rfl
theorem f52b_okA (R_f60b : f60b_R) (hR_f60b : AnsOk Try.prog 60 (f60b_cOf R_f60b)) (k : Nat) : AnsOk Try.prog 52 (f52b_cOf (f52b_A R_f60b k)) := by
  intro X xs ns K x h
  unfold f52b_cOf at h ⊢
  split at h
  · exact ans_main S (f52b_Cok R_f60b hR_f60b) Try.func52 (ent_of Try.func52 (by kernel_rfl) rfl) rfl (fun X K => f52b_ev R_f60b hR_f60b k K _) h
  · cases h
/-- "slices.ContainsFunc[[]outpost/api.Opt,outpost/api.Opt]" -/
def f52b {X : Type} (k : Nat) (K : Bool → Option X) (x0 : List CV) : Option X := f52b_A (fun X => @f60b X k) k X K x0
theorem f52b_ok (k : Nat) : AnsOk Try.prog 52 (f52b_cOf (fun X => @f52b X k)) := f52b_okA (fun X => @f60b X k) (f60b_ok k) k
abbrev f43_R : Type 1 := (X : Type) → (Int → Option X) → (List CV) → Option X
def f43_out (u : Int) : Out := ⟨(.v (CV.int .i64 u)), []⟩
def f43_cOf (R : f43_R) : FnC := fun X xs ns K => match xs, ns with
  | [(.sl false (some 2) x0)], [] => R X (fun u => K (f43_out u)) x0
  | _, _ => none
def f43_plan : Nat → Option (List Nat × List Wk)
  | 0 => some ([0], [])
  | 1 => some ([0], [])
  | 2 => some ([], [])
  | 3 => some ([0], [])
  | 4 => some ([], [])
  | 5 => some ([0], [])
  | 6 => some ([], [])
  | 7 => some ([], [])
  | _ => none
def f43_C (R_f52 : f52_R) (R_f52b : f52b_R) : Fns := (orC 52 (orF (f52b_cOf R_f52b) (f52_cOf R_f52) f52b_is) noC)
theorem f43_Cok (R_f52 : f52_R) (R_f52b : f52b_R) (hR_f52 : AnsOk Try.prog 52 (f52_cOf R_f52)) (hR_f52b : AnsOk Try.prog 52 (f52b_cOf R_f52b)) : CsOk Try.prog (f43_C R_f52 R_f52b) := (orC_ok (orF_ok hR_f52b hR_f52) noC_ok)
def f43_cx (R_f52 : f52_R) (R_f52b : f52b_R) (hR_f52 : AnsOk Try.prog 52 (f52_cOf R_f52)) (hR_f52b : AnsOk Try.prog 52 (f52b_cOf R_f52b)) : Cx := mkCx (tabOf rows) (f43_C R_f52 R_f52b) md (cmpIn cmps) f43_plan (f43_Cok R_f52 R_f52b hR_f52 hR_f52b)
def f43_T {X : Type} (R_f52 : f52_R) (R_f52b : f52b_R) (k : Nat) (K : Int → Option X)  (x0 : List CV) : Option X :=
(bif (decide ((Nat.cast ((List.length x0)) : Int) > 24)) then
K (3)
else
R_f52 _ (fun u2 =>
(bif u2 then
K (1)
else
R_f52b _ (fun u4 =>
(bif u4 then
K (2)
else
K (0))) (x0))) (x0))
/-- "outpost/opt.fault" -/
def f43_A (R_f52 : f52_R) (R_f52b : f52b_R) (k : Nat) : f43_R := fun X K x0 => f43_T R_f52 R_f52b k K  x0
set_option maxRecDepth 100000 in
theorem f43_ev' {X : Type} (R_f52 : f52_R) (R_f52b : f52b_R) (hR_f52 : AnsOk Try.prog 52 (f52_cOf R_f52)) (hR_f52b : AnsOk Try.prog 52 (f52b_cOf R_f52b)) (k : Nat) (K : Out → Option X) (x0 : List CV) : evFn (f43_cx R_f52 R_f52b hR_f52 hR_f52b) [] k Try.f43.ntmps Try.f43.results.toList (Try.f43.body.getD .skip) [(.sl false (some 2) x0)] [] K = f43_T R_f52 R_f52b k (fun u => K (f43_out u)) x0 := by kernel_rfl
theorem f43_ev {X : Type} (R_f52 : f52_R) (R_f52b : f52b_R) (hR_f52 : AnsOk Try.prog 52 (f52_cOf R_f52)) (hR_f52b : AnsOk Try.prog 52 (f52b_cOf R_f52b)) (k : Nat) (K : Out → Option X) (x0 : List CV) : evFn (f43_cx R_f52 R_f52b hR_f52 hR_f52b) [] k Try.f43.ntmps Try.f43.results.toList (Try.f43.body.getD .skip) [(.sl false (some 2) x0)] [] K = f43_A R_f52 R_f52b k X (fun u => K (f43_out u)) x0 := (f43_ev' R_f52 R_f52b hR_f52 hR_f52b k K x0).trans rfl
theorem f43_okA (R_f52 : f52_R) (R_f52b : f52b_R) (hR_f52 : AnsOk Try.prog 52 (f52_cOf R_f52)) (hR_f52b : AnsOk Try.prog 52 (f52b_cOf R_f52b)) (k : Nat) : AnsOk Try.prog 43 (f43_cOf (f43_A R_f52 R_f52b k)) := by
  intro X xs ns K x h
  unfold f43_cOf at h ⊢
  split at h
  · exact ans_main S (f43_Cok R_f52 R_f52b hR_f52 hR_f52b) Try.func43 (ent_of Try.func43 (by kernel_rfl) rfl) rfl (fun X K => f43_ev R_f52 R_f52b hR_f52 hR_f52b k K _) h
  · cases h
/-- "outpost/opt.fault" -/
def f43 {X : Type} (k : Nat) (K : Int → Option X) (x0 : List CV) : Option X := f43_A (fun X => @f52 X k) (fun X => @f52b X k) k X K x0
theorem f43_ok (k : Nat) : AnsOk Try.prog 43 (f43_cOf (fun X => @f43 X k)) := f43_okA (fun X => @f52 X k) (fun X => @f52b X k) (f52_ok k) (f52b_ok k) k
def f55_plan : Nat → Option (List Nat × List Wk)
  | 0 => some ([0], [])
  | 1 => some ([0], [])
  | 2 => some ([], [])
  | 3 => some ([0], [])
  | _ => none
def f55_cx : Cx := mkCx (tabOf rows) noC md (cmpIn cmps) f55_plan (noC_ok (P := Try.prog))
/-- "slices.Clone[[]outpost/api.Opt,outpost/api.Opt]" -/
def f55 {X : Type} (k : Nat) (K : List CV → Option X) (x0 : List CV) : Option X := grd (decide ((0 + List.length x0) * 32 ≤ 140737488355328)) (K x0)
def f55_out (u : List CV) : Out := ⟨.osl [2000] (some 2) 0 (List.length u), [([2000], .row false (some 2) u)]⟩
set_option maxRecDepth 100000 in
theorem f55_fn (x0 : List CV) (hl : (decide ((0 + List.length x0) * 32 ≤ 140737488355328)) = true) : FnOk Try.prog 55 [.sl false (some 2) x0] [] (f55_out x0) := by
  refine nilsplit (cx := f55_cx) (xs := x0) (p := false) (sh := (some 2)) (fuel := 1) (ws := [⟨0, [], some [2000]⟩]) (tabOf_tabOk S.hr) (tabOf_noOther S.hr) (CsOk.fns (noC_ok (P := Try.prog)) (cmpsAre_ok cmps_ok)) S.hm Try.func55 rfl rfl Try.underlying30 (s1 := ⟨[(.sl false (some 2) x0), .undef, (.nil0 (some 2)), .undef, .undef, .undef, .undef, .undef], []⟩) (s2 := ⟨[(.sl false (some 2) x0), .undef, .undef, .undef, .undef, .undef, .undef, .undef], []⟩) (s3 := ⟨[(.sl false (some 2) x0), .undef, .undef, (.sl false (some 2) x0), .undef, .undef, .undef, .undef], []⟩) ?_ ?_ ?_ rfl ?_ (fun h => ?_) ⟨rfl, rfl⟩
  · kernel_rfl
  · kernel_rfl
  · kernel_rfl
  · refine Eq.trans (b := grd (decide ((0 + List.length x0) * 32 ≤ 140737488355328)) (some ⟨.osl [2000] (some 2) 0 (0 + List.length x0), [([2000], .row false (some 2) (List.take (0 + (0 + List.length x0)) (List.take 0 [] ++ x0)))]⟩)) (by kernel_rfl) ?_
    rw [hl]
    simp [grd, f55_out]
  · subst h
    kernel_rfl
abbrev f55_R : Type 1 := (X : Type) → (List CV → Option X) → List CV → Option X
def f55_cOf (R : f55_R) : FnC := fun X xs ns K => match xs, ns with
  | [.sl false (some 2) x0], [] => R X (fun u => K (f55_out u)) x0
  | _, _ => none
theorem f55_ok (k : Nat) : AnsOk Try.prog 55 (f55_cOf (fun X => @f55 X k)) := by
  intro X xs ns K x h
  unfold f55_cOf at h ⊢
  split at h
  · next x0 =>
    obtain ⟨h1, h2⟩ := grd_some (show grd (decide ((0 + List.length x0) * 32 ≤ 140737488355328)) (K (f55_out x0)) = some x from h)
    exact ⟨trivial, _, (f55_fn x0 h1).toX (ent_of Try.func55 (by kernel_rfl) rfl), h2, fun Y K' => by show grd _ _ = _; rw [h1]; rfl⟩
  · cases h
abbrev f62_R : Type 1 := (X : Type) → (Bool → Option X) → Int → Option X
def f62_out (u : Bool) : Out := ⟨(.v (CV.bool u)), []⟩
def f62_cOf (R : f62_R) : FnC := fun X xs ns K => match xs, ns with
  | [(.v (CV.int .i64 x0))], [] => R X (fun u => K (f62_out u)) x0
  | _, _ => none
def f62_plan : Nat → Option (List Nat × List Wk)
  | 0 => some ([0], [])
  | 1 => some ([0], [])
  | _ => none
def f62_C : Fns := noC
theorem f62_Cok : CsOk Try.prog (f62_C) := noC_ok
def f62_cx : Cx := mkCx (tabOf rows) (f62_C) md (cmpIn cmps) f62_plan (f62_Cok)
def f62_T {X : Type} (k : Nat) (K : Bool → Option X)  (x0 : Int) : Option X :=
K ((x0 != x0))
/-- "cmp.isNaN[int]" -/
def f62_A (k : Nat) : f62_R := fun X K x0 => f62_T k K  x0
set_option maxRecDepth 100000 in
theorem f62_ev' {X : Type} (k : Nat) (K : Out → Option X) (x0 : Int) : evFn (f62_cx) [] k Try.f62.ntmps Try.f62.results.toList (Try.f62.body.getD .skip) [(.v (CV.int .i64 x0))] [] K = f62_T k (fun u => K (f62_out u)) x0 := by kernel_rfl
theorem f62_ev {X : Type} (k : Nat) (K : Out → Option X) (x0 : Int) : evFn (f62_cx) [] k Try.f62.ntmps Try.f62.results.toList (Try.f62.body.getD .skip) [(.v (CV.int .i64 x0))] [] K = f62_A k X (fun u => K (f62_out u)) x0 := (f62_ev' k K x0).trans rfl
theorem f62_okA (k : Nat) : AnsOk Try.prog 62 (f62_cOf (f62_A k)) := by
  intro X xs ns K x h
  unfold f62_cOf at h ⊢
  split at h
  · exact ans_main S (f62_Cok) Try.func62 (ent_of Try.func62 (by kernel_rfl) rfl) rfl (fun X K => f62_ev k K _) h
  · cases h
/-- "cmp.isNaN[int]" -/
def f62 {X : Type} (k : Nat) (K : Bool → Option X) (x0 : Int) : Option X := f62_A k X K x0
theorem f62_ok (k : Nat) : AnsOk Try.prog 62 (f62_cOf (fun X => @f62 X k)) := f62_okA k
abbrev f58_R : Type 1 := (X : Type) → (Int → Option X) → Int → Int → Option X
def f58_out (u : Int) : Out := ⟨(.v (CV.int .i64 u)), []⟩
def f58_cOf (R : f58_R) : FnC := fun X xs ns K => match xs, ns with
  | [(.v (CV.int .i64 x0)), (.v (CV.int .i64 x1))], [] => R X (fun u => K (f58_out u)) x0 x1
  | _, _ => none
def f58_plan : Nat → Option (List Nat × List Wk)
  | 0 => some ([0, 1], [])
  | 1 => some ([0, 1], [])
  | 2 => some ([0, 1, 5], [])
  | 3 => some ([0, 1, 5, 6], [])
  | 4 => some ([6], [])
  | 5 => some ([], [])
  | 6 => some ([], [])
  | 7 => some ([0, 1, 6], [])
  | 8 => some ([], [])
  | 9 => some ([0, 1], [])
  | 10 => some ([], [])
  | 11 => some ([0, 1], [])
  | 12 => some ([], [])
  | 13 => some ([], [])
  | _ => none
def f58_C (R_f62 : f62_R) : Fns := (orC 62 (f62_cOf R_f62) noC)
theorem f58_Cok (R_f62 : f62_R) (hR_f62 : AnsOk Try.prog 62 (f62_cOf R_f62)) : CsOk Try.prog (f58_C R_f62) := (orC_ok hR_f62 noC_ok)
def f58_cx (R_f62 : f62_R) (hR_f62 : AnsOk Try.prog 62 (f62_cOf R_f62)) : Cx := mkCx (tabOf rows) (f58_C R_f62) md (cmpIn cmps) f58_plan (f58_Cok R_f62 hR_f62)
def f58_T {X : Type} (R_f62 : f62_R) (k : Nat) (K : Int → Option X)  (x0 : Int) (x1 : Int) : Option X :=
R_f62 _ (fun u1 =>
R_f62 _ (fun u2 =>
(bif u1 then
(bif u2 then
K (0)
else
K ((-1)))
else
(bif u2 then
K (1)
else
(bif (decide (x0 < x1)) then
K ((-1))
else
(bif (decide (x0 > x1)) then
K (1)
else
K (0)))))) (x1)) (x0)
/-- "cmp.Compare[int]" -/
def f58_A (R_f62 : f62_R) (k : Nat) : f58_R := fun X K x0 x1 => f58_T R_f62 k K  x0 x1
set_option maxRecDepth 100000 in
theorem f58_ev' {X : Type} (R_f62 : f62_R) (hR_f62 : AnsOk Try.prog 62 (f62_cOf R_f62)) (k : Nat) (K : Out → Option X) (x0 : Int) (x1 : Int) : evFn (f58_cx R_f62 hR_f62) [] k Try.f58.ntmps Try.f58.results.toList (Try.f58.body.getD .skip) [(.v (CV.int .i64 x0)), (.v (CV.int .i64 x1))] [] K = f58_T R_f62 k (fun u => K (f58_out u)) x0 x1 := by kernel_rfl
theorem f58_ev {X : Type} (R_f62 : f62_R) (hR_f62 : AnsOk Try.prog 62 (f62_cOf R_f62)) (k : Nat) (K : Out → Option X) (x0 : Int) (x1 : Int) : evFn (f58_cx R_f62 hR_f62) [] k Try.f58.ntmps Try.f58.results.toList (Try.f58.body.getD .skip) [(.v (CV.int .i64 x0)), (.v (CV.int .i64 x1))] [] K = f58_A R_f62 k X (fun u => K (f58_out u)) x0 x1 := (f58_ev' R_f62 hR_f62 k K x0 x1).trans rfl
theorem f58_okA (R_f62 : f62_R) (hR_f62 : AnsOk Try.prog 62 (f62_cOf R_f62)) (k : Nat) : AnsOk Try.prog 58 (f58_cOf (f58_A R_f62 k)) := by
  intro X xs ns K x h
  unfold f58_cOf at h ⊢
  split at h
  · exact ans_main S (f58_Cok R_f62 hR_f62) Try.func58 (ent_of Try.func58 (by kernel_rfl) rfl) rfl (fun X K => f58_ev R_f62 hR_f62 k K _ _) h
  · cases h
/-- "cmp.Compare[int]" -/
def f58 {X : Type} (k : Nat) (K : Int → Option X) (x0 : Int) (x1 : Int) : Option X := f58_A (fun X => @f62 X k) k X K x0 x1
theorem f58_ok (k : Nat) : AnsOk Try.prog 58 (f58_cOf (fun X => @f58 X k)) := f58_okA (fun X => @f62 X k) (f62_ok k) k
abbrev f57_R : Type 1 := (X : Type) → (Int → Option X) → CV → CV → Option X
def f57_out (u : Int) : Out := ⟨(.v (CV.int .i64 u)), []⟩
def f57_cOf (R : f57_R) : FnC := fun X xs ns K => match xs, ns with
  | [(.v x0), (.v x1)], [] => R X (fun u => K (f57_out u)) x0 x1
  | _, _ => none
def f57_plan : Nat → Option (List Nat × List Wk)
  | 0 => some ([0, 1], [])
  | 1 => some ([2, 3], [])
  | _ => none
def f57_C (R_f58 : f58_R) : Fns := (orC 58 (f58_cOf R_f58) noC)
theorem f57_Cok (R_f58 : f58_R) (hR_f58 : AnsOk Try.prog 58 (f58_cOf R_f58)) : CsOk Try.prog (f57_C R_f58) := (orC_ok hR_f58 noC_ok)
def f57_cx (R_f58 : f58_R) (hR_f58 : AnsOk Try.prog 58 (f58_cOf R_f58)) : Cx := mkCx (tabOf rows) (f57_C R_f58) md (cmpIn cmps) f57_plan (f57_Cok R_f58 hR_f58)
def f57_T {X : Type} (R_f58 : f58_R) (k : Nat) (K : Int → Option X)  (x0 : CV) (x1 : CV) : Option X :=
grd (CV.isA 2 x0) <|
grd (CV.isI .i64 (CV.cellD 0 x0)) <|
grd (CV.isL none (CV.cellD 1 x0)) <|
grd (CV.isA 2 x1) <|
grd (CV.isI .i64 (CV.cellD 0 x1)) <|
grd (CV.isL none (CV.cellD 1 x1)) <|
R_f58 _ (fun u1 =>
K (u1)) ((CV.toI (CV.cellD 0 x0))) ((CV.toI (CV.cellD 0 x1)))
/-- "outpost/opt.byNum$1" -/
def f57_A (R_f58 : f58_R) (k : Nat) : f57_R := fun X K x0 x1 => f57_T R_f58 k K  x0 x1
set_option maxRecDepth 100000 in
theorem f57_ev' {X : Type} (R_f58 : f58_R) (hR_f58 : AnsOk Try.prog 58 (f58_cOf R_f58)) (k : Nat) (K : Out → Option X) (x0 : CV) (x1 : CV) : evFn (f57_cx R_f58 hR_f58) [] k Try.f57.ntmps Try.f57.results.toList (Try.f57.body.getD .skip) [(.v x0), (.v x1)] [] K = f57_T R_f58 k (fun u => K (f57_out u)) x0 x1 := by kernel_rfl
theorem f57_ev {X : Type} (R_f58 : f58_R) (hR_f58 : AnsOk Try.prog 58 (f58_cOf R_f58)) (k : Nat) (K : Out → Option X) (x0 : CV) (x1 : CV) : evFn (f57_cx R_f58 hR_f58) [] k Try.f57.ntmps Try.f57.results.toList (Try.f57.body.getD .skip) [(.v x0), (.v x1)] [] K = f57_A R_f58 k X (fun u => K (f57_out u)) x0 x1 := (f57_ev' R_f58 hR_f58 k K x0 x1).trans rfl
theorem f57_okA (R_f58 : f58_R) (hR_f58 : AnsOk Try.prog 58 (f58_cOf R_f58)) (k : Nat) : AnsOk Try.prog 57 (f57_cOf (f57_A R_f58 k)) := by
  intro X xs ns K x h
  unfold f57_cOf at h ⊢
  split at h
  · exact ans_main S (f57_Cok R_f58 hR_f58) Try.func57 (ent_of Try.func57 (by kernel_rfl) rfl) rfl (fun X K => f57_ev R_f58 hR_f58 k K _ _) h
  · cases h
/-- "outpost/opt.byNum$1" -/
def f57 {X : Type} (k : Nat) (K : Int → Option X) (x0 : CV) (x1 : CV) : Option X := f57_A (fun X => @f58 X k) k X K x0 x1
theorem f57_ok (k : Nat) : AnsOk Try.prog 57 (f57_cOf (fun X => @f57 X k)) := f57_okA (fun X => @f58 X k) (f58_ok k) k
abbrev f63_R : Type 1 := (X : Type) → ((List CV) → Option X) → Nat → Int → Int → (List CV) → Option X
def f63_out (u : (List CV)) : Out := ⟨(.tup []), [([1000], (.row false (some 2) u))]⟩
def f63_cOf (R : f63_R) : FnC := fun X xs ns K => match xs, ns with
  | [(.osl [1000] (some 2) 0 x0), (.v (CV.int .i64 x1)), (.v (CV.int .i64 x2)), (.fn 57 [])], [([1000], (.row false (some 2) x3))] => R X (fun u => K (f63_out u)) x0 x1 x2 x3
  | _, _ => none
def f63_plan : Nat → Option (List Nat × List Wk)
  | 0 => some ([0, 1, 2, 3], [])
  | 1 => some ([0, 1, 2, 3, 8], [])
  | 2 => some ([0, 1, 2, 3, 8], [])
  | 3 => some ([0, 1, 2, 3, 8], [])
  | 4 => some ([0, 1, 2, 3, 8, 9], [])
  | 5 => some ([0, 1, 2, 3, 8, 9], [])
  | 6 => some ([0, 1, 2, 3, 8, 9], [])
  | _ => none
def f63_C (R_f57 : f57_R) : Fns := (orC 57 (f57_cOf R_f57) noC)
theorem f63_Cok (R_f57 : f57_R) (hR_f57 : AnsOk Try.prog 57 (f57_cOf R_f57)) : CsOk Try.prog (f63_C R_f57) := (orC_ok hR_f57 noC_ok)
def f63_cx (R_f57 : f57_R) (hR_f57 : AnsOk Try.prog 57 (f57_cOf R_f57)) : Cx := mkCx (tabOf rows) (f63_C R_f57) md (cmpIn cmps) f63_plan (f63_Cok R_f57 hR_f57)
def f63_S1 (v : Nat × Int × Int × Int × (List CV)) : St := ⟨[(.osl [1000] (some 2) 0 v.1), (.v (CV.int .i64 v.2.1)), (.v (CV.int .i64 v.2.2.1)), (.fn 57 []), .undef, .undef, .undef, .undef, (.v (CV.int .i64 v.2.2.2.1)), .undef, .undef, .undef, .undef, .undef, .undef, .undef, .undef, .undef, .undef, .undef, .undef, .undef, .undef, .undef, .undef, .undef, .undef, .undef, .undef, .undef, .undef, .undef, .undef, .undef, .undef, .undef, .undef, .undef, .undef, .undef, .undef, .undef, .undef, .undef, .undef, .undef, .undef, .undef, .undef, .undef, .undef, .undef, .undef], [([1000], (.row false (some 2) v.2.2.2.2))]⟩
def f63_S2 (v : Nat × Int × Int × Int × Int × (List CV)) : St := ⟨[(.osl [1000] (some 2) 0 v.1), (.v (CV.int .i64 v.2.1)), (.v (CV.int .i64 v.2.2.1)), (.fn 57 []), .undef, .undef, .undef, .undef, (.v (CV.int .i64 v.2.2.2.1)), (.v (CV.int .i64 v.2.2.2.2.1)), .undef, .undef, .undef, .undef, .undef, .undef, .undef, .undef, .undef, .undef, .undef, .undef, .undef, .undef, .undef, .undef, .undef, .undef, .undef, .undef, .undef, .undef, .undef, .undef, .undef, .undef, .undef, .undef, .undef, .undef, .undef, .undef, .undef, .undef, .undef, .undef, .undef, .undef, .undef, .undef, .undef, .undef, .undef], [([1000], (.row false (some 2) v.2.2.2.2.2))]⟩
def f63_T2 {X : Type} (R_f57 : f57_R) (k : Nat) (K : (List CV) → Option X) (rec1 : Nat × Int × Int × Int × (List CV) → Option X)  (rec2 : Nat × Int × Int × Int × Int × (List CV) → Option X) (v8_22 : Nat × Int × Int × Int × Int × (List CV)) : Option X :=
(bif (decide (v8_22.2.2.2.2.1 > v8_22.2.1)) then
grd (decide (0 ≤ v8_22.2.2.2.2.1)) <|
grd (decide (v8_22.2.2.2.2.1 < (Nat.cast (v8_22.1) : Int))) <|
Option.bind (v8_22.2.2.2.2.2)[(0 + (Int.toNat v8_22.2.2.2.2.1))]? fun e37 =>
grd (decide (0 ≤ (IntKind.wrap .i64 (v8_22.2.2.2.2.1 - 1)))) <|
grd (decide ((IntKind.wrap .i64 (v8_22.2.2.2.2.1 - 1)) < (Nat.cast (v8_22.1) : Int))) <|
Option.bind (v8_22.2.2.2.2.2)[(0 + (Int.toNat (IntKind.wrap .i64 (v8_22.2.2.2.2.1 - 1))))]? fun e38 =>
R_f57 _ (fun u39 =>
(bif (decide (u39 < 0)) then
grd (decide (0 ≤ (IntKind.wrap .i64 (v8_22.2.2.2.2.1 - 1)))) <|
grd (decide ((IntKind.wrap .i64 (v8_22.2.2.2.2.1 - 1)) < (Nat.cast (v8_22.1) : Int))) <|
Option.bind (v8_22.2.2.2.2.2)[(0 + (Int.toNat (IntKind.wrap .i64 (v8_22.2.2.2.2.1 - 1))))]? fun e42 =>
grd (decide (0 ≤ v8_22.2.2.2.2.1)) <|
grd (decide (v8_22.2.2.2.2.1 < (Nat.cast (v8_22.1) : Int))) <|
Option.bind (v8_22.2.2.2.2.2)[(0 + (Int.toNat v8_22.2.2.2.2.1))]? fun e43 =>
grd (decide (0 ≤ v8_22.2.2.2.2.1)) <|
grd (decide (v8_22.2.2.2.2.1 < (Nat.cast (v8_22.1) : Int))) <|
grd (Nat.beq (CV.ncells e42) 2 && CV.isAgg e42) <|
grd (decide ((0 + (Int.toNat v8_22.2.2.2.2.1)) < (List.length v8_22.2.2.2.2.2))) <|
grd (decide (0 ≤ (IntKind.wrap .i64 (v8_22.2.2.2.2.1 - 1)))) <|
grd (decide ((IntKind.wrap .i64 (v8_22.2.2.2.2.1 - 1)) < (Nat.cast (v8_22.1) : Int))) <|
grd (Nat.beq (CV.ncells e43) 2 && CV.isAgg e43) <|
grd (decide ((0 + (Int.toNat (IntKind.wrap .i64 (v8_22.2.2.2.2.1 - 1)))) < (List.length (List.set v8_22.2.2.2.2.2 (0 + (Int.toNat v8_22.2.2.2.2.1)) e42)))) <|
rec2 (v8_22.1, v8_22.2.1, v8_22.2.2.1, v8_22.2.2.2.1, (IntKind.wrap .i64 (v8_22.2.2.2.2.1 - 1)), (List.set (List.set v8_22.2.2.2.2.2 (0 + (Int.toNat v8_22.2.2.2.2.1)) e42) (0 + (Int.toNat (IntKind.wrap .i64 (v8_22.2.2.2.2.1 - 1)))) e43))
else
rec1 (v8_22.1, v8_22.2.1, v8_22.2.2.1, (IntKind.wrap .i64 (v8_22.2.2.2.1 + 1)), v8_22.2.2.2.2.2))) (e37) (e38)
else
rec1 (v8_22.1, v8_22.2.1, v8_22.2.2.1, (IntKind.wrap .i64 (v8_22.2.2.2.1 + 1)), v8_22.2.2.2.2.2))
def f63_L2 {X : Type} (R_f57 : f57_R) (k : Nat) (K : (List CV) → Option X) (rec1 : Nat × Int × Int × Int × (List CV) → Option X) (rec2 : Nat × Int × Int × Int × Int × (List CV) → Option X) (v : Nat × Int × Int × Int × Int × (List CV)) : Option X := f63_T2 R_f57 k K rec1  rec2 v
set_option maxRecDepth 100000 in
theorem f63_L2_ev {X : Type} (R_f57 : f57_R) (hR_f57 : AnsOk Try.prog 57 (f57_cOf R_f57)) (k : Nat) (K : Out → Option X) (r1 : St → Option X) (r2 : St → Option X) (v : Nat × Int × Int × Int × Int × (List CV)) : loopB (f63_cx R_f57 hR_f57) k [.r, .b, .o, .r, .l, .b, .r, .b] (Try.f63.body.getD .skip) (retK (f63_cx R_f57 hR_f57) [] Try.f63.results.toList K) [r1] r2 (f63_S2 v) = f63_T2 R_f57 k (fun u => K (f63_out u)) (fun v => r1 (f63_S1 v))  (fun v => r2 (f63_S2 v)) v := by kernel_rfl
theorem f63_L2_it {X : Type} (R_f57 : f57_R) (hR_f57 : AnsOk Try.prog 57 (f57_cOf R_f57)) (k : Nat) (K : Out → Option X) (r1 : St → Option X) : (fun v => iter (loopB (f63_cx R_f57 hR_f57) k [.r, .b, .o, .r, .l, .b, .r, .b] (Try.f63.body.getD .skip) (retK (f63_cx R_f57 hR_f57) [] Try.f63.results.toList K) [r1]) k (f63_S2 v)) = iterV (f63_L2 R_f57 k (fun u => K (f63_out u)) (fun v => r1 (f63_S1 v))) k :=
  iter_map (fun r2 v => (f63_L2_ev R_f57 hR_f57 k K r1 r2 v).trans rfl) k
def f63_T1 {X : Type} (R_f57 : f57_R) (k : Nat) (K : (List CV) → Option X)  (loop2 : Nat × Int × Int × Int × Int × (List CV) → Option X) (rec1 : Nat × Int × Int × Int × (List CV) → Option X) (v2_0 : Nat × Int × Int × Int × (List CV)) : Option X :=
(bif (decide (v2_0.2.2.2.1 < v2_0.2.2.1)) then
loop2 (v2_0.1, v2_0.2.1, v2_0.2.2.1, v2_0.2.2.2.1, v2_0.2.2.2.1, v2_0.2.2.2.2)
else
K (v2_0.2.2.2.2))
def f63_L1 {X : Type} (R_f57 : f57_R) (k : Nat) (K : (List CV) → Option X)  (rec1 : Nat × Int × Int × Int × (List CV) → Option X) (v : Nat × Int × Int × Int × (List CV)) : Option X := f63_T1 R_f57 k K  (iterV (f63_L2 R_f57 k K rec1) k) rec1 v
set_option maxRecDepth 100000 in
theorem f63_L1_ev {X : Type} (R_f57 : f57_R) (hR_f57 : AnsOk Try.prog 57 (f57_cOf R_f57)) (k : Nat) (K : Out → Option X)  (r1 : St → Option X) (v : Nat × Int × Int × Int × (List CV)) : loopB (f63_cx R_f57 hR_f57) k [.r, .b] (Try.f63.body.getD .skip) (retK (f63_cx R_f57 hR_f57) [] Try.f63.results.toList K) [] r1 (f63_S1 v) = f63_T1 R_f57 k (fun u => K (f63_out u))  (fun v => iter (loopB (f63_cx R_f57 hR_f57) k [.r, .b, .o, .r, .l, .b, .r, .b] (Try.f63.body.getD .skip) (retK (f63_cx R_f57 hR_f57) [] Try.f63.results.toList K) [r1]) k (f63_S2 v)) (fun v => r1 (f63_S1 v)) v := by kernel_rfl
theorem f63_L1_it {X : Type} (R_f57 : f57_R) (hR_f57 : AnsOk Try.prog 57 (f57_cOf R_f57)) (k : Nat) (K : Out → Option X)  : (fun v => iter (loopB (f63_cx R_f57 hR_f57) k [.r, .b] (Try.f63.body.getD .skip) (retK (f63_cx R_f57 hR_f57) [] Try.f63.results.toList K) []) k (f63_S1 v)) = iterV (f63_L1 R_f57 k (fun u => K (f63_out u)) ) k :=
  iter_map (fun r1 v => (f63_L1_ev R_f57 hR_f57 k K  r1 v).trans (by rw [f63_L2_it R_f57 hR_f57 k K r1]; rfl)) k
def f63_T {X : Type} (R_f57 : f57_R) (k : Nat) (K : (List CV) → Option X) (loop1 : Nat × Int × Int × Int × (List CV) → Option X) (x0 : Nat) (x1 : Int) (x2 : Int) (x3 : List CV) : Option X :=
loop1 (x0, x1, x2, (IntKind.wrap .i64 (x1 + 1)), x3)
/-- "slices.insertionSortCmpFunc[outpost/api.Opt]" -/
def f63_A (R_f57 : f57_R) (k : Nat) : f63_R := fun X K x0 x1 x2 x3 => f63_T R_f57 k K (iterV (f63_L1 R_f57 k K) k) x0 x1 x2 x3
set_option maxRecDepth 100000 in
theorem f63_ev' {X : Type} (R_f57 : f57_R) (hR_f57 : AnsOk Try.prog 57 (f57_cOf R_f57)) (k : Nat) (K : Out → Option X) (x0 : Nat) (x1 : Int) (x2 : Int) (x3 : List CV) : evFn (f63_cx R_f57 hR_f57) [] k Try.f63.ntmps Try.f63.results.toList (Try.f63.body.getD .skip) [(.osl [1000] (some 2) 0 x0), (.v (CV.int .i64 x1)), (.v (CV.int .i64 x2)), (.fn 57 [])] [([1000], (.row false (some 2) x3))] K = f63_T R_f57 k (fun u => K (f63_out u)) (fun v => iter (loopB (f63_cx R_f57 hR_f57) k [.r, .b] (Try.f63.body.getD .skip) (retK (f63_cx R_f57 hR_f57) [] Try.f63.results.toList K) []) k (f63_S1 v)) x0 x1 x2 x3 := by kernel_rfl
theorem f63_ev {X : Type} (R_f57 : f57_R) (hR_f57 : AnsOk Try.prog 57 (f57_cOf R_f57)) (k : Nat) (K : Out → Option X) (x0 : Nat) (x1 : Int) (x2 : Int) (x3 : List CV) : evFn (f63_cx R_f57 hR_f57) [] k Try.f63.ntmps Try.f63.results.toList (Try.f63.body.getD .skip) [(.osl [1000] (some 2) 0 x0), (.v (CV.int .i64 x1)), (.v (CV.int .i64 x2)), (.fn 57 [])] [([1000], (.row false (some 2) x3))] K = f63_A R_f57 k X (fun u => K (f63_out u)) x0 x1 x2 x3 := (f63_ev' R_f57 hR_f57 k K x0 x1 x2 x3).trans (by rw [f63_L1_it R_f57 hR_f57 k K]; rfl)
theorem f63_okA (R_f57 : f57_R) (hR_f57 : AnsOk Try.prog 57 (f57_cOf R_f57)) (k : Nat) : AnsOk Try.prog 63 (f63_cOf (f63_A R_f57 k)) := by
  intro X xs ns K x h
  unfold f63_cOf at h ⊢
  split at h
  · exact ans_main S (f63_Cok R_f57 hR_f57) Try.func63 (ent_of Try.func63 (by kernel_rfl) rfl) rfl (fun X K => f63_ev R_f57 hR_f57 k K _ _ _ _) h
  · cases h
/-- "slices.insertionSortCmpFunc[outpost/api.Opt]" -/
def f63 {X : Type} (k : Nat) (K : (List CV) → Option X) (x0 : Nat) (x1 : Int) (x2 : Int) (x3 : List CV) : Option X := f63_A (fun X => @f57 X k) k X K x0 x1 x2 x3
theorem f63_ok (k : Nat) : AnsOk Try.prog 63 (f63_cOf (fun X => @f63 X k)) := f63_okA (fun X => @f57 X k) (f57_ok k) k
abbrev f66_R : Type 1 := (X : Type) → ((List CV) → Option X) → Nat → Int → Int → Int → (List CV) → Option X
def f66_out (u : (List CV)) : Out := ⟨(.tup []), [([1000], (.row false (some 2) u))]⟩
def f66_cOf (R : f66_R) : FnC := fun X xs ns K => match xs, ns with
  | [(.osl [1000] (some 2) 0 x0), (.v (CV.int .i64 x1)), (.v (CV.int .i64 x2)), (.v (CV.int .i64 x3)), (.fn 57 [])], [([1000], (.row false (some 2) x4))] => R X (fun u => K (f66_out u)) x0 x1 x2 x3 x4
  | _, _ => none
def f66_plan : Nat → Option (List Nat × List Wk)
  | 0 => some ([0, 1, 2, 3], [])
  | 1 => some ([0, 1, 2, 3, 10], [])
  | 2 => some ([0, 1, 2, 3, 10], [])
  | 3 => some ([0, 1, 2, 3, 10], [])
  | _ => none
def f66_C : Fns := noC
theorem f66_Cok : CsOk Try.prog (f66_C) := noC_ok
def f66_cx : Cx := mkCx (tabOf rows) (f66_C) md (cmpIn cmps) f66_plan (f66_Cok)
def f66_S1 (v : Nat × Int × Int × Int × Int × (List CV)) : St := ⟨[(.osl [1000] (some 2) 0 v.1), (.v (CV.int .i64 v.2.1)), (.v (CV.int .i64 v.2.2.1)), (.v (CV.int .i64 v.2.2.2.1)), .undef, .undef, .undef, .undef, .undef, .undef, (.v (CV.int .i64 v.2.2.2.2.1)), .undef, .undef, .undef, .undef, .undef, .undef, .undef, .undef, .undef, .undef, .undef, .undef, .undef, .undef, .undef, .undef, .undef, .undef, .undef, .undef, .undef, .undef, .undef, .undef, .undef, .undef, .undef], [([1000], (.row false (some 2) v.2.2.2.2.2))]⟩
def f66_T1 {X : Type} (k : Nat) (K : (List CV) → Option X)   (rec1 : Nat × Int × Int × Int × Int × (List CV) → Option X) (v2_0 : Nat × Int × Int × Int × Int × (List CV)) : Option X :=
(bif (decide (v2_0.2.2.2.2.1 < v2_0.2.2.2.1)) then
grd (decide (0 ≤ (IntKind.wrap .i64 (v2_0.2.2.1 + v2_0.2.2.2.2.1)))) <|
grd (decide ((IntKind.wrap .i64 (v2_0.2.2.1 + v2_0.2.2.2.2.1)) < (Nat.cast (v2_0.1) : Int))) <|
Option.bind (v2_0.2.2.2.2.2)[(0 + (Int.toNat (IntKind.wrap .i64 (v2_0.2.2.1 + v2_0.2.2.2.2.1))))]? fun e8 =>
grd (decide (0 ≤ (IntKind.wrap .i64 (v2_0.2.1 + v2_0.2.2.2.2.1)))) <|
grd (decide ((IntKind.wrap .i64 (v2_0.2.1 + v2_0.2.2.2.2.1)) < (Nat.cast (v2_0.1) : Int))) <|
Option.bind (v2_0.2.2.2.2.2)[(0 + (Int.toNat (IntKind.wrap .i64 (v2_0.2.1 + v2_0.2.2.2.2.1))))]? fun e9 =>
grd (decide (0 ≤ (IntKind.wrap .i64 (v2_0.2.1 + v2_0.2.2.2.2.1)))) <|
grd (decide ((IntKind.wrap .i64 (v2_0.2.1 + v2_0.2.2.2.2.1)) < (Nat.cast (v2_0.1) : Int))) <|
grd (Nat.beq (CV.ncells e8) 2 && CV.isAgg e8) <|
grd (decide ((0 + (Int.toNat (IntKind.wrap .i64 (v2_0.2.1 + v2_0.2.2.2.2.1)))) < (List.length v2_0.2.2.2.2.2))) <|
grd (decide (0 ≤ (IntKind.wrap .i64 (v2_0.2.2.1 + v2_0.2.2.2.2.1)))) <|
grd (decide ((IntKind.wrap .i64 (v2_0.2.2.1 + v2_0.2.2.2.2.1)) < (Nat.cast (v2_0.1) : Int))) <|
grd (Nat.beq (CV.ncells e9) 2 && CV.isAgg e9) <|
grd (decide ((0 + (Int.toNat (IntKind.wrap .i64 (v2_0.2.2.1 + v2_0.2.2.2.2.1)))) < (List.length (List.set v2_0.2.2.2.2.2 (0 + (Int.toNat (IntKind.wrap .i64 (v2_0.2.1 + v2_0.2.2.2.2.1)))) e8)))) <|
rec1 (v2_0.1, v2_0.2.1, v2_0.2.2.1, v2_0.2.2.2.1, (IntKind.wrap .i64 (v2_0.2.2.2.2.1 + 1)), (List.set (List.set v2_0.2.2.2.2.2 (0 + (Int.toNat (IntKind.wrap .i64 (v2_0.2.1 + v2_0.2.2.2.2.1)))) e8) (0 + (Int.toNat (IntKind.wrap .i64 (v2_0.2.2.1 + v2_0.2.2.2.2.1)))) e9))
else
K (v2_0.2.2.2.2.2))
def f66_L1 {X : Type} (k : Nat) (K : (List CV) → Option X)  (rec1 : Nat × Int × Int × Int × Int × (List CV) → Option X) (v : Nat × Int × Int × Int × Int × (List CV)) : Option X := f66_T1 k K   rec1 v
set_option maxRecDepth 100000 in
theorem f66_L1_ev {X : Type} (k : Nat) (K : Out → Option X)  (r1 : St → Option X) (v : Nat × Int × Int × Int × Int × (List CV)) : loopB (f66_cx) k [.r, .b] (Try.f66.body.getD .skip) (retK (f66_cx) [] Try.f66.results.toList K) [] r1 (f66_S1 v) = f66_T1 k (fun u => K (f66_out u))   (fun v => r1 (f66_S1 v)) v := by kernel_rfl
theorem f66_L1_it {X : Type} (k : Nat) (K : Out → Option X)  : (fun v => iter (loopB (f66_cx) k [.r, .b] (Try.f66.body.getD .skip) (retK (f66_cx) [] Try.f66.results.toList K) []) k (f66_S1 v)) = iterV (f66_L1 k (fun u => K (f66_out u)) ) k :=
  iter_map (fun r1 v => (f66_L1_ev k K  r1 v).trans rfl) k
def f66_T {X : Type} (k : Nat) (K : (List CV) → Option X) (loop1 : Nat × Int × Int × Int × Int × (List CV) → Option X) (x0 : Nat) (x1 : Int) (x2 : Int) (x3 : Int) (x4 : List CV) : Option X :=
loop1 (x0, x1, x2, x3, 0, x4)
/-- "slices.swapRangeCmpFunc[outpost/api.Opt]" -/
def f66_A (k : Nat) : f66_R := fun X K x0 x1 x2 x3 x4 => f66_T k K (iterV (f66_L1 k K) k) x0 x1 x2 x3 x4
set_option maxRecDepth 100000 in
theorem f66_ev' {X : Type} (k : Nat) (K : Out → Option X) (x0 : Nat) (x1 : Int) (x2 : Int) (x3 : Int) (x4 : List CV) : evFn (f66_cx) [] k Try.f66.ntmps Try.f66.results.toList (Try.f66.body.getD .skip) [(.osl [1000] (some 2) 0 x0), (.v (CV.int .i64 x1)), (.v (CV.int .i64 x2)), (.v (CV.int .i64 x3)), (.fn 57 [])] [([1000], (.row false (some 2) x4))] K = f66_T k (fun u => K (f66_out u)) (fun v => iter (loopB (f66_cx) k [.r, .b] (Try.f66.body.getD .skip) (retK (f66_cx) [] Try.f66.results.toList K) []) k (f66_S1 v)) x0 x1 x2 x3 x4 := by kernel_rfl
theorem f66_ev {X : Type} (k : Nat) (K : Out → Option X) (x0 : Nat) (x1 : Int) (x2 : Int) (x3 : Int) (x4 : List CV) : evFn (f66_cx) [] k Try.f66.ntmps Try.f66.results.toList (Try.f66.body.getD .skip) [(.osl [1000] (some 2) 0 x0), (.v (CV.int .i64 x1)), (.v (CV.int .i64 x2)), (.v (CV.int .i64 x3)), (.fn 57 [])] [([1000], (.row false (some 2) x4))] K = f66_A k X (fun u => K (f66_out u)) x0 x1 x2 x3 x4 := (f66_ev' k K x0 x1 x2 x3 x4).trans (by rw [f66_L1_it k K]; rfl)
theorem f66_okA (k : Nat) : AnsOk Try.prog 66 (f66_cOf (f66_A k)) := by
  intro X xs ns K x h
  unfold f66_cOf at h ⊢
  split at h
  · exact ans_main S (f66_Cok) Try.func66 (ent_of Try.func66 (by kernel_rfl) rfl) rfl (fun X K => f66_ev k K _ _ _ _ _) h
  · cases h
/-- "slices.swapRangeCmpFunc[outpost/api.Opt]" -/
def f66 {X : Type} (k : Nat) (K : (List CV) → Option X) (x0 : Nat) (x1 : Int) (x2 : Int) (x3 : Int) (x4 : List CV) : Option X := f66_A k X K x0 x1 x2 x3 x4
theorem f66_ok (k : Nat) : AnsOk Try.prog 66 (f66_cOf (fun X => @f66 X k)) := f66_okA k
abbrev f65_R : Type 1 := (X : Type) → ((List CV) → Option X) → Nat → Int → Int → Int → (List CV) → Option X
def f65_out (u : (List CV)) : Out := ⟨(.tup []), [([1000], (.row false (some 2) u))]⟩
def f65_cOf (R : f65_R) : FnC := fun X xs ns K => match xs, ns with
  | [(.osl [1000] (some 2) 0 x0), (.v (CV.int .i64 x1)), (.v (CV.int .i64 x2)), (.v (CV.int .i64 x3)), (.fn 57 [])], [([1000], (.row false (some 2) x4))] => R X (fun u => K (f65_out u)) x0 x1 x2 x3 x4
  | _, _ => none
def f65_plan : Nat → Option (List Nat × List Wk)
  | 0 => some ([0, 1, 2, 3, 4], [])
  | 1 => some ([0, 2, 3, 4, 10], [])
  | 2 => some ([0, 2, 4, 10, 11], [])
  | 3 => some ([0, 2, 4, 10, 11], [])
  | 4 => some ([0, 2, 4, 10, 11], [])
  | 5 => some ([0, 2, 4, 10, 11], [])
  | 6 => some ([0, 2, 4, 10, 11], [])
  | 7 => some ([0, 2, 4, 10, 11], [])
  | 8 => some ([0, 2, 4, 10], [])
  | _ => none
def f65_C (R_f66 : f66_R) : Fns := (orC 66 (f66_cOf R_f66) noC)
theorem f65_Cok (R_f66 : f66_R) (hR_f66 : AnsOk Try.prog 66 (f66_cOf R_f66)) : CsOk Try.prog (f65_C R_f66) := (orC_ok hR_f66 noC_ok)
def f65_cx (R_f66 : f66_R) (hR_f66 : AnsOk Try.prog 66 (f66_cOf R_f66)) : Cx := mkCx (tabOf rows) (f65_C R_f66) md (cmpIn cmps) f65_plan (f65_Cok R_f66 hR_f66)
def f65_S1 (v : Nat × Int × Int × Int × (List CV)) : St := ⟨[(.osl [1000] (some 2) 0 v.1), .undef, (.v (CV.int .i64 v.2.1)), .undef, (.fn 57 []), .undef, .undef, .undef, .undef, .undef, (.v (CV.int .i64 v.2.2.1)), (.v (CV.int .i64 v.2.2.2.1)), .undef, .undef, .undef, .undef, .undef, .undef, .undef, .undef, .undef, .undef, .undef, .undef, .undef, .undef, .undef, .undef, .undef, .undef, .undef, .undef, .undef, .undef, .undef, .undef, .undef, .undef, .undef, .undef, .undef, .undef, .undef, .undef, .undef, .undef, .undef, .undef, .undef, .undef, .undef, .undef, .undef, .undef, .undef, .undef, .undef, .undef], [([1000], (.row false (some 2) v.2.2.2.2))]⟩
def f65_T1 {X : Type} (R_f66 : f66_R) (k : Nat) (K : (List CV) → Option X)   (rec1 : Nat × Int × Int × Int × (List CV) → Option X) (v4_0 : Nat × Int × Int × Int × (List CV)) : Option X :=
(bif (v4_0.2.2.1 != v4_0.2.2.2.1) then
(bif (decide (v4_0.2.2.1 > v4_0.2.2.2.1)) then
R_f66 _ (fun u4 =>
rec1 (v4_0.1, v4_0.2.1, (IntKind.wrap .i64 (v4_0.2.2.1 - v4_0.2.2.2.1)), v4_0.2.2.2.1, u4)) (v4_0.1) ((IntKind.wrap .i64 (v4_0.2.1 - v4_0.2.2.1))) (v4_0.2.1) (v4_0.2.2.2.1) (v4_0.2.2.2.2)
else
R_f66 _ (fun u5 =>
rec1 (v4_0.1, v4_0.2.1, v4_0.2.2.1, (IntKind.wrap .i64 (v4_0.2.2.2.1 - v4_0.2.2.1)), u5)) (v4_0.1) ((IntKind.wrap .i64 (v4_0.2.1 - v4_0.2.2.1))) ((IntKind.wrap .i64 ((IntKind.wrap .i64 (v4_0.2.1 + v4_0.2.2.2.1)) - v4_0.2.2.1))) (v4_0.2.2.1) (v4_0.2.2.2.2))
else
R_f66 _ (fun u6 =>
K (u6)) (v4_0.1) ((IntKind.wrap .i64 (v4_0.2.1 - v4_0.2.2.1))) (v4_0.2.1) (v4_0.2.2.1) (v4_0.2.2.2.2))
def f65_L1 {X : Type} (R_f66 : f66_R) (k : Nat) (K : (List CV) → Option X)  (rec1 : Nat × Int × Int × Int × (List CV) → Option X) (v : Nat × Int × Int × Int × (List CV)) : Option X := f65_T1 R_f66 k K   rec1 v
set_option maxRecDepth 100000 in
theorem f65_L1_ev {X : Type} (R_f66 : f66_R) (hR_f66 : AnsOk Try.prog 66 (f66_cOf R_f66)) (k : Nat) (K : Out → Option X)  (r1 : St → Option X) (v : Nat × Int × Int × Int × (List CV)) : loopB (f65_cx R_f66 hR_f66) k [.r, .r, .l, .b] (Try.f65.body.getD .skip) (retK (f65_cx R_f66 hR_f66) [] Try.f65.results.toList K) [] r1 (f65_S1 v) = f65_T1 R_f66 k (fun u => K (f65_out u))   (fun v => r1 (f65_S1 v)) v := by kernel_rfl
theorem f65_L1_it {X : Type} (R_f66 : f66_R) (hR_f66 : AnsOk Try.prog 66 (f66_cOf R_f66)) (k : Nat) (K : Out → Option X)  : (fun v => iter (loopB (f65_cx R_f66 hR_f66) k [.r, .r, .l, .b] (Try.f65.body.getD .skip) (retK (f65_cx R_f66 hR_f66) [] Try.f65.results.toList K) []) k (f65_S1 v)) = iterV (f65_L1 R_f66 k (fun u => K (f65_out u)) ) k :=
  iter_map (fun r1 v => (f65_L1_ev R_f66 hR_f66 k K  r1 v).trans rfl) k
def f65_T {X : Type} (R_f66 : f66_R) (k : Nat) (K : (List CV) → Option X) (loop1 : Nat × Int × Int × Int × (List CV) → Option X) (x0 : Nat) (x1 : Int) (x2 : Int) (x3 : Int) (x4 : List CV) : Option X :=
loop1 (x0, x2, (IntKind.wrap .i64 (x2 - x1)), (IntKind.wrap .i64 (x3 - x2)), x4)
/-- "slices.rotateCmpFunc[outpost/api.Opt]" -/
def f65_A (R_f66 : f66_R) (k : Nat) : f65_R := fun X K x0 x1 x2 x3 x4 => f65_T R_f66 k K (iterV (f65_L1 R_f66 k K) k) x0 x1 x2 x3 x4
set_option maxRecDepth 100000 in
theorem f65_ev' {X : Type} (R_f66 : f66_R) (hR_f66 : AnsOk Try.prog 66 (f66_cOf R_f66)) (k : Nat) (K : Out → Option X) (x0 : Nat) (x1 : Int) (x2 : Int) (x3 : Int) (x4 : List CV) : evFn (f65_cx R_f66 hR_f66) [] k Try.f65.ntmps Try.f65.results.toList (Try.f65.body.getD .skip) [(.osl [1000] (some 2) 0 x0), (.v (CV.int .i64 x1)), (.v (CV.int .i64 x2)), (.v (CV.int .i64 x3)), (.fn 57 [])] [([1000], (.row false (some 2) x4))] K = f65_T R_f66 k (fun u => K (f65_out u)) (fun v => iter (loopB (f65_cx R_f66 hR_f66) k [.r, .r, .l, .b] (Try.f65.body.getD .skip) (retK (f65_cx R_f66 hR_f66) [] Try.f65.results.toList K) []) k (f65_S1 v)) x0 x1 x2 x3 x4 := by kernel_rfl
theorem f65_ev {X : Type} (R_f66 : f66_R) (hR_f66 : AnsOk Try.prog 66 (f66_cOf R_f66)) (k : Nat) (K : Out → Option X) (x0 : Nat) (x1 : Int) (x2 : Int) (x3 : Int) (x4 : List CV) : evFn (f65_cx R_f66 hR_f66) [] k Try.f65.ntmps Try.f65.results.toList (Try.f65.body.getD .skip) [(.osl [1000] (some 2) 0 x0), (.v (CV.int .i64 x1)), (.v (CV.int .i64 x2)), (.v (CV.int .i64 x3)), (.fn 57 [])] [([1000], (.row false (some 2) x4))] K = f65_A R_f66 k X (fun u => K (f65_out u)) x0 x1 x2 x3 x4 := (f65_ev' R_f66 hR_f66 k K x0 x1 x2 x3 x4).trans (by rw [f65_L1_it R_f66 hR_f66 k K]; rfl)
theorem f65_okA (R_f66 : f66_R) (hR_f66 : AnsOk Try.prog 66 (f66_cOf R_f66)) (k : Nat) : AnsOk Try.prog 65 (f65_cOf (f65_A R_f66 k)) := by
  intro X xs ns K x h
  unfold f65_cOf at h ⊢
  split at h
  · exact ans_main S (f65_Cok R_f66 hR_f66) Try.func65 (ent_of Try.func65 (by kernel_rfl) rfl) rfl (fun X K => f65_ev R_f66 hR_f66 k K _ _ _ _ _) h
  · cases h
/-- "slices.rotateCmpFunc[outpost/api.Opt]" -/
def f65 {X : Type} (k : Nat) (K : (List CV) → Option X) (x0 : Nat) (x1 : Int) (x2 : Int) (x3 : Int) (x4 : List CV) : Option X := f65_A (fun X => @f66 X k) k X K x0 x1 x2 x3 x4
theorem f65_ok (k : Nat) : AnsOk Try.prog 65 (f65_cOf (fun X => @f65 X k)) := f65_okA (fun X => @f66 X k) (f66_ok k) k
abbrev f64_R : Type 1 := (X : Type) → ((List CV) → Option X) → Nat → Int → Int → Int → (List CV) → Option X
def f64_out (u : (List CV)) : Out := ⟨(.tup []), [([1000], (.row false (some 2) u))]⟩
def f64_cOf (R : f64_R) : FnC := fun X xs ns K => match xs, ns with
  | [(.osl [1000] (some 2) 0 x0), (.v (CV.int .i64 x1)), (.v (CV.int .i64 x2)), (.v (CV.int .i64 x3)), (.fn 57 [])], [([1000], (.row false (some 2) x4))] => R X (fun u => K (f64_out u)) x0 x1 x2 x3 x4
  | _, _ => none
def f64_plan : Nat → Option (List Nat × List Wk)
  | 0 => some ([0, 1, 2, 3, 4], [])
  | 1 => some ([0, 1, 2, 3, 4], [])
  | 2 => some ([0, 1, 3, 4, 10], [])
  | 3 => some ([0, 1, 4, 10, 11], [])
  | 4 => some ([0, 1, 4, 10, 11], [])
  | 5 => some ([0, 1, 4, 10, 11, 12], [])
  | 6 => some ([0, 1, 4, 11, 12], [])
  | 7 => some ([0, 1, 4, 10, 12], [])
  | 8 => some ([0, 1, 10], [])
  | 9 => some ([0, 10, 13], [])
  | 10 => some ([0, 10, 13], [])
  | 11 => some ([0, 10, 13], [])
  | 12 => some ([0, 1, 2, 3, 4], [])
  | 13 => some ([0, 1, 2, 4], [])
  | 14 => some ([0, 2, 4, 14], [])
  | 15 => some ([0, 2, 4, 14, 15], [])
  | 16 => some ([0, 2, 4, 14, 15], [])
  | 17 => some ([0, 2, 4, 14, 15, 16], [])
  | 18 => some ([0, 2, 4, 15, 16], [])
  | 19 => some ([0, 2, 4, 14, 16], [])
  | 20 => some ([0, 2, 14], [])
  | 21 => some ([0, 14, 17], [])
  | 22 => some ([0, 14, 17], [])
  | 23 => some ([0, 14, 17], [])
  | 24 => some ([0, 1, 2, 3, 4], [])
  | 25 => some ([0, 1, 2, 3, 4, 18], [])
  | 26 => some ([0, 1, 2, 3, 4, 18, 19], [])
  | 27 => some ([0, 1, 2, 3, 4, 18, 19], [])
  | 28 => some ([0, 1, 2, 3, 4, 18, 19], [])
  | 29 => some ([0, 1, 2, 3, 4, 18, 19, 20], [])
  | 30 => some ([0, 1, 2, 3, 4, 18, 19], [])
  | 31 => some ([0, 1, 2, 3, 4, 18, 19, 20], [])
  | 32 => some ([0, 1, 2, 3, 4, 18, 19, 20, 21], [])
  | 33 => some ([0, 1, 2, 3, 4, 18, 19, 20, 21, 22], [])
  | 34 => some ([0, 1, 2, 3, 4, 18, 19, 20, 21, 22], [])
  | 35 => some ([0, 1, 2, 3, 4, 18, 19, 20, 21, 22, 23], [])
  | 36 => some ([0, 1, 2, 3, 4, 18, 19, 21, 22, 23], [])
  | 37 => some ([0, 1, 2, 3, 4, 18, 19, 20, 22, 23], [])
  | 38 => some ([0, 1, 2, 3, 4, 18, 19, 20], [])
  | 39 => some ([0, 1, 2, 3, 4, 18, 20, 24], [])
  | 40 => some ([0, 1, 2, 3, 4, 18, 20, 24], [])
  | 41 => some ([0, 1, 3, 4, 18, 20, 24], [])
  | 42 => some ([0, 1, 3, 4, 18, 20, 24], [])
  | 43 => some ([0, 3, 4, 18, 24], [])
  | 44 => some ([0, 3, 4, 18, 24], [])
  | _ => none
def f64_C (R_f57 : f57_R) (R_f65 : f65_R) (R_f64 : f64_R) : Fns := (orC 57 (f57_cOf R_f57) (orC 64 (f64_cOf R_f64) (orC 65 (f65_cOf R_f65) noC)))
theorem f64_Cok (R_f57 : f57_R) (R_f65 : f65_R) (R_f64 : f64_R) (hR_f57 : AnsOk Try.prog 57 (f57_cOf R_f57)) (hR_f65 : AnsOk Try.prog 65 (f65_cOf R_f65)) (hR_f64 : AnsOk Try.prog 64 (f64_cOf R_f64)) : CsOk Try.prog (f64_C R_f57 R_f65 R_f64) := (orC_ok hR_f57 (orC_ok hR_f64 (orC_ok hR_f65 noC_ok)))
def f64_cx (R_f57 : f57_R) (R_f65 : f65_R) (R_f64 : f64_R) (hR_f57 : AnsOk Try.prog 57 (f57_cOf R_f57)) (hR_f65 : AnsOk Try.prog 65 (f65_cOf R_f65)) (hR_f64 : AnsOk Try.prog 64 (f64_cOf R_f64)) : Cx := mkCx (tabOf rows) (f64_C R_f57 R_f65 R_f64) md (cmpIn cmps) f64_plan (f64_Cok R_f57 R_f65 R_f64 hR_f57 hR_f65 hR_f64)
def f64_S1 (v : Nat × Int × Int × Int × (List CV)) : St := ⟨[(.osl [1000] (some 2) 0 v.1), (.v (CV.int .i64 v.2.1)), .undef, .undef, (.fn 57 []), .undef, .undef, .undef, .undef, .undef, (.v (CV.int .i64 v.2.2.1)), (.v (CV.int .i64 v.2.2.2.1)), .undef, .undef, .undef, .undef, .undef, .undef, .undef, .undef, .undef, .undef, .undef, .undef, .undef, .undef, .undef, .undef, .undef, .undef, .undef, .undef, .undef, .undef, .undef, .undef, .undef, .undef, .undef, .undef, .undef, .undef, .undef, .undef, .undef, .undef, .undef, .undef, .undef, .undef, .undef, .undef, .undef, .undef, .undef, .undef, .undef, .undef, .undef, .undef, .undef, .undef, .undef, .undef, .undef, .undef, .undef, .undef, .undef, .undef, .undef, .undef, .undef, .undef, .undef, .undef, .undef, .undef, .undef, .undef, .undef, .undef, .undef, .undef, .undef, .undef, .undef, .undef, .undef, .undef, .undef, .undef, .undef, .undef, .undef, .undef, .undef, .undef, .undef, .undef, .undef, .undef, .undef, .undef, .undef, .undef, .undef, .undef, .undef, .undef, .undef, .undef, .undef, .undef, .undef, .undef, .undef, .undef, .undef, .undef, .undef, .undef, .undef, .undef, .undef, .undef, .undef, .undef, .undef, .undef, .undef, .undef, .undef, .undef, .undef, .undef, .undef, .undef, .undef, .undef, .undef, .undef, .undef, .undef, .undef, .undef, .undef, .undef, .undef, .undef, .undef, .undef, .undef, .undef, .undef, .undef, .undef, .undef, .undef, .undef, .undef, .undef, .undef, .undef, .undef, .undef, .undef, .undef, .undef, .undef, .undef, .undef, .undef, .undef, .undef, .undef, .undef, .undef, .undef, .undef, .undef, .undef, .undef, .undef, .undef, .undef, .undef, .undef, .undef, .undef, .undef, .undef, .undef, .undef, .undef, .undef, .undef, .undef, .undef, .undef, .undef, .undef, .undef, .undef, .undef, .undef, .undef, .undef, .undef, .undef, .undef, .undef, .undef, .undef, .undef, .undef, .undef, .undef, .undef, .undef], [([1000], (.row false (some 2) v.2.2.2.2))]⟩
def f64_S2 (v : Nat × Int × Int × (List CV)) : St := ⟨[(.osl [1000] (some 2) 0 v.1), .undef, .undef, .undef, .undef, .undef, .undef, .undef, .undef, .undef, (.v (CV.int .i64 v.2.1)), .undef, .undef, (.v (CV.int .i64 v.2.2.1)), .undef, .undef, .undef, .undef, .undef, .undef, .undef, .undef, .undef, .undef, .undef, .undef, .undef, .undef, .undef, .undef, .undef, .undef, .undef, .undef, .undef, .undef, .undef, .undef, .undef, .undef, .undef, .undef, .undef, .undef, .undef, .undef, .undef, .undef, .undef, .undef, .undef, .undef, .undef, .undef, .undef, .undef, .undef, .undef, .undef, .undef, .undef, .undef, .undef, .undef, .undef, .undef, .undef, .undef, .undef, .undef, .undef, .undef, .undef, .undef, .undef, .undef, .undef, .undef, .undef, .undef, .undef, .undef, .undef, .undef, .undef, .undef, .undef, .undef, .undef, .undef, .undef, .undef, .undef, .undef, .undef, .undef, .undef, .undef, .undef, .undef, .undef, .undef, .undef, .undef, .undef, .undef, .undef, .undef, .undef, .undef, .undef, .undef, .undef, .undef, .undef, .undef, .undef, .undef, .undef, .undef, .undef, .undef, .undef, .undef, .undef, .undef, .undef, .undef, .undef, .undef, .undef, .undef, .undef, .undef, .undef, .undef, .undef, .undef, .undef, .undef, .undef, .undef, .undef, .undef, .undef, .undef, .undef, .undef, .undef, .undef, .undef, .undef, .undef, .undef, .undef, .undef, .undef, .undef, .undef, .undef, .undef, .undef, .undef, .undef, .undef, .undef, .undef, .undef, .undef, .undef, .undef, .undef, .undef, .undef, .undef, .undef, .undef, .undef, .undef, .undef, .undef, .undef, .undef, .undef, .undef, .undef, .undef, .undef, .undef, .undef, .undef, .undef, .undef, .undef, .undef, .undef, .undef, .undef, .undef, .undef, .undef, .undef, .undef, .undef, .undef, .undef, .undef, .undef, .undef, .undef, .undef, .undef, .undef, .undef, .undef, .undef, .undef, .undef, .undef, .undef], [([1000], (.row false (some 2) v.2.2.2))]⟩
def f64_S3 (v : Nat × Int × Int × Int × (List CV)) : St := ⟨[(.osl [1000] (some 2) 0 v.1), .undef, (.v (CV.int .i64 v.2.1)), .undef, (.fn 57 []), .undef, .undef, .undef, .undef, .undef, .undef, .undef, .undef, .undef, (.v (CV.int .i64 v.2.2.1)), (.v (CV.int .i64 v.2.2.2.1)), .undef, .undef, .undef, .undef, .undef, .undef, .undef, .undef, .undef, .undef, .undef, .undef, .undef, .undef, .undef, .undef, .undef, .undef, .undef, .undef, .undef, .undef, .undef, .undef, .undef, .undef, .undef, .undef, .undef, .undef, .undef, .undef, .undef, .undef, .undef, .undef, .undef, .undef, .undef, .undef, .undef, .undef, .undef, .undef, .undef, .undef, .undef, .undef, .undef, .undef, .undef, .undef, .undef, .undef, .undef, .undef, .undef, .undef, .undef, .undef, .undef, .undef, .undef, .undef, .undef, .undef, .undef, .undef, .undef, .undef, .undef, .undef, .undef, .undef, .undef, .undef, .undef, .undef, .undef, .undef, .undef, .undef, .undef, .undef, .undef, .undef, .undef, .undef, .undef, .undef, .undef, .undef, .undef, .undef, .undef, .undef, .undef, .undef, .undef, .undef, .undef, .undef, .undef, .undef, .undef, .undef, .undef, .undef, .undef, .undef, .undef, .undef, .undef, .undef, .undef, .undef, .undef, .undef, .undef, .undef, .undef, .undef, .undef, .undef, .undef, .undef, .undef, .undef, .undef, .undef, .undef, .undef, .undef, .undef, .undef, .undef, .undef, .undef, .undef, .undef, .undef, .undef, .undef, .undef, .undef, .undef, .undef, .undef, .undef, .undef, .undef, .undef, .undef, .undef, .undef, .undef, .undef, .undef, .undef, .undef, .undef, .undef, .undef, .undef, .undef, .undef, .undef, .undef, .undef, .undef, .undef, .undef, .undef, .undef, .undef, .undef, .undef, .undef, .undef, .undef, .undef, .undef, .undef, .undef, .undef, .undef, .undef, .undef, .undef, .undef, .undef, .undef, .undef, .undef, .undef, .undef, .undef, .undef, .undef, .undef, .undef, .undef, .undef, .undef], [([1000], (.row false (some 2) v.2.2.2.2))]⟩
def f64_S4 (v : Nat × Int × Int × (List CV)) : St := ⟨[(.osl [1000] (some 2) 0 v.1), .undef, .undef, .undef, .undef, .undef, .undef, .undef, .undef, .undef, .undef, .undef, .undef, .undef, (.v (CV.int .i64 v.2.1)), .undef, .undef, (.v (CV.int .i64 v.2.2.1)), .undef, .undef, .undef, .undef, .undef, .undef, .undef, .undef, .undef, .undef, .undef, .undef, .undef, .undef, .undef, .undef, .undef, .undef, .undef, .undef, .undef, .undef, .undef, .undef, .undef, .undef, .undef, .undef, .undef, .undef, .undef, .undef, .undef, .undef, .undef, .undef, .undef, .undef, .undef, .undef, .undef, .undef, .undef, .undef, .undef, .undef, .undef, .undef, .undef, .undef, .undef, .undef, .undef, .undef, .undef, .undef, .undef, .undef, .undef, .undef, .undef, .undef, .undef, .undef, .undef, .undef, .undef, .undef, .undef, .undef, .undef, .undef, .undef, .undef, .undef, .undef, .undef, .undef, .undef, .undef, .undef, .undef, .undef, .undef, .undef, .undef, .undef, .undef, .undef, .undef, .undef, .undef, .undef, .undef, .undef, .undef, .undef, .undef, .undef, .undef, .undef, .undef, .undef, .undef, .undef, .undef, .undef, .undef, .undef, .undef, .undef, .undef, .undef, .undef, .undef, .undef, .undef, .undef, .undef, .undef, .undef, .undef, .undef, .undef, .undef, .undef, .undef, .undef, .undef, .undef, .undef, .undef, .undef, .undef, .undef, .undef, .undef, .undef, .undef, .undef, .undef, .undef, .undef, .undef, .undef, .undef, .undef, .undef, .undef, .undef, .undef, .undef, .undef, .undef, .undef, .undef, .undef, .undef, .undef, .undef, .undef, .undef, .undef, .undef, .undef, .undef, .undef, .undef, .undef, .undef, .undef, .undef, .undef, .undef, .undef, .undef, .undef, .undef, .undef, .undef, .undef, .undef, .undef, .undef, .undef, .undef, .undef, .undef, .undef, .undef, .undef, .undef, .undef, .undef, .undef, .undef, .undef, .undef, .undef, .undef, .undef, .undef], [([1000], (.row false (some 2) v.2.2.2))]⟩
def f64_S5 (v : Nat × Int × Int × Int × Int × Int × Int × Int × Int × (List CV)) : St := ⟨[(.osl [1000] (some 2) 0 v.1), (.v (CV.int .i64 v.2.1)), (.v (CV.int .i64 v.2.2.1)), (.v (CV.int .i64 v.2.2.2.1)), (.fn 57 []), .undef, .undef, .undef, .undef, .undef, .undef, .undef, .undef, .undef, .undef, .undef, .undef, .undef, (.v (CV.int .i64 v.2.2.2.2.1)), (.v (CV.int .i64 v.2.2.2.2.2.1)), (.v (CV.int .i64 v.2.2.2.2.2.2.1)), (.v (CV.int .i64 v.2.2.2.2.2.2.2.1)), (.v (CV.int .i64 v.2.2.2.2.2.2.2.2.1)), .undef, .undef, .undef, .undef, .undef, .undef, .undef, .undef, .undef, .undef, .undef, .undef, .undef, .undef, .undef, .undef, .undef, .undef, .undef, .undef, .undef, .undef, .undef, .undef, .undef, .undef, .undef, .undef, .undef, .undef, .undef, .undef, .undef, .undef, .undef, .undef, .undef, .undef, .undef, .undef, .undef, .undef, .undef, .undef, .undef, .undef, .undef, .undef, .undef, .undef, .undef, .undef, .undef, .undef, .undef, .undef, .undef, .undef, .undef, .undef, .undef, .undef, .undef, .undef, .undef, .undef, .undef, .undef, .undef, .undef, .undef, .undef, .undef, .undef, .undef, .undef, .undef, .undef, .undef, .undef, .undef, .undef, .undef, .undef, .undef, .undef, .undef, .undef, .undef, .undef, .undef, .undef, .undef, .undef, .undef, .undef, .undef, .undef, .undef, .undef, .undef, .undef, .undef, .undef, .undef, .undef, .undef, .undef, .undef, .undef, .undef, .undef, .undef, .undef, .undef, .undef, .undef, .undef, .undef, .undef, .undef, .undef, .undef, .undef, .undef, .undef, .undef, .undef, .undef, .undef, .undef, .undef, .undef, .undef, .undef, .undef, .undef, .undef, .undef, .undef, .undef, .undef, .undef, .undef, .undef, .undef, .undef, .undef, .undef, .undef, .undef, .undef, .undef, .undef, .undef, .undef, .undef, .undef, .undef, .undef, .undef, .undef, .undef, .undef, .undef, .undef, .undef, .undef, .undef, .undef, .undef, .undef, .undef, .undef, .undef, .undef, .undef, .undef, .undef, .undef, .undef, .undef, .undef, .undef, .undef, .undef, .undef, .undef, .undef, .undef, .undef, .undef, .undef, .undef, .undef, .undef, .undef], [([1000], (.row false (some 2) v.2.2.2.2.2.2.2.2.2))]⟩
def f64_J1 {X : Type} (R_f57 : f57_R) (R_f65 : f65_R) (R_f64 : f64_R) (k : Nat) (K : (List CV) → Option X) (v9_33 : Nat × Int × Int × Int × Int × Int × Int × Int × Int × (List CV)) (v44 : (List CV)) : Option X :=
(bif (decide (v9_33.2.2.2.2.1 < (IntKind.wrap .i64 (v9_33.2.2.2.2.2.1 - v9_33.2.2.2.2.2.2.1)))) then
(bif (decide ((IntKind.wrap .i64 (v9_33.2.2.2.2.2.1 - v9_33.2.2.2.2.2.2.1)) < v9_33.2.2.2.1)) then
R_f64 _ (fun u45 =>
K (u45)) (v9_33.1) (v9_33.2.2.2.2.1) ((IntKind.wrap .i64 (v9_33.2.2.2.2.2.1 - v9_33.2.2.2.2.2.2.1))) (v9_33.2.2.2.1) (v44)
else
K (v44))
else
K (v44))
def f64_J2 {X : Type} (R_f57 : f57_R) (R_f65 : f65_R) (R_f64 : f64_R) (k : Nat) (K : (List CV) → Option X) (v9_33 : Nat × Int × Int × Int × Int × Int × Int × Int × Int × (List CV)) (v42 : (List CV)) : Option X :=
(bif (decide (v9_33.2.1 < v9_33.2.2.2.2.2.2.1)) then
(bif (decide (v9_33.2.2.2.2.2.2.1 < v9_33.2.2.2.2.1)) then
R_f64 _ (fun u46 =>
f64_J1 R_f57 R_f65 R_f64 k K v9_33 (u46)) (v9_33.1) (v9_33.2.1) (v9_33.2.2.2.2.2.2.1) (v9_33.2.2.2.2.1) (v42)
else
f64_J1 R_f57 R_f65 R_f64 k K v9_33 (v42))
else
f64_J1 R_f57 R_f65 R_f64 k K v9_33 (v42))
def f64_J3 {X : Type} (R_f57 : f57_R) (R_f65 : f65_R) (R_f64 : f64_R) (k : Nat) (K : (List CV) → Option X) (loop5 : Nat × Int × Int × Int × Int × Int × Int × Int × Int × (List CV) → Option X) (x0 : Nat) (x1 : Int) (x2 : Int) (x3 : Int) (x4 : List CV) (v33 : Int × Int × Int × Int) : Option X :=
loop5 (x0, x1, x2, x3, v33.1, v33.2.1, v33.2.2.1, v33.2.2.2, (IntKind.wrap .i64 (v33.2.1 - 1)), x4)
def f64_T5 {X : Type} (R_f57 : f57_R) (R_f65 : f65_R) (R_f64 : f64_R) (k : Nat) (K : (List CV) → Option X)   (rec5 : Nat × Int × Int × Int × Int × Int × Int × Int × Int × (List CV) → Option X) (v9_33 : Nat × Int × Int × Int × Int × Int × Int × Int × Int × (List CV)) : Option X :=
(bif (decide (v9_33.2.2.2.2.2.2.1 < v9_33.2.2.2.2.2.2.2.1)) then
grd (decide (0 ≤ (IntKind.wrap .i64 (v9_33.2.2.2.2.2.2.2.2.1 - (IntKind.wrap .i64 (Int.fdiv (IntKind.wrap .u64 (IntKind.wrap .i64 (v9_33.2.2.2.2.2.2.1 + v9_33.2.2.2.2.2.2.2.1))) (2 ^ 1))))))) <|
grd (decide ((IntKind.wrap .i64 (v9_33.2.2.2.2.2.2.2.2.1 - (IntKind.wrap .i64 (Int.fdiv (IntKind.wrap .u64 (IntKind.wrap .i64 (v9_33.2.2.2.2.2.2.1 + v9_33.2.2.2.2.2.2.2.1))) (2 ^ 1))))) < (Nat.cast (v9_33.1) : Int))) <|
Option.bind (v9_33.2.2.2.2.2.2.2.2.2)[(0 + (Int.toNat (IntKind.wrap .i64 (v9_33.2.2.2.2.2.2.2.2.1 - (IntKind.wrap .i64 (Int.fdiv (IntKind.wrap .u64 (IntKind.wrap .i64 (v9_33.2.2.2.2.2.2.1 + v9_33.2.2.2.2.2.2.2.1))) (2 ^ 1)))))))]? fun e38 =>
grd (decide (0 ≤ (IntKind.wrap .i64 (Int.fdiv (IntKind.wrap .u64 (IntKind.wrap .i64 (v9_33.2.2.2.2.2.2.1 + v9_33.2.2.2.2.2.2.2.1))) (2 ^ 1))))) <|
grd (decide ((IntKind.wrap .i64 (Int.fdiv (IntKind.wrap .u64 (IntKind.wrap .i64 (v9_33.2.2.2.2.2.2.1 + v9_33.2.2.2.2.2.2.2.1))) (2 ^ 1))) < (Nat.cast (v9_33.1) : Int))) <|
Option.bind (v9_33.2.2.2.2.2.2.2.2.2)[(0 + (Int.toNat (IntKind.wrap .i64 (Int.fdiv (IntKind.wrap .u64 (IntKind.wrap .i64 (v9_33.2.2.2.2.2.2.1 + v9_33.2.2.2.2.2.2.2.1))) (2 ^ 1)))))]? fun e39 =>
R_f57 _ (fun u40 =>
(bif (!(decide (u40 < 0))) then
rec5 (v9_33.1, v9_33.2.1, v9_33.2.2.1, v9_33.2.2.2.1, v9_33.2.2.2.2.1, v9_33.2.2.2.2.2.1, (IntKind.wrap .i64 ((IntKind.wrap .i64 (Int.fdiv (IntKind.wrap .u64 (IntKind.wrap .i64 (v9_33.2.2.2.2.2.2.1 + v9_33.2.2.2.2.2.2.2.1))) (2 ^ 1))) + 1)), v9_33.2.2.2.2.2.2.2.1, v9_33.2.2.2.2.2.2.2.2.1, v9_33.2.2.2.2.2.2.2.2.2)
else
rec5 (v9_33.1, v9_33.2.1, v9_33.2.2.1, v9_33.2.2.2.1, v9_33.2.2.2.2.1, v9_33.2.2.2.2.2.1, v9_33.2.2.2.2.2.2.1, (IntKind.wrap .i64 (Int.fdiv (IntKind.wrap .u64 (IntKind.wrap .i64 (v9_33.2.2.2.2.2.2.1 + v9_33.2.2.2.2.2.2.2.1))) (2 ^ 1))), v9_33.2.2.2.2.2.2.2.2.1, v9_33.2.2.2.2.2.2.2.2.2))) (e38) (e39)
else
(bif (decide (v9_33.2.2.2.2.2.2.1 < v9_33.2.2.1)) then
(bif (decide (v9_33.2.2.1 < (IntKind.wrap .i64 (v9_33.2.2.2.2.2.1 - v9_33.2.2.2.2.2.2.1)))) then
R_f65 _ (fun u47 =>
f64_J2 R_f57 R_f65 R_f64 k K v9_33 (u47)) (v9_33.1) (v9_33.2.2.2.2.2.2.1) (v9_33.2.2.1) ((IntKind.wrap .i64 (v9_33.2.2.2.2.2.1 - v9_33.2.2.2.2.2.2.1))) (v9_33.2.2.2.2.2.2.2.2.2)
else
f64_J2 R_f57 R_f65 R_f64 k K v9_33 (v9_33.2.2.2.2.2.2.2.2.2))
else
f64_J2 R_f57 R_f65 R_f64 k K v9_33 (v9_33.2.2.2.2.2.2.2.2.2)))
def f64_L5 {X : Type} (R_f57 : f57_R) (R_f65 : f65_R) (R_f64 : f64_R) (k : Nat) (K : (List CV) → Option X)  (rec5 : Nat × Int × Int × Int × Int × Int × Int × Int × Int × (List CV) → Option X) (v : Nat × Int × Int × Int × Int × Int × Int × Int × Int × (List CV)) : Option X := f64_T5 R_f57 R_f65 R_f64 k K   rec5 v
set_option maxRecDepth 100000 in
theorem f64_L5_ev {X : Type} (R_f57 : f57_R) (R_f65 : f65_R) (R_f64 : f64_R) (hR_f57 : AnsOk Try.prog 57 (f57_cOf R_f57)) (hR_f65 : AnsOk Try.prog 65 (f65_cOf R_f65)) (hR_f64 : AnsOk Try.prog 64 (f64_cOf R_f64)) (k : Nat) (K : Out → Option X)  (r5 : St → Option X) (v : Nat × Int × Int × Int × Int × Int × Int × Int × Int × (List CV)) : loopB (f64_cx R_f57 R_f65 R_f64 hR_f57 hR_f65 hR_f64) k [.r, .r, .r, .r, .r, .r, .r, .l, .b] (Try.f64.body.getD .skip) (retK (f64_cx R_f57 R_f65 R_f64 hR_f57 hR_f65 hR_f64) [] Try.f64.results.toList K) [] r5 (f64_S5 v) = f64_T5 R_f57 R_f65 R_f64 k (fun u => K (f64_out u))   (fun v => r5 (f64_S5 v)) v := by kernel_rfl
theorem f64_L5_it {X : Type} (R_f57 : f57_R) (R_f65 : f65_R) (R_f64 : f64_R) (hR_f57 : AnsOk Try.prog 57 (f57_cOf R_f57)) (hR_f65 : AnsOk Try.prog 65 (f65_cOf R_f65)) (hR_f64 : AnsOk Try.prog 64 (f64_cOf R_f64)) (k : Nat) (K : Out → Option X)  : (fun v => iter (loopB (f64_cx R_f57 R_f65 R_f64 hR_f57 hR_f65 hR_f64) k [.r, .r, .r, .r, .r, .r, .r, .l, .b] (Try.f64.body.getD .skip) (retK (f64_cx R_f57 R_f65 R_f64 hR_f57 hR_f65 hR_f64) [] Try.f64.results.toList K) []) k (f64_S5 v)) = iterV (f64_L5 R_f57 R_f65 R_f64 k (fun u => K (f64_out u)) ) k :=
  iter_map (fun r5 v => (f64_L5_ev R_f57 R_f65 R_f64 hR_f57 hR_f65 hR_f64 k K  r5 v).trans rfl) k
def f64_T4 {X : Type} (R_f57 : f57_R) (R_f65 : f65_R) (R_f64 : f64_R) (k : Nat) (K : (List CV) → Option X)   (rec4 : Nat × Int × Int × (List CV) → Option X) (v10_23 : Nat × Int × Int × (List CV)) : Option X :=
(bif (decide (v10_23.2.2.1 > v10_23.2.1)) then
grd (decide (0 ≤ (IntKind.wrap .i64 (v10_23.2.2.1 - 1)))) <|
grd (decide ((IntKind.wrap .i64 (v10_23.2.2.1 - 1)) < (Nat.cast (v10_23.1) : Int))) <|
Option.bind (v10_23.2.2.2)[(0 + (Int.toNat (IntKind.wrap .i64 (v10_23.2.2.1 - 1))))]? fun e31 =>
grd (decide (0 ≤ v10_23.2.2.1)) <|
grd (decide (v10_23.2.2.1 < (Nat.cast (v10_23.1) : Int))) <|
Option.bind (v10_23.2.2.2)[(0 + (Int.toNat v10_23.2.2.1))]? fun e32 =>
grd (decide (0 ≤ v10_23.2.2.1)) <|
grd (decide (v10_23.2.2.1 < (Nat.cast (v10_23.1) : Int))) <|
grd (Nat.beq (CV.ncells e31) 2 && CV.isAgg e31) <|
grd (decide ((0 + (Int.toNat v10_23.2.2.1)) < (List.length v10_23.2.2.2))) <|
grd (decide (0 ≤ (IntKind.wrap .i64 (v10_23.2.2.1 - 1)))) <|
grd (decide ((IntKind.wrap .i64 (v10_23.2.2.1 - 1)) < (Nat.cast (v10_23.1) : Int))) <|
grd (Nat.beq (CV.ncells e32) 2 && CV.isAgg e32) <|
grd (decide ((0 + (Int.toNat (IntKind.wrap .i64 (v10_23.2.2.1 - 1)))) < (List.length (List.set v10_23.2.2.2 (0 + (Int.toNat v10_23.2.2.1)) e31)))) <|
rec4 (v10_23.1, v10_23.2.1, (IntKind.wrap .i64 (v10_23.2.2.1 - 1)), (List.set (List.set v10_23.2.2.2 (0 + (Int.toNat v10_23.2.2.1)) e31) (0 + (Int.toNat (IntKind.wrap .i64 (v10_23.2.2.1 - 1)))) e32))
else
K (v10_23.2.2.2))
def f64_L4 {X : Type} (R_f57 : f57_R) (R_f65 : f65_R) (R_f64 : f64_R) (k : Nat) (K : (List CV) → Option X)  (rec4 : Nat × Int × Int × (List CV) → Option X) (v : Nat × Int × Int × (List CV)) : Option X := f64_T4 R_f57 R_f65 R_f64 k K   rec4 v
set_option maxRecDepth 100000 in
theorem f64_L4_ev {X : Type} (R_f57 : f57_R) (R_f65 : f65_R) (R_f64 : f64_R) (hR_f57 : AnsOk Try.prog 57 (f57_cOf R_f57)) (hR_f65 : AnsOk Try.prog 65 (f65_cOf R_f65)) (hR_f64 : AnsOk Try.prog 64 (f64_cOf R_f64)) (k : Nat) (K : Out → Option X)  (r4 : St → Option X) (v : Nat × Int × Int × (List CV)) : loopB (f64_cx R_f57 R_f65 R_f64 hR_f57 hR_f65 hR_f64) k [.r, .l, .r, .t, .r, .r, .r, .l, .r, .b] (Try.f64.body.getD .skip) (retK (f64_cx R_f57 R_f65 R_f64 hR_f57 hR_f65 hR_f64) [] Try.f64.results.toList K) [] r4 (f64_S4 v) = f64_T4 R_f57 R_f65 R_f64 k (fun u => K (f64_out u))   (fun v => r4 (f64_S4 v)) v := by kernel_rfl
theorem f64_L4_it {X : Type} (R_f57 : f57_R) (R_f65 : f65_R) (R_f64 : f64_R) (hR_f57 : AnsOk Try.prog 57 (f57_cOf R_f57)) (hR_f65 : AnsOk Try.prog 65 (f65_cOf R_f65)) (hR_f64 : AnsOk Try.prog 64 (f64_cOf R_f64)) (k : Nat) (K : Out → Option X)  : (fun v => iter (loopB (f64_cx R_f57 R_f65 R_f64 hR_f57 hR_f65 hR_f64) k [.r, .l, .r, .t, .r, .r, .r, .l, .r, .b] (Try.f64.body.getD .skip) (retK (f64_cx R_f57 R_f65 R_f64 hR_f57 hR_f65 hR_f64) [] Try.f64.results.toList K) []) k (f64_S4 v)) = iterV (f64_L4 R_f57 R_f65 R_f64 k (fun u => K (f64_out u)) ) k :=
  iter_map (fun r4 v => (f64_L4_ev R_f57 R_f65 R_f64 hR_f57 hR_f65 hR_f64 k K  r4 v).trans rfl) k
def f64_T3 {X : Type} (R_f57 : f57_R) (R_f65 : f65_R) (R_f64 : f64_R) (k : Nat) (K : (List CV) → Option X)  (loop4 : Nat × Int × Int × (List CV) → Option X) (rec3 : Nat × Int × Int × Int × (List CV) → Option X) (v8_16 : Nat × Int × Int × Int × (List CV)) : Option X :=
(bif (decide (v8_16.2.2.1 < v8_16.2.2.2.1)) then
grd (decide (0 ≤ v8_16.2.1)) <|
grd (decide (v8_16.2.1 < (Nat.cast (v8_16.1) : Int))) <|
Option.bind (v8_16.2.2.2.2)[(0 + (Int.toNat v8_16.2.1))]? fun e21 =>
grd (decide (0 ≤ (IntKind.wrap .i64 (Int.fdiv (IntKind.wrap .u64 (IntKind.wrap .i64 (v8_16.2.2.1 + v8_16.2.2.2.1))) (2 ^ 1))))) <|
grd (decide ((IntKind.wrap .i64 (Int.fdiv (IntKind.wrap .u64 (IntKind.wrap .i64 (v8_16.2.2.1 + v8_16.2.2.2.1))) (2 ^ 1))) < (Nat.cast (v8_16.1) : Int))) <|
Option.bind (v8_16.2.2.2.2)[(0 + (Int.toNat (IntKind.wrap .i64 (Int.fdiv (IntKind.wrap .u64 (IntKind.wrap .i64 (v8_16.2.2.1 + v8_16.2.2.2.1))) (2 ^ 1)))))]? fun e22 =>
R_f57 _ (fun u23 =>
(bif (!(decide (u23 < 0))) then
rec3 (v8_16.1, v8_16.2.1, (IntKind.wrap .i64 ((IntKind.wrap .i64 (Int.fdiv (IntKind.wrap .u64 (IntKind.wrap .i64 (v8_16.2.2.1 + v8_16.2.2.2.1))) (2 ^ 1))) + 1)), v8_16.2.2.2.1, v8_16.2.2.2.2)
else
rec3 (v8_16.1, v8_16.2.1, v8_16.2.2.1, (IntKind.wrap .i64 (Int.fdiv (IntKind.wrap .u64 (IntKind.wrap .i64 (v8_16.2.2.1 + v8_16.2.2.2.1))) (2 ^ 1))), v8_16.2.2.2.2))) (e21) (e22)
else
loop4 (v8_16.1, v8_16.2.2.1, v8_16.2.1, v8_16.2.2.2.2))
def f64_L3 {X : Type} (R_f57 : f57_R) (R_f65 : f65_R) (R_f64 : f64_R) (k : Nat) (K : (List CV) → Option X)  (rec3 : Nat × Int × Int × Int × (List CV) → Option X) (v : Nat × Int × Int × Int × (List CV)) : Option X := f64_T3 R_f57 R_f65 R_f64 k K  (iterV (f64_L4 R_f57 R_f65 R_f64 k K ) k) rec3 v
set_option maxRecDepth 100000 in
theorem f64_L3_ev {X : Type} (R_f57 : f57_R) (R_f65 : f65_R) (R_f64 : f64_R) (hR_f57 : AnsOk Try.prog 57 (f57_cOf R_f57)) (hR_f65 : AnsOk Try.prog 65 (f65_cOf R_f65)) (hR_f64 : AnsOk Try.prog 64 (f64_cOf R_f64)) (k : Nat) (K : Out → Option X)  (r3 : St → Option X) (v : Nat × Int × Int × Int × (List CV)) : loopB (f64_cx R_f57 R_f65 R_f64 hR_f57 hR_f65 hR_f64) k [.r, .l, .r, .t, .r, .r, .l, .b] (Try.f64.body.getD .skip) (retK (f64_cx R_f57 R_f65 R_f64 hR_f57 hR_f65 hR_f64) [] Try.f64.results.toList K) [] r3 (f64_S3 v) = f64_T3 R_f57 R_f65 R_f64 k (fun u => K (f64_out u))  (fun v => iter (loopB (f64_cx R_f57 R_f65 R_f64 hR_f57 hR_f65 hR_f64) k [.r, .l, .r, .t, .r, .r, .r, .l, .r, .b] (Try.f64.body.getD .skip) (retK (f64_cx R_f57 R_f65 R_f64 hR_f57 hR_f65 hR_f64) [] Try.f64.results.toList K) []) k (f64_S4 v)) (fun v => r3 (f64_S3 v)) v := by kernel_rfl
theorem f64_L3_it {X : Type} (R_f57 : f57_R) (R_f65 : f65_R) (R_f64 : f64_R) (hR_f57 : AnsOk Try.prog 57 (f57_cOf R_f57)) (hR_f65 : AnsOk Try.prog 65 (f65_cOf R_f65)) (hR_f64 : AnsOk Try.prog 64 (f64_cOf R_f64)) (k : Nat) (K : Out → Option X)  : (fun v => iter (loopB (f64_cx R_f57 R_f65 R_f64 hR_f57 hR_f65 hR_f64) k [.r, .l, .r, .t, .r, .r, .l, .b] (Try.f64.body.getD .skip) (retK (f64_cx R_f57 R_f65 R_f64 hR_f57 hR_f65 hR_f64) [] Try.f64.results.toList K) []) k (f64_S3 v)) = iterV (f64_L3 R_f57 R_f65 R_f64 k (fun u => K (f64_out u)) ) k :=
  iter_map (fun r3 v => (f64_L3_ev R_f57 R_f65 R_f64 hR_f57 hR_f65 hR_f64 k K  r3 v).trans (by rw [f64_L4_it R_f57 R_f65 R_f64 hR_f57 hR_f65 hR_f64 k K ]; rfl)) k
def f64_T2 {X : Type} (R_f57 : f57_R) (R_f65 : f65_R) (R_f64 : f64_R) (k : Nat) (K : (List CV) → Option X)   (rec2 : Nat × Int × Int × (List CV) → Option X) (v9_7 : Nat × Int × Int × (List CV)) : Option X :=
(bif (decide (v9_7.2.2.1 < (IntKind.wrap .i64 (v9_7.2.1 - 1)))) then
grd (decide (0 ≤ (IntKind.wrap .i64 (v9_7.2.2.1 + 1)))) <|
grd (decide ((IntKind.wrap .i64 (v9_7.2.2.1 + 1)) < (Nat.cast (v9_7.1) : Int))) <|
Option.bind (v9_7.2.2.2)[(0 + (Int.toNat (IntKind.wrap .i64 (v9_7.2.2.1 + 1))))]? fun e15 =>
grd (decide (0 ≤ v9_7.2.2.1)) <|
grd (decide (v9_7.2.2.1 < (Nat.cast (v9_7.1) : Int))) <|
Option.bind (v9_7.2.2.2)[(0 + (Int.toNat v9_7.2.2.1))]? fun e16 =>
grd (decide (0 ≤ v9_7.2.2.1)) <|
grd (decide (v9_7.2.2.1 < (Nat.cast (v9_7.1) : Int))) <|
grd (Nat.beq (CV.ncells e15) 2 && CV.isAgg e15) <|
grd (decide ((0 + (Int.toNat v9_7.2.2.1)) < (List.length v9_7.2.2.2))) <|
grd (decide (0 ≤ (IntKind.wrap .i64 (v9_7.2.2.1 + 1)))) <|
grd (decide ((IntKind.wrap .i64 (v9_7.2.2.1 + 1)) < (Nat.cast (v9_7.1) : Int))) <|
grd (Nat.beq (CV.ncells e16) 2 && CV.isAgg e16) <|
grd (decide ((0 + (Int.toNat (IntKind.wrap .i64 (v9_7.2.2.1 + 1)))) < (List.length (List.set v9_7.2.2.2 (0 + (Int.toNat v9_7.2.2.1)) e15)))) <|
rec2 (v9_7.1, v9_7.2.1, (IntKind.wrap .i64 (v9_7.2.2.1 + 1)), (List.set (List.set v9_7.2.2.2 (0 + (Int.toNat v9_7.2.2.1)) e15) (0 + (Int.toNat (IntKind.wrap .i64 (v9_7.2.2.1 + 1)))) e16))
else
K (v9_7.2.2.2))
def f64_L2 {X : Type} (R_f57 : f57_R) (R_f65 : f65_R) (R_f64 : f64_R) (k : Nat) (K : (List CV) → Option X)  (rec2 : Nat × Int × Int × (List CV) → Option X) (v : Nat × Int × Int × (List CV)) : Option X := f64_T2 R_f57 R_f65 R_f64 k K   rec2 v
set_option maxRecDepth 100000 in
theorem f64_L2_ev {X : Type} (R_f57 : f57_R) (R_f65 : f65_R) (R_f64 : f64_R) (hR_f57 : AnsOk Try.prog 57 (f57_cOf R_f57)) (hR_f65 : AnsOk Try.prog 65 (f65_cOf R_f65)) (hR_f64 : AnsOk Try.prog 64 (f64_cOf R_f64)) (k : Nat) (K : Out → Option X)  (r2 : St → Option X) (v : Nat × Int × Int × (List CV)) : loopB (f64_cx R_f57 R_f65 R_f64 hR_f57 hR_f65 hR_f64) k [.l, .r, .t, .r, .r, .r, .l, .r, .b] (Try.f64.body.getD .skip) (retK (f64_cx R_f57 R_f65 R_f64 hR_f57 hR_f65 hR_f64) [] Try.f64.results.toList K) [] r2 (f64_S2 v) = f64_T2 R_f57 R_f65 R_f64 k (fun u => K (f64_out u))   (fun v => r2 (f64_S2 v)) v := by kernel_rfl
theorem f64_L2_it {X : Type} (R_f57 : f57_R) (R_f65 : f65_R) (R_f64 : f64_R) (hR_f57 : AnsOk Try.prog 57 (f57_cOf R_f57)) (hR_f65 : AnsOk Try.prog 65 (f65_cOf R_f65)) (hR_f64 : AnsOk Try.prog 64 (f64_cOf R_f64)) (k : Nat) (K : Out → Option X)  : (fun v => iter (loopB (f64_cx R_f57 R_f65 R_f64 hR_f57 hR_f65 hR_f64) k [.l, .r, .t, .r, .r, .r, .l, .r, .b] (Try.f64.body.getD .skip) (retK (f64_cx R_f57 R_f65 R_f64 hR_f57 hR_f65 hR_f64) [] Try.f64.results.toList K) []) k (f64_S2 v)) = iterV (f64_L2 R_f57 R_f65 R_f64 k (fun u => K (f64_out u)) ) k :=
  iter_map (fun r2 v => (f64_L2_ev R_f57 R_f65 R_f64 hR_f57 hR_f65 hR_f64 k K  r2 v).trans rfl) k
def f64_T1 {X : Type} (R_f57 : f57_R) (R_f65 : f65_R) (R_f64 : f64_R) (k : Nat) (K : (List CV) → Option X)  (loop2 : Nat × Int × Int × (List CV) → Option X) (rec1 : Nat × Int × Int × Int × (List CV) → Option X) (v7_0 : Nat × Int × Int × Int × (List CV)) : Option X :=
(bif (decide (v7_0.2.2.1 < v7_0.2.2.2.1)) then
grd (decide (0 ≤ (IntKind.wrap .i64 (Int.fdiv (IntKind.wrap .u64 (IntKind.wrap .i64 (v7_0.2.2.1 + v7_0.2.2.2.1))) (2 ^ 1))))) <|
grd (decide ((IntKind.wrap .i64 (Int.fdiv (IntKind.wrap .u64 (IntKind.wrap .i64 (v7_0.2.2.1 + v7_0.2.2.2.1))) (2 ^ 1))) < (Nat.cast (v7_0.1) : Int))) <|
Option.bind (v7_0.2.2.2.2)[(0 + (Int.toNat (IntKind.wrap .i64 (Int.fdiv (IntKind.wrap .u64 (IntKind.wrap .i64 (v7_0.2.2.1 + v7_0.2.2.2.1))) (2 ^ 1)))))]? fun e5 =>
grd (decide (0 ≤ v7_0.2.1)) <|
grd (decide (v7_0.2.1 < (Nat.cast (v7_0.1) : Int))) <|
Option.bind (v7_0.2.2.2.2)[(0 + (Int.toNat v7_0.2.1))]? fun e6 =>
R_f57 _ (fun u7 =>
(bif (decide (u7 < 0)) then
rec1 (v7_0.1, v7_0.2.1, (IntKind.wrap .i64 ((IntKind.wrap .i64 (Int.fdiv (IntKind.wrap .u64 (IntKind.wrap .i64 (v7_0.2.2.1 + v7_0.2.2.2.1))) (2 ^ 1))) + 1)), v7_0.2.2.2.1, v7_0.2.2.2.2)
else
rec1 (v7_0.1, v7_0.2.1, v7_0.2.2.1, (IntKind.wrap .i64 (Int.fdiv (IntKind.wrap .u64 (IntKind.wrap .i64 (v7_0.2.2.1 + v7_0.2.2.2.1))) (2 ^ 1))), v7_0.2.2.2.2))) (e5) (e6)
else
loop2 (v7_0.1, v7_0.2.2.1, v7_0.2.1, v7_0.2.2.2.2))
def f64_L1 {X : Type} (R_f57 : f57_R) (R_f65 : f65_R) (R_f64 : f64_R) (k : Nat) (K : (List CV) → Option X)  (rec1 : Nat × Int × Int × Int × (List CV) → Option X) (v : Nat × Int × Int × Int × (List CV)) : Option X := f64_T1 R_f57 R_f65 R_f64 k K  (iterV (f64_L2 R_f57 R_f65 R_f64 k K ) k) rec1 v
set_option maxRecDepth 100000 in
theorem f64_L1_ev {X : Type} (R_f57 : f57_R) (R_f65 : f65_R) (R_f64 : f64_R) (hR_f57 : AnsOk Try.prog 57 (f57_cOf R_f57)) (hR_f65 : AnsOk Try.prog 65 (f65_cOf R_f65)) (hR_f64 : AnsOk Try.prog 64 (f64_cOf R_f64)) (k : Nat) (K : Out → Option X)  (r1 : St → Option X) (v : Nat × Int × Int × Int × (List CV)) : loopB (f64_cx R_f57 R_f65 R_f64 hR_f57 hR_f65 hR_f64) k [.l, .r, .t, .r, .r, .l, .b] (Try.f64.body.getD .skip) (retK (f64_cx R_f57 R_f65 R_f64 hR_f57 hR_f65 hR_f64) [] Try.f64.results.toList K) [] r1 (f64_S1 v) = f64_T1 R_f57 R_f65 R_f64 k (fun u => K (f64_out u))  (fun v => iter (loopB (f64_cx R_f57 R_f65 R_f64 hR_f57 hR_f65 hR_f64) k [.l, .r, .t, .r, .r, .r, .l, .r, .b] (Try.f64.body.getD .skip) (retK (f64_cx R_f57 R_f65 R_f64 hR_f57 hR_f65 hR_f64) [] Try.f64.results.toList K) []) k (f64_S2 v)) (fun v => r1 (f64_S1 v)) v := by kernel_rfl
theorem f64_L1_it {X : Type} (R_f57 : f57_R) (R_f65 : f65_R) (R_f64 : f64_R) (hR_f57 : AnsOk Try.prog 57 (f57_cOf R_f57)) (hR_f65 : AnsOk Try.prog 65 (f65_cOf R_f65)) (hR_f64 : AnsOk Try.prog 64 (f64_cOf R_f64)) (k : Nat) (K : Out → Option X)  : (fun v => iter (loopB (f64_cx R_f57 R_f65 R_f64 hR_f57 hR_f65 hR_f64) k [.l, .r, .t, .r, .r, .l, .b] (Try.f64.body.getD .skip) (retK (f64_cx R_f57 R_f65 R_f64 hR_f57 hR_f65 hR_f64) [] Try.f64.results.toList K) []) k (f64_S1 v)) = iterV (f64_L1 R_f57 R_f65 R_f64 k (fun u => K (f64_out u)) ) k :=
  iter_map (fun r1 v => (f64_L1_ev R_f57 R_f65 R_f64 hR_f57 hR_f65 hR_f64 k K  r1 v).trans (by rw [f64_L2_it R_f57 R_f65 R_f64 hR_f57 hR_f65 hR_f64 k K ]; rfl)) k
def f64_T {X : Type} (R_f57 : f57_R) (R_f65 : f65_R) (R_f64 : f64_R) (k : Nat) (K : (List CV) → Option X) (loop1 : Nat × Int × Int × Int × (List CV) → Option X) (loop3 : Nat × Int × Int × Int × (List CV) → Option X) (loop5 : Nat × Int × Int × Int × Int × Int × Int × Int × Int × (List CV) → Option X) (x0 : Nat) (x1 : Int) (x2 : Int) (x3 : Int) (x4 : List CV) : Option X :=
(bif ((IntKind.wrap .i64 (x2 - x1)) == 1) then
loop1 (x0, x1, x2, x3, x4)
else
(bif ((IntKind.wrap .i64 (x3 - x2)) == 1) then
loop3 (x0, x2, x1, x2, x4)
else
(bif (decide (x2 > (IntKind.wrap .i64 (Int.fdiv (IntKind.wrap .u64 (IntKind.wrap .i64 (x1 + x3))) (2 ^ 1))))) then
f64_J3 R_f57 R_f65 R_f64 k K loop5 x0 x1 x2 x3 x4 ((IntKind.wrap .i64 (Int.fdiv (IntKind.wrap .u64 (IntKind.wrap .i64 (x1 + x3))) (2 ^ 1))), (IntKind.wrap .i64 ((IntKind.wrap .i64 (Int.fdiv (IntKind.wrap .u64 (IntKind.wrap .i64 (x1 + x3))) (2 ^ 1))) + x2)), (IntKind.wrap .i64 ((IntKind.wrap .i64 ((IntKind.wrap .i64 (Int.fdiv (IntKind.wrap .u64 (IntKind.wrap .i64 (x1 + x3))) (2 ^ 1))) + x2)) - x3)), (IntKind.wrap .i64 (Int.fdiv (IntKind.wrap .u64 (IntKind.wrap .i64 (x1 + x3))) (2 ^ 1))))
else
f64_J3 R_f57 R_f65 R_f64 k K loop5 x0 x1 x2 x3 x4 ((IntKind.wrap .i64 (Int.fdiv (IntKind.wrap .u64 (IntKind.wrap .i64 (x1 + x3))) (2 ^ 1))), (IntKind.wrap .i64 ((IntKind.wrap .i64 (Int.fdiv (IntKind.wrap .u64 (IntKind.wrap .i64 (x1 + x3))) (2 ^ 1))) + x2)), x1, x2))))
/-- "slices.symMergeCmpFunc[outpost/api.Opt]" -/
def f64_A (R_f57 : f57_R) (R_f65 : f65_R) (R_f64 : f64_R) (k : Nat) : f64_R := fun X K x0 x1 x2 x3 x4 => f64_T R_f57 R_f65 R_f64 k K (iterV (f64_L1 R_f57 R_f65 R_f64 k K) k) (iterV (f64_L3 R_f57 R_f65 R_f64 k K) k) (iterV (f64_L5 R_f57 R_f65 R_f64 k K) k) x0 x1 x2 x3 x4
set_option maxRecDepth 100000 in
theorem f64_ev' {X : Type} (R_f57 : f57_R) (R_f65 : f65_R) (R_f64 : f64_R) (hR_f57 : AnsOk Try.prog 57 (f57_cOf R_f57)) (hR_f65 : AnsOk Try.prog 65 (f65_cOf R_f65)) (hR_f64 : AnsOk Try.prog 64 (f64_cOf R_f64)) (k : Nat) (K : Out → Option X) (x0 : Nat) (x1 : Int) (x2 : Int) (x3 : Int) (x4 : List CV) : evFn (f64_cx R_f57 R_f65 R_f64 hR_f57 hR_f65 hR_f64) [] k Try.f64.ntmps Try.f64.results.toList (Try.f64.body.getD .skip) [(.osl [1000] (some 2) 0 x0), (.v (CV.int .i64 x1)), (.v (CV.int .i64 x2)), (.v (CV.int .i64 x3)), (.fn 57 [])] [([1000], (.row false (some 2) x4))] K = f64_T R_f57 R_f65 R_f64 k (fun u => K (f64_out u)) (fun v => iter (loopB (f64_cx R_f57 R_f65 R_f64 hR_f57 hR_f65 hR_f64) k [.l, .r, .t, .r, .r, .l, .b] (Try.f64.body.getD .skip) (retK (f64_cx R_f57 R_f65 R_f64 hR_f57 hR_f65 hR_f64) [] Try.f64.results.toList K) []) k (f64_S1 v)) (fun v => iter (loopB (f64_cx R_f57 R_f65 R_f64 hR_f57 hR_f65 hR_f64) k [.r, .l, .r, .t, .r, .r, .l, .b] (Try.f64.body.getD .skip) (retK (f64_cx R_f57 R_f65 R_f64 hR_f57 hR_f65 hR_f64) [] Try.f64.results.toList K) []) k (f64_S3 v)) (fun v => iter (loopB (f64_cx R_f57 R_f65 R_f64 hR_f57 hR_f65 hR_f64) k [.r, .r, .r, .r, .r, .r, .r, .l, .b] (Try.f64.body.getD .skip) (retK (f64_cx R_f57 R_f65 R_f64 hR_f57 hR_f65 hR_f64) [] Try.f64.results.toList K) []) k (f64_S5 v)) x0 x1 x2 x3 x4 := by kernel_rfl
theorem f64_ev {X : Type} (R_f57 : f57_R) (R_f65 : f65_R) (R_f64 : f64_R) (hR_f57 : AnsOk Try.prog 57 (f57_cOf R_f57)) (hR_f65 : AnsOk Try.prog 65 (f65_cOf R_f65)) (hR_f64 : AnsOk Try.prog 64 (f64_cOf R_f64)) (k : Nat) (K : Out → Option X) (x0 : Nat) (x1 : Int) (x2 : Int) (x3 : Int) (x4 : List CV) : evFn (f64_cx R_f57 R_f65 R_f64 hR_f57 hR_f65 hR_f64) [] k Try.f64.ntmps Try.f64.results.toList (Try.f64.body.getD .skip) [(.osl [1000] (some 2) 0 x0), (.v (CV.int .i64 x1)), (.v (CV.int .i64 x2)), (.v (CV.int .i64 x3)), (.fn 57 [])] [([1000], (.row false (some 2) x4))] K = f64_A R_f57 R_f65 R_f64 k X (fun u => K (f64_out u)) x0 x1 x2 x3 x4 := (f64_ev' R_f57 R_f65 R_f64 hR_f57 hR_f65 hR_f64 k K x0 x1 x2 x3 x4).trans (by rw [f64_L1_it R_f57 R_f65 R_f64 hR_f57 hR_f65 hR_f64 k K, f64_L3_it R_f57 R_f65 R_f64 hR_f57 hR_f65 hR_f64 k K, f64_L5_it R_f57 R_f65 R_f64 hR_f57 hR_f65 hR_f64 k K]; rfl)
theorem f64_okA (R_f57 : f57_R) (R_f65 : f65_R) (R_f64 : f64_R) (hR_f57 : AnsOk Try.prog 57 (f57_cOf R_f57)) (hR_f65 : AnsOk Try.prog 65 (f65_cOf R_f65)) (hR_f64 : AnsOk Try.prog 64 (f64_cOf R_f64)) (k : Nat) : AnsOk Try.prog 64 (f64_cOf (f64_A R_f57 R_f65 R_f64 k)) := by
  intro X xs ns K x h
  unfold f64_cOf at h ⊢
  split at h
  · exact ans_main S (f64_Cok R_f57 R_f65 R_f64 hR_f57 hR_f65 hR_f64) Try.func64 (ent_of Try.func64 (by kernel_rfl) rfl) rfl (fun X K => f64_ev R_f57 R_f65 R_f64 hR_f57 hR_f65 hR_f64 k K _ _ _ _ _) h
  · cases h
def f64_r : Nat → f64_R
  | 0 => fun _ _ _ _ _ _ _ => none
  | k + 1 => f64_A (fun X => @f57 X k) (fun X => @f65 X k) (f64_r k) k
theorem f64_okr : ∀ k, AnsOk Try.prog 64 (f64_cOf (f64_r k))
  | 0 => by
    intro X xs ns K x h
    unfold f64_cOf at h
    split at h <;> cases h
  | k + 1 => f64_okA (fun X => @f57 X k) (fun X => @f65 X k) (f64_r k) (f57_ok k) (f65_ok k) (f64_okr k) k
def f64 {X : Type} (k : Nat) (K : (List CV) → Option X) (x0 : Nat) (x1 : Int) (x2 : Int) (x3 : Int) (x4 : List CV) : Option X := f64_r k X K x0 x1 x2 x3 x4
theorem f64_ok (k : Nat) : AnsOk Try.prog 64 (f64_cOf (fun X => @f64 X k)) := f64_okr k
abbrev f61_R : Type 1 := (X : Type) → ((List CV) → Option X) → Nat → Int → (List CV) → Option X
def f61_out (u : (List CV)) : Out := ⟨(.tup []), [([1000], (.row false (some 2) u))]⟩
def f61_cOf (R : f61_R) : FnC := fun X xs ns K => match xs, ns with
  | [(.osl [1000] (some 2) 0 x0), (.v (CV.int .i64 x1)), (.fn 57 [])], [([1000], (.row false (some 2) x2))] => R X (fun u => K (f61_out u)) x0 x1 x2
  | _, _ => none
def f61_plan : Nat → Option (List Nat × List Wk)
  | 0 => some ([0, 1, 2], [])
  | 1 => some ([0, 1, 2, 6], [])
  | 2 => some ([0, 1, 2, 6, 7, 8], [])
  | 3 => some ([0, 1, 2, 6, 7, 8], [])
  | 4 => some ([0, 1, 2, 6, 8], [])
  | 5 => some ([0, 1, 2, 6, 7, 8], [])
  | 6 => some ([0, 1, 2, 6, 7], [])
  | 7 => some ([0, 1, 2, 6], [])
  | 8 => some ([0, 1, 2, 6], [])
  | 9 => some ([0, 1, 2, 6, 7, 8], [])
  | 10 => some ([0, 1, 2, 6, 7, 8], [])
  | 11 => some ([0, 1, 2, 6, 8], [])
  | 12 => some ([0, 1, 2, 6, 7, 8], [])
  | 13 => some ([0, 1, 2, 6, 7], [])
  | 14 => some ([0, 1, 2, 6, 7, 9], [])
  | 15 => some ([0, 1, 2, 6, 7, 9], [])
  | 16 => some ([0, 1, 2, 6], [])
  | _ => none
def f61_C (R_f63 : f63_R) (R_f64 : f64_R) : Fns := (orC 63 (f63_cOf R_f63) (orC 64 (f64_cOf R_f64) noC))
theorem f61_Cok (R_f63 : f63_R) (R_f64 : f64_R) (hR_f63 : AnsOk Try.prog 63 (f63_cOf R_f63)) (hR_f64 : AnsOk Try.prog 64 (f64_cOf R_f64)) : CsOk Try.prog (f61_C R_f63 R_f64) := (orC_ok hR_f63 (orC_ok hR_f64 noC_ok))
def f61_cx (R_f63 : f63_R) (R_f64 : f64_R) (hR_f63 : AnsOk Try.prog 63 (f63_cOf R_f63)) (hR_f64 : AnsOk Try.prog 64 (f64_cOf R_f64)) : Cx := mkCx (tabOf rows) (f61_C R_f63 R_f64) md (cmpIn cmps) f61_plan (f61_Cok R_f63 R_f64 hR_f63 hR_f64)
def f61_S1 (v : Nat × Int × Int × Int × (List CV)) : St := ⟨[(.osl [1000] (some 2) 0 v.1), (.v (CV.int .i64 v.2.1)), (.fn 57 []), .undef, .undef, .undef, (.v (CV.int .i64 20)), (.v (CV.int .i64 v.2.2.1)), (.v (CV.int .i64 v.2.2.2.1)), .undef, .undef, .undef, .undef, .undef, .undef, .undef, .undef, .undef, .undef, .undef, .undef, .undef, .undef, .undef, .undef, .undef, .undef, .undef, .undef, .undef, .undef, .undef, .undef, .undef, .undef, .undef, .undef, .undef, .undef, .undef, .undef, .undef, .undef, .undef, .undef, .undef, .undef, .undef, .undef, .undef, .undef, .undef, .undef, .undef, .undef, .undef, .undef, .undef, .undef, .undef, .undef, .undef, .undef], [([1000], (.row false (some 2) v.2.2.2.2))]⟩
def f61_S2 (v : Nat × Int × Int × (List CV)) : St := ⟨[(.osl [1000] (some 2) 0 v.1), (.v (CV.int .i64 v.2.1)), (.fn 57 []), .undef, .undef, .undef, (.v (CV.int .i64 v.2.2.1)), .undef, .undef, .undef, .undef, .undef, .undef, .undef, .undef, .undef, .undef, .undef, .undef, .undef, .undef, .undef, .undef, .undef, .undef, .undef, .undef, .undef, .undef, .undef, .undef, .undef, .undef, .undef, .undef, .undef, .undef, .undef, .undef, .undef, .undef, .undef, .undef, .undef, .undef, .undef, .undef, .undef, .undef, .undef, .undef, .undef, .undef, .undef, .undef, .undef, .undef, .undef, .undef, .undef, .undef, .undef, .undef], [([1000], (.row false (some 2) v.2.2.2))]⟩
def f61_S3 (v : Nat × Int × Int × Int × Int × (List CV)) : St := ⟨[(.osl [1000] (some 2) 0 v.1), (.v (CV.int .i64 v.2.1)), (.fn 57 []), .undef, .undef, .undef, (.v (CV.int .i64 v.2.2.1)), (.v (CV.int .i64 v.2.2.2.1)), (.v (CV.int .i64 v.2.2.2.2.1)), .undef, .undef, .undef, .undef, .undef, .undef, .undef, .undef, .undef, .undef, .undef, .undef, .undef, .undef, .undef, .undef, .undef, .undef, .undef, .undef, .undef, .undef, .undef, .undef, .undef, .undef, .undef, .undef, .undef, .undef, .undef, .undef, .undef, .undef, .undef, .undef, .undef, .undef, .undef, .undef, .undef, .undef, .undef, .undef, .undef, .undef, .undef, .undef, .undef, .undef, .undef, .undef, .undef, .undef], [([1000], (.row false (some 2) v.2.2.2.2.2))]⟩
def f61_J1 {X : Type} (R_f63 : f63_R) (R_f64 : f64_R) (k : Nat) (K : (List CV) → Option X) (rec2 : Nat × Int × Int × (List CV) → Option X) (v11_10 : Nat × Int × Int × Int × Int × (List CV)) (v15 : (List CV)) : Option X :=
rec2 (v11_10.1, v11_10.2.1, (IntKind.wrap .i64 (v11_10.2.2.1 * 2)), v15)
def f61_T3 {X : Type} (R_f63 : f63_R) (R_f64 : f64_R) (k : Nat) (K : (List CV) → Option X) (rec2 : Nat × Int × Int × (List CV) → Option X)  (rec3 : Nat × Int × Int × Int × Int × (List CV) → Option X) (v11_10 : Nat × Int × Int × Int × Int × (List CV)) : Option X :=
(bif (decide (v11_10.2.2.2.2.1 ≤ v11_10.2.1)) then
R_f64 _ (fun u13 =>
rec3 (v11_10.1, v11_10.2.1, v11_10.2.2.1, v11_10.2.2.2.2.1, (IntKind.wrap .i64 (v11_10.2.2.2.2.1 + (IntKind.wrap .i64 (2 * v11_10.2.2.1)))), u13)) (v11_10.1) (v11_10.2.2.2.1) ((IntKind.wrap .i64 (v11_10.2.2.2.1 + v11_10.2.2.1))) (v11_10.2.2.2.2.1) (v11_10.2.2.2.2.2)
else
(bif (decide ((IntKind.wrap .i64 (v11_10.2.2.2.1 + v11_10.2.2.1)) < v11_10.2.1)) then
R_f64 _ (fun u16 =>
f61_J1 R_f63 R_f64 k K rec2 v11_10 (u16)) (v11_10.1) (v11_10.2.2.2.1) ((IntKind.wrap .i64 (v11_10.2.2.2.1 + v11_10.2.2.1))) (v11_10.2.1) (v11_10.2.2.2.2.2)
else
f61_J1 R_f63 R_f64 k K rec2 v11_10 (v11_10.2.2.2.2.2)))
def f61_L3 {X : Type} (R_f63 : f63_R) (R_f64 : f64_R) (k : Nat) (K : (List CV) → Option X) (rec2 : Nat × Int × Int × (List CV) → Option X) (rec3 : Nat × Int × Int × Int × Int × (List CV) → Option X) (v : Nat × Int × Int × Int × Int × (List CV)) : Option X := f61_T3 R_f63 R_f64 k K rec2  rec3 v
set_option maxRecDepth 100000 in
theorem f61_L3_ev {X : Type} (R_f63 : f63_R) (R_f64 : f64_R) (hR_f63 : AnsOk Try.prog 63 (f63_cOf R_f63)) (hR_f64 : AnsOk Try.prog 64 (f64_cOf R_f64)) (k : Nat) (K : Out → Option X) (r2 : St → Option X) (r3 : St → Option X) (v : Nat × Int × Int × Int × Int × (List CV)) : loopB (f61_cx R_f63 R_f64 hR_f63 hR_f64) k [.r, .r, .r, .r, .b, .o, .r, .b, .r, .l, .b] (Try.f61.body.getD .skip) (retK (f61_cx R_f63 R_f64 hR_f63 hR_f64) [] Try.f61.results.toList K) [r2] r3 (f61_S3 v) = f61_T3 R_f63 R_f64 k (fun u => K (f61_out u)) (fun v => r2 (f61_S2 v))  (fun v => r3 (f61_S3 v)) v := by kernel_rfl
theorem f61_L3_it {X : Type} (R_f63 : f63_R) (R_f64 : f64_R) (hR_f63 : AnsOk Try.prog 63 (f63_cOf R_f63)) (hR_f64 : AnsOk Try.prog 64 (f64_cOf R_f64)) (k : Nat) (K : Out → Option X) (r2 : St → Option X) : (fun v => iter (loopB (f61_cx R_f63 R_f64 hR_f63 hR_f64) k [.r, .r, .r, .r, .b, .o, .r, .b, .r, .l, .b] (Try.f61.body.getD .skip) (retK (f61_cx R_f63 R_f64 hR_f63 hR_f64) [] Try.f61.results.toList K) [r2]) k (f61_S3 v)) = iterV (f61_L3 R_f63 R_f64 k (fun u => K (f61_out u)) (fun v => r2 (f61_S2 v))) k :=
  iter_map (fun r3 v => (f61_L3_ev R_f63 R_f64 hR_f63 hR_f64 k K r2 r3 v).trans rfl) k
def f61_T2 {X : Type} (R_f63 : f63_R) (R_f64 : f64_R) (k : Nat) (K : (List CV) → Option X)  (loop3 : Nat × Int × Int × Int × Int × (List CV) → Option X) (rec2 : Nat × Int × Int × (List CV) → Option X) (v5_4 : Nat × Int × Int × (List CV)) : Option X :=
(bif (decide (v5_4.2.2.1 < v5_4.2.1)) then
loop3 (v5_4.1, v5_4.2.1, v5_4.2.2.1, 0, (IntKind.wrap .i64 (2 * v5_4.2.2.1)), v5_4.2.2.2)
else
K (v5_4.2.2.2))
def f61_L2 {X : Type} (R_f63 : f63_R) (R_f64 : f64_R) (k : Nat) (K : (List CV) → Option X)  (rec2 : Nat × Int × Int × (List CV) → Option X) (v : Nat × Int × Int × (List CV)) : Option X := f61_T2 R_f63 R_f64 k K  (iterV (f61_L3 R_f63 R_f64 k K rec2) k) rec2 v
set_option maxRecDepth 100000 in
theorem f61_L2_ev {X : Type} (R_f63 : f63_R) (R_f64 : f64_R) (hR_f63 : AnsOk Try.prog 63 (f63_cOf R_f63)) (hR_f64 : AnsOk Try.prog 64 (f64_cOf R_f64)) (k : Nat) (K : Out → Option X)  (r2 : St → Option X) (v : Nat × Int × Int × (List CV)) : loopB (f61_cx R_f63 R_f64 hR_f63 hR_f64) k [.r, .r, .r, .r, .b] (Try.f61.body.getD .skip) (retK (f61_cx R_f63 R_f64 hR_f63 hR_f64) [] Try.f61.results.toList K) [] r2 (f61_S2 v) = f61_T2 R_f63 R_f64 k (fun u => K (f61_out u))  (fun v => iter (loopB (f61_cx R_f63 R_f64 hR_f63 hR_f64) k [.r, .r, .r, .r, .b, .o, .r, .b, .r, .l, .b] (Try.f61.body.getD .skip) (retK (f61_cx R_f63 R_f64 hR_f63 hR_f64) [] Try.f61.results.toList K) [r2]) k (f61_S3 v)) (fun v => r2 (f61_S2 v)) v := by kernel_rfl
theorem f61_L2_it {X : Type} (R_f63 : f63_R) (R_f64 : f64_R) (hR_f63 : AnsOk Try.prog 63 (f63_cOf R_f63)) (hR_f64 : AnsOk Try.prog 64 (f64_cOf R_f64)) (k : Nat) (K : Out → Option X)  : (fun v => iter (loopB (f61_cx R_f63 R_f64 hR_f63 hR_f64) k [.r, .r, .r, .r, .b] (Try.f61.body.getD .skip) (retK (f61_cx R_f63 R_f64 hR_f63 hR_f64) [] Try.f61.results.toList K) []) k (f61_S2 v)) = iterV (f61_L2 R_f63 R_f64 k (fun u => K (f61_out u)) ) k :=
  iter_map (fun r2 v => (f61_L2_ev R_f63 R_f64 hR_f63 hR_f64 k K  r2 v).trans (by rw [f61_L3_it R_f63 R_f64 hR_f63 hR_f64 k K r2]; rfl)) k
def f61_T1 {X : Type} (R_f63 : f63_R) (R_f64 : f64_R) (k : Nat) (K : (List CV) → Option X)  (loop2 : Nat × Int × Int × (List CV) → Option X) (rec1 : Nat × Int × Int × Int × (List CV) → Option X) (v4_0 : Nat × Int × Int × Int × (List CV)) : Option X :=
(bif (decide (v4_0.2.2.2.1 ≤ v4_0.2.1)) then
R_f63 _ (fun u3 =>
rec1 (v4_0.1, v4_0.2.1, v4_0.2.2.2.1, (IntKind.wrap .i64 (v4_0.2.2.2.1 + 20)), u3)) (v4_0.1) (v4_0.2.2.1) (v4_0.2.2.2.1) (v4_0.2.2.2.2)
else
R_f63 _ (fun u4 =>
loop2 (v4_0.1, v4_0.2.1, 20, u4)) (v4_0.1) (v4_0.2.2.1) (v4_0.2.1) (v4_0.2.2.2.2))
def f61_L1 {X : Type} (R_f63 : f63_R) (R_f64 : f64_R) (k : Nat) (K : (List CV) → Option X)  (rec1 : Nat × Int × Int × Int × (List CV) → Option X) (v : Nat × Int × Int × Int × (List CV)) : Option X := f61_T1 R_f63 R_f64 k K  (iterV (f61_L2 R_f63 R_f64 k K ) k) rec1 v
set_option maxRecDepth 100000 in
theorem f61_L1_ev {X : Type} (R_f63 : f63_R) (R_f64 : f64_R) (hR_f63 : AnsOk Try.prog 63 (f63_cOf R_f63)) (hR_f64 : AnsOk Try.prog 64 (f64_cOf R_f64)) (k : Nat) (K : Out → Option X)  (r1 : St → Option X) (v : Nat × Int × Int × Int × (List CV)) : loopB (f61_cx R_f63 R_f64 hR_f63 hR_f64) k [.r, .r, .l, .b] (Try.f61.body.getD .skip) (retK (f61_cx R_f63 R_f64 hR_f63 hR_f64) [] Try.f61.results.toList K) [] r1 (f61_S1 v) = f61_T1 R_f63 R_f64 k (fun u => K (f61_out u))  (fun v => iter (loopB (f61_cx R_f63 R_f64 hR_f63 hR_f64) k [.r, .r, .r, .r, .b] (Try.f61.body.getD .skip) (retK (f61_cx R_f63 R_f64 hR_f63 hR_f64) [] Try.f61.results.toList K) []) k (f61_S2 v)) (fun v => r1 (f61_S1 v)) v := by kernel_rfl
theorem f61_L1_it {X : Type} (R_f63 : f63_R) (R_f64 : f64_R) (hR_f63 : AnsOk Try.prog 63 (f63_cOf R_f63)) (hR_f64 : AnsOk Try.prog 64 (f64_cOf R_f64)) (k : Nat) (K : Out → Option X)  : (fun v => iter (loopB (f61_cx R_f63 R_f64 hR_f63 hR_f64) k [.r, .r, .l, .b] (Try.f61.body.getD .skip) (retK (f61_cx R_f63 R_f64 hR_f63 hR_f64) [] Try.f61.results.toList K) []) k (f61_S1 v)) = iterV (f61_L1 R_f63 R_f64 k (fun u => K (f61_out u)) ) k :=
  iter_map (fun r1 v => (f61_L1_ev R_f63 R_f64 hR_f63 hR_f64 k K  r1 v).trans (by rw [f61_L2_it R_f63 R_f64 hR_f63 hR_f64 k K ]; rfl)) k
def f61_T {X : Type} (R_f63 : f63_R) (R_f64 : f64_R) (k : Nat) (K : (List CV) → Option X) (loop1 : Nat × Int × Int × Int × (List CV) → Option X) (x0 : Nat) (x1 : Int) (x2 : List CV) : Option X :=
loop1 (x0, x1, 0, 20, x2)
/-- "slices.stableCmpFunc[outpost/api.Opt]" -/
def f61_A (R_f63 : f63_R) (R_f64 : f64_R) (k : Nat) : f61_R := fun X K x0 x1 x2 => f61_T R_f63 R_f64 k K (iterV (f61_L1 R_f63 R_f64 k K) k) x0 x1 x2
set_option maxRecDepth 100000 in
theorem f61_ev' {X : Type} (R_f63 : f63_R) (R_f64 : f64_R) (hR_f63 : AnsOk Try.prog 63 (f63_cOf R_f63)) (hR_f64 : AnsOk Try.prog 64 (f64_cOf R_f64)) (k : Nat) (K : Out → Option X) (x0 : Nat) (x1 : Int) (x2 : List CV) : evFn (f61_cx R_f63 R_f64 hR_f63 hR_f64) [] k Try.f61.ntmps Try.f61.results.toList (Try.f61.body.getD .skip) [(.osl [1000] (some 2) 0 x0), (.v (CV.int .i64 x1)), (.fn 57 [])] [([1000], (.row false (some 2) x2))] K = f61_T R_f63 R_f64 k (fun u => K (f61_out u)) (fun v => iter (loopB (f61_cx R_f63 R_f64 hR_f63 hR_f64) k [.r, .r, .l, .b] (Try.f61.body.getD .skip) (retK (f61_cx R_f63 R_f64 hR_f63 hR_f64) [] Try.f61.results.toList K) []) k (f61_S1 v)) x0 x1 x2 := by kernel_rfl
theorem f61_ev {X : Type} (R_f63 : f63_R) (R_f64 : f64_R) (hR_f63 : AnsOk Try.prog 63 (f63_cOf R_f63)) (hR_f64 : AnsOk Try.prog 64 (f64_cOf R_f64)) (k : Nat) (K : Out → Option X) (x0 : Nat) (x1 : Int) (x2 : List CV) : evFn (f61_cx R_f63 R_f64 hR_f63 hR_f64) [] k Try.f61.ntmps Try.f61.results.toList (Try.f61.body.getD .skip) [(.osl [1000] (some 2) 0 x0), (.v (CV.int .i64 x1)), (.fn 57 [])] [([1000], (.row false (some 2) x2))] K = f61_A R_f63 R_f64 k X (fun u => K (f61_out u)) x0 x1 x2 := (f61_ev' R_f63 R_f64 hR_f63 hR_f64 k K x0 x1 x2).trans (by rw [f61_L1_it R_f63 R_f64 hR_f63 hR_f64 k K]; rfl)
theorem f61_okA (R_f63 : f63_R) (R_f64 : f64_R) (hR_f63 : AnsOk Try.prog 63 (f63_cOf R_f63)) (hR_f64 : AnsOk Try.prog 64 (f64_cOf R_f64)) (k : Nat) : AnsOk Try.prog 61 (f61_cOf (f61_A R_f63 R_f64 k)) := by
  intro X xs ns K x h
  unfold f61_cOf at h ⊢
  split at h
  · exact ans_main S (f61_Cok R_f63 R_f64 hR_f63 hR_f64) Try.func61 (ent_of Try.func61 (by kernel_rfl) rfl) rfl (fun X K => f61_ev R_f63 R_f64 hR_f63 hR_f64 k K _ _ _) h
  · cases h
/-- "slices.stableCmpFunc[outpost/api.Opt]" -/
def f61 {X : Type} (k : Nat) (K : (List CV) → Option X) (x0 : Nat) (x1 : Int) (x2 : List CV) : Option X := f61_A (fun X => @f63 X k) (fun X => @f64 X k) k X K x0 x1 x2
theorem f61_ok (k : Nat) : AnsOk Try.prog 61 (f61_cOf (fun X => @f61 X k)) := f61_okA (fun X => @f63 X k) (fun X => @f64 X k) (f63_ok k) (f64_ok k) k
abbrev f56_R : Type 1 := (X : Type) → ((List CV) → Option X) → Nat → (List CV) → Option X
def f56_out (u : (List CV)) : Out := ⟨(.tup []), [([1000], (.row false (some 2) u))]⟩
def f56_cOf (R : f56_R) : FnC := fun X xs ns K => match xs, ns with
  | [(.osl [1000] (some 2) 0 x0), (.fn 57 [])], [([1000], (.row false (some 2) x1))] => R X (fun u => K (f56_out u)) x0 x1
  | _, _ => none
def f56_plan : Nat → Option (List Nat × List Wk)
  | 0 => some ([0, 1], [])
  | _ => none
def f56_C (R_f61 : f61_R) : Fns := (orC 61 (f61_cOf R_f61) noC)
theorem f56_Cok (R_f61 : f61_R) (hR_f61 : AnsOk Try.prog 61 (f61_cOf R_f61)) : CsOk Try.prog (f56_C R_f61) := (orC_ok hR_f61 noC_ok)
def f56_cx (R_f61 : f61_R) (hR_f61 : AnsOk Try.prog 61 (f61_cOf R_f61)) : Cx := mkCx (tabOf rows) (f56_C R_f61) md (cmpIn cmps) f56_plan (f56_Cok R_f61 hR_f61)
def f56_T {X : Type} (R_f61 : f61_R) (k : Nat) (K : (List CV) → Option X)  (x0 : Nat) (x1 : List CV) : Option X :=
R_f61 _ (fun u1 =>
K (u1)) (x0) ((Nat.cast (x0) : Int)) (x1)
/-- "slices.SortStableFunc[[]outpost/api.Opt,outpost/api.Opt]" -/
def f56_A (R_f61 : f61_R) (k : Nat) : f56_R := fun X K x0 x1 => f56_T R_f61 k K  x0 x1
set_option maxRecDepth 100000 in
theorem f56_ev' {X : Type} (R_f61 : f61_R) (hR_f61 : AnsOk Try.prog 61 (f61_cOf R_f61)) (k : Nat) (K : Out → Option X) (x0 : Nat) (x1 : List CV) : evFn (f56_cx R_f61 hR_f61) [] k Try.f56.ntmps Try.f56.results.toList (Try.f56.body.getD .skip) [(.osl [1000] (some 2) 0 x0), (.fn 57 [])] [([1000], (.row false (some 2) x1))] K = f56_T R_f61 k (fun u => K (f56_out u)) x0 x1 := by kernel_rfl
theorem f56_ev {X : Type} (R_f61 : f61_R) (hR_f61 : AnsOk Try.prog 61 (f61_cOf R_f61)) (k : Nat) (K : Out → Option X) (x0 : Nat) (x1 : List CV) : evFn (f56_cx R_f61 hR_f61) [] k Try.f56.ntmps Try.f56.results.toList (Try.f56.body.getD .skip) [(.osl [1000] (some 2) 0 x0), (.fn 57 [])] [([1000], (.row false (some 2) x1))] K = f56_A R_f61 k X (fun u => K (f56_out u)) x0 x1 := (f56_ev' R_f61 hR_f61 k K x0 x1).trans rfl
theorem f56_okA (R_f61 : f61_R) (hR_f61 : AnsOk Try.prog 61 (f61_cOf R_f61)) (k : Nat) : AnsOk Try.prog 56 (f56_cOf (f56_A R_f61 k)) := by
  intro X xs ns K x h
  unfold f56_cOf at h ⊢
  split at h
  · exact ans_main S (f56_Cok R_f61 hR_f61) Try.func56 (ent_of Try.func56 (by kernel_rfl) rfl) rfl (fun X K => f56_ev R_f61 hR_f61 k K _ _) h
  · cases h
/-- "slices.SortStableFunc[[]outpost/api.Opt,outpost/api.Opt]" -/
def f56 {X : Type} (k : Nat) (K : (List CV) → Option X) (x0 : Nat) (x1 : List CV) : Option X := f56_A (fun X => @f61 X k) k X K x0 x1
theorem f56_ok (k : Nat) : AnsOk Try.prog 56 (f56_cOf (fun X => @f56 X k)) := f56_okA (fun X => @f61 X k) (f61_ok k) k
abbrev f44_R : Type 1 := (X : Type) → (Nat × (List CV) → Option X) → (List CV) → Option X
def f44_out (u : Nat × (List CV)) : Out := ⟨(.osl [2000] (some 2) 0 u.1), [([2000], (.row false (some 2) u.2))]⟩
def f44_cOf (R : f44_R) : FnC := fun X xs ns K => match xs, ns with
  | [(.sl false (some 2) x0)], [] => R X (fun u => K (f44_out u)) x0
  | _, _ => none
def f44_plan : Nat → Option (List Nat × List Wk)
  | 0 => some ([0], [])
  | 1 => some ([0], [])
  | 2 => some ([3], [])
  | 3 => some ([3], [])
  | _ => none
def f44_C (R_f55 : f55_R) (R_f56 : f56_R) : Fns := (orC 55 (f55_cOf R_f55) (orC 56 (f56_cOf R_f56) noC))
theorem f44_Cok (R_f55 : f55_R) (R_f56 : f56_R) (hR_f55 : AnsOk Try.prog 55 (f55_cOf R_f55)) (hR_f56 : AnsOk Try.prog 56 (f56_cOf R_f56)) : CsOk Try.prog (f44_C R_f55 R_f56) := (orC_ok hR_f55 (orC_ok hR_f56 noC_ok))
def f44_cx (R_f55 : f55_R) (R_f56 : f56_R) (hR_f55 : AnsOk Try.prog 55 (f55_cOf R_f55)) (hR_f56 : AnsOk Try.prog 56 (f56_cOf R_f56)) : Cx := mkCx (tabOf rows) (f44_C R_f55 R_f56) md (cmpIn cmps) f44_plan (f44_Cok R_f55 R_f56 hR_f55 hR_f56)
def f44_T {X : Type} (R_f55 : f55_R) (R_f56 : f56_R) (k : Nat) (K : Nat × (List CV) → Option X)  (x0 : List CV) : Option X :=
R_f55 _ (fun u1 =>
R_f56 _ (fun u2 =>
K ((List.length u1), (List.take (0 + (List.length u1)) u2))) ((List.length u1)) (u1)) (x0)
/-- "outpost/opt.byNum" -/
def f44_A (R_f55 : f55_R) (R_f56 : f56_R) (k : Nat) : f44_R := fun X K x0 => f44_T R_f55 R_f56 k K  x0
set_option maxRecDepth 100000 in
theorem f44_ev' {X : Type} (R_f55 : f55_R) (R_f56 : f56_R) (hR_f55 : AnsOk Try.prog 55 (f55_cOf R_f55)) (hR_f56 : AnsOk Try.prog 56 (f56_cOf R_f56)) (k : Nat) (K : Out → Option X) (x0 : List CV) : evFn (f44_cx R_f55 R_f56 hR_f55 hR_f56) [] k Try.f44.ntmps Try.f44.results.toList (Try.f44.body.getD .skip) [(.sl false (some 2) x0)] [] K = f44_T R_f55 R_f56 k (fun u => K (f44_out u)) x0 := by kernel_rfl
theorem f44_ev {X : Type} (R_f55 : f55_R) (R_f56 : f56_R) (hR_f55 : AnsOk Try.prog 55 (f55_cOf R_f55)) (hR_f56 : AnsOk Try.prog 56 (f56_cOf R_f56)) (k : Nat) (K : Out → Option X) (x0 : List CV) : evFn (f44_cx R_f55 R_f56 hR_f55 hR_f56) [] k Try.f44.ntmps Try.f44.results.toList (Try.f44.body.getD .skip) [(.sl false (some 2) x0)] [] K = f44_A R_f55 R_f56 k X (fun u => K (f44_out u)) x0 := (f44_ev' R_f55 R_f56 hR_f55 hR_f56 k K x0).trans rfl
theorem f44_okA (R_f55 : f55_R) (R_f56 : f56_R) (hR_f55 : AnsOk Try.prog 55 (f55_cOf R_f55)) (hR_f56 : AnsOk Try.prog 56 (f56_cOf R_f56)) (k : Nat) : AnsOk Try.prog 44 (f44_cOf (f44_A R_f55 R_f56 k)) := by
  intro X xs ns K x h
  unfold f44_cOf at h ⊢
  split at h
  · exact ans_main S (f44_Cok R_f55 R_f56 hR_f55 hR_f56) Try.func44 (ent_of Try.func44 (by kernel_rfl) rfl) rfl (fun X K => f44_ev R_f55 R_f56 hR_f55 hR_f56 k K _) h
  · cases h
/-- "outpost/opt.byNum" -/
def f44 {X : Type} (k : Nat) (K : Nat × (List CV) → Option X) (x0 : List CV) : Option X := f44_A (fun X => @f55 X k) (fun X => @f56 X k) k X K x0
theorem f44_ok (k : Nat) : AnsOk Try.prog 44 (f44_cOf (fun X => @f44 X k)) := f44_okA (fun X => @f55 X k) (fun X => @f56 X k) (f55_ok k) (f56_ok k) k
abbrev f45_R : Type 1 := (X : Type) → (Int × Nat × (List CV) → Option X) → Int → Option X
def f45_out (u : Int × Nat × (List CV)) : Out := ⟨(.tup [(.v (CV.int .i64 u.1)), (.osl [1, 2000] none 0 u.2.1)]), [([1, 2000], (.row false none u.2.2))]⟩
def f45_cOf (R : f45_R) : FnC := fun X xs ns K => match xs, ns with
  | [(.v (CV.int .i64 x0))], [] => R X (fun u => K (f45_out u)) x0
  | _, _ => none
def f45_plan : Nat → Option (List Nat × List Wk)
  | 0 => some ([0], [])
  | 1 => some ([0], [])
  | 2 => some ([0], [])
  | 3 => some ([0], [])
  | 4 => some ([0], [])
  | 5 => some ([0], [])
  | 6 => some ([0], [])
  | _ => none
def f45_C : Fns := noC
theorem f45_Cok : CsOk Try.prog (f45_C) := noC_ok
def f45_cx : Cx := mkCx (tabOf rows) (f45_C) md (cmpIn cmps) f45_plan (f45_Cok)
def f45_T {X : Type} (k : Nat) (K : Int × Nat × (List CV) → Option X)  (x0 : Int) : Option X :=
(bif (decide (x0 < 13)) then
K (x0, 0, (List.take 0 []))
else
(bif (decide (x0 < 269)) then
K (13, 1, (List.take 1 [(CV.int .u8 (IntKind.wrap .u8 (IntKind.wrap .i64 (x0 - 13))))]))
else
K (14, 2, (List.take 2 [(CV.int .u8 (IntKind.wrap .u8 (Int.fdiv (IntKind.wrap .i64 (x0 - 269)) (2 ^ 8)))), (CV.int .u8 (IntKind.wrap .u8 (IntKind.wrap .i64 (x0 - 269))))]))))
/-- "outpost/opt.nibble" -/
def f45_A (k : Nat) : f45_R := fun X K x0 => f45_T k K  x0
set_option maxRecDepth 100000 in
theorem f45_ev' {X : Type} (k : Nat) (K : Out → Option X) (x0 : Int) : evFn (f45_cx) [⟨0, [1], some [1, 2000]⟩] k Try.f45.ntmps Try.f45.results.toList (Try.f45.body.getD .skip) [(.v (CV.int .i64 x0))] [] K = f45_T k (fun u => K (f45_out u)) x0 := by kernel_rfl
theorem f45_ev {X : Type} (k : Nat) (K : Out → Option X) (x0 : Int) : evFn (f45_cx) [⟨0, [1], some [1, 2000]⟩] k Try.f45.ntmps Try.f45.results.toList (Try.f45.body.getD .skip) [(.v (CV.int .i64 x0))] [] K = f45_A k X (fun u => K (f45_out u)) x0 := (f45_ev' k K x0).trans rfl
theorem f45_okA (k : Nat) : AnsOk Try.prog 45 (f45_cOf (f45_A k)) := by
  intro X xs ns K x h
  unfold f45_cOf at h ⊢
  split at h
  · exact ans_main S (f45_Cok) Try.func45 (ent_of Try.func45 (by kernel_rfl) rfl) rfl (fun X K => f45_ev k K _) h
  · cases h
/-- "outpost/opt.nibble" -/
def f45 {X : Type} (k : Nat) (K : Int × Nat × (List CV) → Option X) (x0 : Int) : Option X := f45_A k X K x0
theorem f45_ok (k : Nat) : AnsOk Try.prog 45 (f45_cOf (fun X => @f45 X k)) := f45_okA k
abbrev f24_R : Type 1 := (X : Type) → (Nat × Int × (List CV) → Option X) → (List CV) → Option X
def f24_out (u : Nat × Int × (List CV)) : Out := ⟨(.tup [(.osl [0, 2000] none 0 u.1), (.v (CV.int .i64 u.2.1))]), [([0, 2000], (.row false none u.2.2))]⟩
def f24_cOf (R : f24_R) : FnC := fun X xs ns K => match xs, ns with
  | [(.sl true (some 2) x0)], [] => R X (fun u => K (f24_out u)) x0
  | _, _ => none
def f24_plan : Nat → Option (List Nat × List Wk)
  | 0 => some ([0], [])
  | 1 => some ([0], [])
  | 2 => some ([0, 4], [])
  | 3 => some ([4], [])
  | 4 => some ([0], [])
  | 5 => some ([0, 5], [])
  | 6 => some ([0, 5, 6], [])
  | 7 => some ([5, 6, 19, 20, 21], [⟨5, [], some [5]⟩])
  | 8 => some ([5, 6, 19, 20, 21], [])
  | 9 => some ([5, 6, 8, 19, 20, 21], [])
  | 10 => some ([5, 8, 9, 10, 19, 20, 21], [])
  | 11 => some ([5, 8, 9, 10, 11, 12, 19, 20, 21], [])
  | 12 => some ([5, 8, 10, 12, 19, 20, 21], [])
  | 13 => some ([5, 8, 12, 19, 20, 21], [])
  | 14 => some ([5, 8, 19, 20, 21], [])
  | 15 => some ([5, 8, 19, 20, 21], [])
  | 16 => some ([5, 6, 19, 20, 21], [])
  | 17 => some ([5], [])
  | _ => none
def f24_C (R_f43 : f43_R) (R_f44 : f44_R) (R_f45 : f45_R) : Fns := (orC 43 (f43_cOf R_f43) (orC 44 (f44_cOf R_f44) (orC 45 (f45_cOf R_f45) noC)))
theorem f24_Cok (R_f43 : f43_R) (R_f44 : f44_R) (R_f45 : f45_R) (hR_f43 : AnsOk Try.prog 43 (f43_cOf R_f43)) (hR_f44 : AnsOk Try.prog 44 (f44_cOf R_f44)) (hR_f45 : AnsOk Try.prog 45 (f45_cOf R_f45)) : CsOk Try.prog (f24_C R_f43 R_f44 R_f45) := (orC_ok hR_f43 (orC_ok hR_f44 (orC_ok hR_f45 noC_ok)))
def f24_cx (R_f43 : f43_R) (R_f44 : f44_R) (R_f45 : f45_R) (hR_f43 : AnsOk Try.prog 43 (f43_cOf R_f43)) (hR_f44 : AnsOk Try.prog 44 (f44_cOf R_f44)) (hR_f45 : AnsOk Try.prog 45 (f45_cOf R_f45)) : Cx := mkCx (tabOf rows) (f24_C R_f43 R_f44 R_f45) md (cmpIn cmps) f24_plan (f24_Cok R_f43 R_f44 R_f45 hR_f43 hR_f44 hR_f45)
def f24_S1 (v : Nat × Int × Nat × Int × Int × (List CV) × (List CV)) : St := ⟨[.undef, .undef, .undef, .undef, .undef, (.osl [5] none 0 v.1), (.v (CV.int .i64 v.2.1)), .undef, .undef, .undef, .undef, .undef, .undef, .undef, .undef, .undef, .undef, .undef, .undef, (.osl [19] (some 2) 0 v.2.2.1), (.v (CV.int .i64 v.2.2.2.1)), (.v (CV.int .i64 v.2.2.2.2.1)), .undef, .undef, .undef, .undef, .undef, .undef, .undef, .undef, .undef, .undef, .undef, .undef, .undef, .undef, .undef, .undef, .undef, .undef, .undef, .undef, .undef, .undef, .undef, .undef, .undef, .undef, .undef, .undef, .undef, .undef, .undef, .undef, .undef, .undef, .undef, .undef, .undef, .undef, .undef, .undef], [([5], (.row false none v.2.2.2.2.2.1)), ([19], (.row false (some 2) v.2.2.2.2.2.2))]⟩
def f24_T1 {X : Type} (R_f43 : f43_R) (R_f44 : f44_R) (R_f45 : f45_R) (k : Nat) (K : Nat × Int × (List CV) → Option X)   (rec1 : Nat × Int × Nat × Int × Int × (List CV) × (List CV) → Option X) (v7_3 : Nat × Int × Nat × Int × Int × (List CV) × (List CV)) : Option X :=
(bif (decide (v7_3.2.2.2.2.1 < v7_3.2.2.2.1)) then
grd (decide (0 ≤ v7_3.2.2.2.2.1)) <|
grd (decide (v7_3.2.2.2.2.1 < (Nat.cast (v7_3.2.2.1) : Int))) <|
Option.bind (v7_3.2.2.2.2.2.2)[(0 + (Int.toNat v7_3.2.2.2.2.1))]? fun e14 =>
grd (CV.isA 2 e14) <|
grd (CV.isI .i64 (CV.cellD 0 e14)) <|
grd (CV.isL none (CV.cellD 1 e14)) <|
R_f45 _ (fun u15 =>
R_f45 _ (fun u16 =>
grd (decide ((v7_3.1 + (List.length (List.take 1 (List.drop 0 [(CV.int .u8 (IntKind.wrap .u8 (bop .or .i64 (IntKind.wrap .i64 (u15.1 * 2 ^ 4)) u16.1)))])))) * 1 ≤ 140737488355328)) <|
grd (decide (((v7_3.1 + (List.length (List.take 1 (List.drop 0 [(CV.int .u8 (IntKind.wrap .u8 (bop .or .i64 (IntKind.wrap .i64 (u15.1 * 2 ^ 4)) u16.1)))])))) + (List.length (List.take u15.2.1 (List.drop 0 u15.2.2)))) * 1 ≤ 140737488355328)) <|
grd (decide ((((v7_3.1 + (List.length (List.take 1 (List.drop 0 [(CV.int .u8 (IntKind.wrap .u8 (bop .or .i64 (IntKind.wrap .i64 (u15.1 * 2 ^ 4)) u16.1)))])))) + (List.length (List.take u15.2.1 (List.drop 0 u15.2.2)))) + (List.length (List.take u16.2.1 (List.drop 0 u16.2.2)))) * 1 ≤ 140737488355328)) <|
grd (decide (((((v7_3.1 + (List.length (List.take 1 (List.drop 0 [(CV.int .u8 (IntKind.wrap .u8 (bop .or .i64 (IntKind.wrap .i64 (u15.1 * 2 ^ 4)) u16.1)))])))) + (List.length (List.take u15.2.1 (List.drop 0 u15.2.2)))) + (List.length (List.take u16.2.1 (List.drop 0 u16.2.2)))) + (List.length (CV.toL (CV.cellD 1 e14)))) * 1 ≤ 140737488355328)) <|
rec1 (((((v7_3.1 + (List.length (List.take 1 (List.drop 0 [(CV.int .u8 (IntKind.wrap .u8 (bop .or .i64 (IntKind.wrap .i64 (u15.1 * 2 ^ 4)) u16.1)))])))) + (List.length (List.take u15.2.1 (List.drop 0 u15.2.2)))) + (List.length (List.take u16.2.1 (List.drop 0 u16.2.2)))) + (List.length (CV.toL (CV.cellD 1 e14)))), (CV.toI (CV.cellD 0 e14)), v7_3.2.2.1, v7_3.2.2.2.1, (IntKind.wrap .i64 (v7_3.2.2.2.2.1 + 1)), ((List.take (((v7_3.1 + (List.length (List.take 1 (List.drop 0 [(CV.int .u8 (IntKind.wrap .u8 (bop .or .i64 (IntKind.wrap .i64 (u15.1 * 2 ^ 4)) u16.1)))])))) + (List.length (List.take u15.2.1 (List.drop 0 u15.2.2)))) + (List.length (List.take u16.2.1 (List.drop 0 u16.2.2)))) ((List.take ((v7_3.1 + (List.length (List.take 1 (List.drop 0 [(CV.int .u8 (IntKind.wrap .u8 (bop .or .i64 (IntKind.wrap .i64 (u15.1 * 2 ^ 4)) u16.1)))])))) + (List.length (List.take u15.2.1 (List.drop 0 u15.2.2)))) ((List.take (v7_3.1 + (List.length (List.take 1 (List.drop 0 [(CV.int .u8 (IntKind.wrap .u8 (bop .or .i64 (IntKind.wrap .i64 (u15.1 * 2 ^ 4)) u16.1)))])))) ((List.take v7_3.1 v7_3.2.2.2.2.2.1) ++ (List.take 1 (List.drop 0 [(CV.int .u8 (IntKind.wrap .u8 (bop .or .i64 (IntKind.wrap .i64 (u15.1 * 2 ^ 4)) u16.1)))])))) ++ (List.take u15.2.1 (List.drop 0 u15.2.2)))) ++ (List.take u16.2.1 (List.drop 0 u16.2.2)))) ++ (CV.toL (CV.cellD 1 e14))), v7_3.2.2.2.2.2.2)) ((Nat.cast ((List.length (CV.toL (CV.cellD 1 e14)))) : Int))) ((IntKind.wrap .i64 ((CV.toI (CV.cellD 0 e14)) - v7_3.2.1)))
else
K (v7_3.1, 0, (List.take (0 + v7_3.1) v7_3.2.2.2.2.2.1)))
def f24_L1 {X : Type} (R_f43 : f43_R) (R_f44 : f44_R) (R_f45 : f45_R) (k : Nat) (K : Nat × Int × (List CV) → Option X)  (rec1 : Nat × Int × Nat × Int × Int × (List CV) × (List CV) → Option X) (v : Nat × Int × Nat × Int × Int × (List CV) × (List CV)) : Option X := f24_T1 R_f43 R_f44 R_f45 k K   rec1 v
set_option maxRecDepth 100000 in
theorem f24_L1_ev {X : Type} (R_f43 : f43_R) (R_f44 : f44_R) (R_f45 : f45_R) (hR_f43 : AnsOk Try.prog 43 (f43_cOf R_f43)) (hR_f44 : AnsOk Try.prog 44 (f44_cOf R_f44)) (hR_f45 : AnsOk Try.prog 45 (f45_cOf R_f45)) (k : Nat) (K : Out → Option X)  (r1 : St → Option X) (v : Nat × Int × Nat × Int × Int × (List CV) × (List CV)) : loopB (f24_cx R_f43 R_f44 R_f45 hR_f43 hR_f44 hR_f45) k [.r, .r, .r, .r, .l, .r, .b] (Try.f24.body.getD .skip) (retK (f24_cx R_f43 R_f44 R_f45 hR_f43 hR_f44 hR_f45) [⟨0, [0], some [0, 2000]⟩] Try.f24.results.toList K) [] r1 (f24_S1 v) = f24_T1 R_f43 R_f44 R_f45 k (fun u => K (f24_out u))   (fun v => r1 (f24_S1 v)) v := by kernel_rfl
theorem f24_L1_it {X : Type} (R_f43 : f43_R) (R_f44 : f44_R) (R_f45 : f45_R) (hR_f43 : AnsOk Try.prog 43 (f43_cOf R_f43)) (hR_f44 : AnsOk Try.prog 44 (f44_cOf R_f44)) (hR_f45 : AnsOk Try.prog 45 (f45_cOf R_f45)) (k : Nat) (K : Out → Option X)  : (fun v => iter (loopB (f24_cx R_f43 R_f44 R_f45 hR_f43 hR_f44 hR_f45) k [.r, .r, .r, .r, .l, .r, .b] (Try.f24.body.getD .skip) (retK (f24_cx R_f43 R_f44 R_f45 hR_f43 hR_f44 hR_f45) [⟨0, [0], some [0, 2000]⟩] Try.f24.results.toList K) []) k (f24_S1 v)) = iterV (f24_L1 R_f43 R_f44 R_f45 k (fun u => K (f24_out u)) ) k :=
  iter_map (fun r1 v => (f24_L1_ev R_f43 R_f44 R_f45 hR_f43 hR_f44 hR_f45 k K  r1 v).trans rfl) k
def f24_T {X : Type} (R_f43 : f43_R) (R_f44 : f44_R) (R_f45 : f45_R) (k : Nat) (K : Nat × Int × (List CV) → Option X) (loop1 : Nat × Int × Nat × Int × Int × (List CV) × (List CV) → Option X) (x0 : List CV) : Option X :=
R_f43 _ (fun u2 =>
(bif (u2 != 0) then
K (0, u2, (List.take 0 []))
else
R_f44 _ (fun u3 =>
loop1 (0, 0, u3.1, (Nat.cast (u3.1) : Int), 0, [], u3.2)) (x0))) (x0)
/-- "outpost/opt.Write" -/
def f24_A (R_f43 : f43_R) (R_f44 : f44_R) (R_f45 : f45_R) (k : Nat) : f24_R := fun X K x0 => f24_T R_f43 R_f44 R_f45 k K (iterV (f24_L1 R_f43 R_f44 R_f45 k K) k) x0
set_option maxRecDepth 100000 in
theorem f24_ev' {X : Type} (R_f43 : f43_R) (R_f44 : f44_R) (R_f45 : f45_R) (hR_f43 : AnsOk Try.prog 43 (f43_cOf R_f43)) (hR_f44 : AnsOk Try.prog 44 (f44_cOf R_f44)) (hR_f45 : AnsOk Try.prog 45 (f45_cOf R_f45)) (k : Nat) (K : Out → Option X) (x0 : List CV) : evFn (f24_cx R_f43 R_f44 R_f45 hR_f43 hR_f44 hR_f45) [⟨0, [0], some [0, 2000]⟩] k Try.f24.ntmps Try.f24.results.toList (Try.f24.body.getD .skip) [(.sl true (some 2) x0)] [] K = f24_T R_f43 R_f44 R_f45 k (fun u => K (f24_out u)) (fun v => iter (loopB (f24_cx R_f43 R_f44 R_f45 hR_f43 hR_f44 hR_f45) k [.r, .r, .r, .r, .l, .r, .b] (Try.f24.body.getD .skip) (retK (f24_cx R_f43 R_f44 R_f45 hR_f43 hR_f44 hR_f45) [⟨0, [0], some [0, 2000]⟩] Try.f24.results.toList K) []) k (f24_S1 v)) x0 := by kernel_rfl
theorem f24_ev {X : Type} (R_f43 : f43_R) (R_f44 : f44_R) (R_f45 : f45_R) (hR_f43 : AnsOk Try.prog 43 (f43_cOf R_f43)) (hR_f44 : AnsOk Try.prog 44 (f44_cOf R_f44)) (hR_f45 : AnsOk Try.prog 45 (f45_cOf R_f45)) (k : Nat) (K : Out → Option X) (x0 : List CV) : evFn (f24_cx R_f43 R_f44 R_f45 hR_f43 hR_f44 hR_f45) [⟨0, [0], some [0, 2000]⟩] k Try.f24.ntmps Try.f24.results.toList (Try.f24.body.getD .skip) [(.sl true (some 2) x0)] [] K = f24_A R_f43 R_f44 R_f45 k X (fun u => K (f24_out u)) x0 := (f24_ev' R_f43 R_f44 R_f45 hR_f43 hR_f44 hR_f45 k K x0).trans (by rw [f24_L1_it R_f43 R_f44 R_f45 hR_f43 hR_f44 hR_f45 k K]; rfl)
theorem f24_okA (R_f43 : f43_R) (R_f44 : f44_R) (R_f45 : f45_R) (hR_f43 : AnsOk Try.prog 43 (f43_cOf R_f43)) (hR_f44 : AnsOk Try.prog 44 (f44_cOf R_f44)) (hR_f45 : AnsOk Try.prog 45 (f45_cOf R_f45)) (k : Nat) : AnsOk Try.prog 24 (f24_cOf (f24_A R_f43 R_f44 R_f45 k)) := by
  intro X xs ns K x h
  unfold f24_cOf at h ⊢
  split at h
  · exact ans_main S (f24_Cok R_f43 R_f44 R_f45 hR_f43 hR_f44 hR_f45) Try.func24 (ent_of Try.func24 (by kernel_rfl) rfl) rfl (fun X K => f24_ev R_f43 R_f44 R_f45 hR_f43 hR_f44 hR_f45 k K _) h
  · cases h
/-- "outpost/opt.Write" -/
def f24 {X : Type} (k : Nat) (K : Nat × Int × (List CV) → Option X) (x0 : List CV) : Option X := f24_A (fun X => @f43 X k) (fun X => @f44 X k) (fun X => @f45 X k) k X K x0
theorem f24_ok (k : Nat) : AnsOk Try.prog 24 (f24_cOf (fun X => @f24 X k)) := f24_okA (fun X => @f43 X k) (fun X => @f44 X k) (fun X => @f45 X k) (f43_ok k) (f44_ok k) (f45_ok k) k
abbrev f46_R : Type 1 := (X : Type) → ((List CV) → Option X) → Int → Option X
def f46_out (u : (List CV)) : Out := ⟨(.osl [2000] none 0 0), [([2000], (.row false none u))]⟩
def f46_cOf (R : f46_R) : FnC := fun X xs ns K => match xs, ns with
  | [(.nil0 none), (.v (CV.int .i64 x0))], [] => R X (fun u => K (f46_out u)) x0
  | _, _ => none
def f46_plan : Nat → Option (List Nat × List Wk)
  | 0 => some ([0, 1], [])
  | 1 => some ([0, 1], [])
  | 2 => some ([0, 1], [])
  | 3 => some ([0, 1], [])
  | 4 => some ([0, 1], [])
  | 5 => some ([0, 1], [])
  | 6 => some ([0], [⟨0, [], some [0]⟩])
  | _ => none
def f46_C : Fns := noC
theorem f46_Cok : CsOk Try.prog (f46_C) := noC_ok
def f46_cx : Cx := mkCx (tabOf rows) (f46_C) md (cmpIn cmps) f46_plan (f46_Cok)
def f46_J1 {X : Type} (k : Nat) (K : (List CV) → Option X)  (v1 : (List CV)) : Option X :=
K ((List.take 0 v1))
def f46_T {X : Type} (k : Nat) (K : (List CV) → Option X)  (x0 : Int) : Option X :=
(bif (decide (x0 < 0)) then
none
else
(bif (decide ((IntKind.wrap .i64 (x0 - 0)) > 0)) then
grd (decide (0 ≤ (IntKind.wrap .i64 (x0 - 0)))) <|
grd (decide (((IntKind.wrap .i64 (x0 - 0)) * 1) ≤ 140737488355328)) <|
grd (decide (0 ≤ ((Nat.cast ((List.length (List.replicate (Int.toNat (IntKind.wrap .i64 (x0 - 0))) (CV.int .u8 0)))) : Int) - 0))) <|
f46_J1 k K ((List.replicate (Int.toNat (IntKind.wrap .i64 (x0 - 0))) (CV.int .u8 0)))
else
f46_J1 k K ([])))
/-- "slices.Grow[[]byte,byte]" -/
def f46_A (k : Nat) : f46_R := fun X K x0 => f46_T k K  x0
set_option maxRecDepth 100000 in
theorem f46_ev' {X : Type} (k : Nat) (K : Out → Option X) (x0 : Int) : evFn (f46_cx) [] k Try.f46.ntmps Try.f46.results.toList (Try.f46.body.getD .skip) [(.nil0 none), (.v (CV.int .i64 x0))] [] K = f46_T k (fun u => K (f46_out u)) x0 := by kernel_rfl
theorem f46_ev {X : Type} (k : Nat) (K : Out → Option X) (x0 : Int) : evFn (f46_cx) [] k Try.f46.ntmps Try.f46.results.toList (Try.f46.body.getD .skip) [(.nil0 none), (.v (CV.int .i64 x0))] [] K = f46_A k X (fun u => K (f46_out u)) x0 := (f46_ev' k K x0).trans rfl
theorem f46_okA (k : Nat) : AnsOk Try.prog 46 (f46_cOf (f46_A k)) := by
  intro X xs ns K x h
  unfold f46_cOf at h ⊢
  split at h
  · exact ans_main S (f46_Cok) Try.func46 (ent_of Try.func46 (by kernel_rfl) rfl) rfl (fun X K => f46_ev k K _) h
  · cases h
/-- "slices.Grow[[]byte,byte]" -/
def f46 {X : Type} (k : Nat) (K : (List CV) → Option X) (x0 : Int) : Option X := f46_A k X K x0
theorem f46_ok (k : Nat) : AnsOk Try.prog 46 (f46_cOf (fun X => @f46 X k)) := f46_okA k
abbrev f25_R : Type 1 := (X : Type) → (Nat × (List CV) → Option X) → (List CV) → Option X
def f25_out (u : Nat × (List CV)) : Out := ⟨(.osl [2000] none 0 u.1), [([2000], (.row false none u.2))]⟩
def f25_cOf (R : f25_R) : FnC := fun X xs ns K => match xs, ns with
  | [(.sl false none x0)], [] => R X (fun u => K (f25_out u)) x0
  | _, _ => none
def f25_plan : Nat → Option (List Nat × List Wk)
  | 0 => some ([0], [])
  | 1 => some ([0], [])
  | 2 => some ([0, 3], [])
  | 3 => some ([0, 3, 9, 10, 11], [])
  | 4 => some ([0, 3, 9, 10, 11], [])
  | 5 => some ([0, 3, 5, 9, 10, 11], [])
  | 6 => some ([0, 3, 9, 10, 11], [])
  | 7 => some ([0, 3, 9, 10, 11], [])
  | 8 => some ([0, 3, 9, 10, 11], [])
  | 9 => some ([0, 3], [])
  | 10 => some ([0, 6], [])
  | 11 => some ([6, 25, 26, 27], [])
  | 12 => some ([6, 25, 26, 27], [])
  | 13 => some ([6, 8, 25, 26, 27], [])
  | 14 => some ([6, 25, 26, 27], [])
  | 15 => some ([6], [])
  | _ => none
def f25_C (R_f46 : f46_R) : Fns := (orC 46 (f46_cOf R_f46) noC)
theorem f25_Cok (R_f46 : f46_R) (hR_f46 : AnsOk Try.prog 46 (f46_cOf R_f46)) : CsOk Try.prog (f25_C R_f46) := (orC_ok hR_f46 noC_ok)
def f25_cx (R_f46 : f46_R) (hR_f46 : AnsOk Try.prog 46 (f46_cOf R_f46)) : Cx := mkCx (tabOf rows) (f25_C R_f46) md (cmpIn cmps) f25_plan (f25_Cok R_f46 hR_f46)
def f25_S1 (v : (List CV) × Int × (List CV) × Int × Int) : St := ⟨[(.sl false none v.1), .undef, .undef, (.v (CV.int .i64 v.2.1)), .undef, .undef, .undef, .undef, .undef, (.sl false none v.2.2.1), (.v (CV.int .i64 v.2.2.2.1)), (.v (CV.int .i64 v.2.2.2.2)), .undef, .undef, .undef, .undef, .undef, .undef, .undef, .undef, .undef, .undef, .undef, .undef, .undef, .undef, .undef, .undef, .undef, .undef, .undef, .undef, .undef, .undef, .undef, .undef], []⟩
def f25_S2 (v : Nat × (List CV) × Int × Int × (List CV)) : St := ⟨[.undef, .undef, .undef, .undef, .undef, .undef, (.osl [6] none 0 v.1), .undef, .undef, .undef, .undef, .undef, .undef, .undef, .undef, .undef, .undef, .undef, .undef, .undef, .undef, .undef, .undef, .undef, .undef, (.sl false none v.2.1), (.v (CV.int .i64 v.2.2.1)), (.v (CV.int .i64 v.2.2.2.1)), .undef, .undef, .undef, .undef, .undef, .undef, .undef, .undef], [([6], (.row false none v.2.2.2.2))]⟩
def f25_T2 {X : Type} (R_f46 : f46_R) (k : Nat) (K : Nat × (List CV) → Option X)   (rec2 : Nat × (List CV) × Int × Int × (List CV) → Option X) (v7_6 : Nat × (List CV) × Int × Int × (List CV)) : Option X :=
(bif (decide (v7_6.2.2.2.1 < v7_6.2.2.1)) then
grd (decide (0 ≤ v7_6.2.2.2.1)) <|
Option.bind (v7_6.2.1)[(Int.toNat v7_6.2.2.2.1)]? fun e11 =>
grd (CV.isL none e11) <|
grd (decide ((v7_6.1 + (List.length (CV.toL e11))) * 1 ≤ 140737488355328)) <|
rec2 ((v7_6.1 + (List.length (CV.toL e11))), v7_6.2.1, v7_6.2.2.1, (IntKind.wrap .i64 (v7_6.2.2.2.1 + 1)), ((List.take v7_6.1 v7_6.2.2.2.2) ++ (CV.toL e11)))
else
K (v7_6.1, (List.take (0 + v7_6.1) v7_6.2.2.2.2)))
def f25_L2 {X : Type} (R_f46 : f46_R) (k : Nat) (K : Nat × (List CV) → Option X)  (rec2 : Nat × (List CV) × Int × Int × (List CV) → Option X) (v : Nat × (List CV) × Int × Int × (List CV)) : Option X := f25_T2 R_f46 k K   rec2 v
set_option maxRecDepth 100000 in
theorem f25_L2_ev {X : Type} (R_f46 : f46_R) (hR_f46 : AnsOk Try.prog 46 (f46_cOf R_f46)) (k : Nat) (K : Out → Option X)  (r2 : St → Option X) (v : Nat × (List CV) × Int × Int × (List CV)) : loopB (f25_cx R_f46 hR_f46) k [.r, .r, .r, .r, .l, .r, .b] (Try.f25.body.getD .skip) (retK (f25_cx R_f46 hR_f46) [] Try.f25.results.toList K) [] r2 (f25_S2 v) = f25_T2 R_f46 k (fun u => K (f25_out u))   (fun v => r2 (f25_S2 v)) v := by kernel_rfl
theorem f25_L2_it {X : Type} (R_f46 : f46_R) (hR_f46 : AnsOk Try.prog 46 (f46_cOf R_f46)) (k : Nat) (K : Out → Option X)  : (fun v => iter (loopB (f25_cx R_f46 hR_f46) k [.r, .r, .r, .r, .l, .r, .b] (Try.f25.body.getD .skip) (retK (f25_cx R_f46 hR_f46) [] Try.f25.results.toList K) []) k (f25_S2 v)) = iterV (f25_L2 R_f46 k (fun u => K (f25_out u)) ) k :=
  iter_map (fun r2 v => (f25_L2_ev R_f46 hR_f46 k K  r2 v).trans rfl) k
def f25_T1 {X : Type} (R_f46 : f46_R) (k : Nat) (K : Nat × (List CV) → Option X)  (loop2 : Nat × (List CV) × Int × Int × (List CV) → Option X) (rec1 : (List CV) × Int × (List CV) × Int × Int → Option X) (v5_0 : (List CV) × Int × (List CV) × Int × Int) : Option X :=
(bif (decide (v5_0.2.2.2.2 < v5_0.2.2.2.1)) then
grd (decide (0 ≤ v5_0.2.2.2.2)) <|
Option.bind (v5_0.2.2.1)[(Int.toNat v5_0.2.2.2.2)]? fun e5 =>
grd (CV.isL none e5) <|
(bif (decide ((IntKind.wrap .i64 (v5_0.2.1 + (Nat.cast ((List.length (CV.toL e5))) : Int))) < 0)) then
none
else
rec1 (v5_0.1, (IntKind.wrap .i64 (v5_0.2.1 + (Nat.cast ((List.length (CV.toL e5))) : Int))), v5_0.2.2.1, v5_0.2.2.2.1, (IntKind.wrap .i64 (v5_0.2.2.2.2 + 1))))
else
R_f46 _ (fun u6 =>
loop2 (0, v5_0.1, (Nat.cast ((List.length v5_0.1)) : Int), 0, u6)) (v5_0.2.1))
def f25_L1 {X : Type} (R_f46 : f46_R) (k : Nat) (K : Nat × (List CV) → Option X)  (rec1 : (List CV) × Int × (List CV) × Int × Int → Option X) (v : (List CV) × Int × (List CV) × Int × Int) : Option X := f25_T1 R_f46 k K  (iterV (f25_L2 R_f46 k K ) k) rec1 v
set_option maxRecDepth 100000 in
theorem f25_L1_ev {X : Type} (R_f46 : f46_R) (hR_f46 : AnsOk Try.prog 46 (f46_cOf R_f46)) (k : Nat) (K : Out → Option X)  (r1 : St → Option X) (v : (List CV) × Int × (List CV) × Int × Int) : loopB (f25_cx R_f46 hR_f46) k [.r, .r, .l, .r, .b] (Try.f25.body.getD .skip) (retK (f25_cx R_f46 hR_f46) [] Try.f25.results.toList K) [] r1 (f25_S1 v) = f25_T1 R_f46 k (fun u => K (f25_out u))  (fun v => iter (loopB (f25_cx R_f46 hR_f46) k [.r, .r, .r, .r, .l, .r, .b] (Try.f25.body.getD .skip) (retK (f25_cx R_f46 hR_f46) [] Try.f25.results.toList K) []) k (f25_S2 v)) (fun v => r1 (f25_S1 v)) v := by kernel_rfl
theorem f25_L1_it {X : Type} (R_f46 : f46_R) (hR_f46 : AnsOk Try.prog 46 (f46_cOf R_f46)) (k : Nat) (K : Out → Option X)  : (fun v => iter (loopB (f25_cx R_f46 hR_f46) k [.r, .r, .l, .r, .b] (Try.f25.body.getD .skip) (retK (f25_cx R_f46 hR_f46) [] Try.f25.results.toList K) []) k (f25_S1 v)) = iterV (f25_L1 R_f46 k (fun u => K (f25_out u)) ) k :=
  iter_map (fun r1 v => (f25_L1_ev R_f46 hR_f46 k K  r1 v).trans (by rw [f25_L2_it R_f46 hR_f46 k K ]; rfl)) k
def f25_T {X : Type} (R_f46 : f46_R) (k : Nat) (K : Nat × (List CV) → Option X) (loop1 : (List CV) × Int × (List CV) × Int × Int → Option X) (x0 : List CV) : Option X :=
loop1 (x0, 0, x0, (Nat.cast ((List.length x0)) : Int), 0)
/-- "slices.Concat[[]byte,byte]" -/
def f25_A (R_f46 : f46_R) (k : Nat) : f25_R := fun X K x0 => f25_T R_f46 k K (iterV (f25_L1 R_f46 k K) k) x0
set_option maxRecDepth 100000 in
theorem f25_ev' {X : Type} (R_f46 : f46_R) (hR_f46 : AnsOk Try.prog 46 (f46_cOf R_f46)) (k : Nat) (K : Out → Option X) (x0 : List CV) : evFn (f25_cx R_f46 hR_f46) [] k Try.f25.ntmps Try.f25.results.toList (Try.f25.body.getD .skip) [(.sl false none x0)] [] K = f25_T R_f46 k (fun u => K (f25_out u)) (fun v => iter (loopB (f25_cx R_f46 hR_f46) k [.r, .r, .l, .r, .b] (Try.f25.body.getD .skip) (retK (f25_cx R_f46 hR_f46) [] Try.f25.results.toList K) []) k (f25_S1 v)) x0 := by kernel_rfl
theorem f25_ev {X : Type} (R_f46 : f46_R) (hR_f46 : AnsOk Try.prog 46 (f46_cOf R_f46)) (k : Nat) (K : Out → Option X) (x0 : List CV) : evFn (f25_cx R_f46 hR_f46) [] k Try.f25.ntmps Try.f25.results.toList (Try.f25.body.getD .skip) [(.sl false none x0)] [] K = f25_A R_f46 k X (fun u => K (f25_out u)) x0 := (f25_ev' R_f46 hR_f46 k K x0).trans (by rw [f25_L1_it R_f46 hR_f46 k K]; rfl)
theorem f25_okA (R_f46 : f46_R) (hR_f46 : AnsOk Try.prog 46 (f46_cOf R_f46)) (k : Nat) : AnsOk Try.prog 25 (f25_cOf (f25_A R_f46 k)) := by
  intro X xs ns K x h
  unfold f25_cOf at h ⊢
  split at h
  · exact ans_main S (f25_Cok R_f46 hR_f46) Try.func25 (ent_of Try.func25 (by kernel_rfl) rfl) rfl (fun X K => f25_ev R_f46 hR_f46 k K _) h
  · cases h
/-- "slices.Concat[[]byte,byte]" -/
def f25 {X : Type} (k : Nat) (K : Nat × (List CV) → Option X) (x0 : List CV) : Option X := f25_A (fun X => @f46 X k) k X K x0
theorem f25_ok (k : Nat) : AnsOk Try.prog 25 (f25_cOf (fun X => @f25 X k)) := f25_okA (fun X => @f46 X k) (f46_ok k) k
abbrev f8_R : Type 1 := (X : Type) → (Nat × Int × (List CV) → Option X) → CV → Option X
def f8_out (u : Nat × Int × (List CV)) : Out := ⟨(.tup [(.osl [0, 2000] none 0 u.1), (.v (CV.int .i64 u.2.1))]), [([0, 2000], (.row false none u.2.2))]⟩
def f8_cOf (R : f8_R) : FnC := fun X xs ns K => match xs, ns with
  | [(.v x0)], [] => R X (fun u => K (f8_out u)) x0
  | _, _ => none
def f8_plan : Nat → Option (List Nat × List Wk)
  | 0 => some ([0], [])
  | 1 => some ([1], [])
  | 2 => some ([1], [])
  | 3 => some ([1], [])
  | 4 => some ([1], [])
  | 5 => some ([], [])
  | 6 => some ([1], [])
  | 7 => some ([1], [])
  | 8 => some ([], [])
  | 9 => some ([1], [])
  | 10 => some ([1, 4, 5], [])
  | 11 => some ([5], [])
  | 12 => some ([1, 4], [])
  | 13 => some ([1, 4, 6], [])
  | 14 => some ([1, 6], [])
  | 15 => some ([1, 6], [])
  | 16 => some ([1, 6], [])
  | 17 => some ([6], [])
  | _ => none
def f8_C (R_f22 : f22_R) (R_f23 : f23_R) (R_f24 : f24_R) (R_f25 : f25_R) : Fns := (orC 22 (f22_cOf R_f22) (orC 23 (f23_cOf R_f23) (orC 24 (f24_cOf R_f24) (orC 25 (f25_cOf R_f25) noC))))
theorem f8_Cok (R_f22 : f22_R) (R_f23 : f23_R) (R_f24 : f24_R) (R_f25 : f25_R) (hR_f22 : AnsOk Try.prog 22 (f22_cOf R_f22)) (hR_f23 : AnsOk Try.prog 23 (f23_cOf R_f23)) (hR_f24 : AnsOk Try.prog 24 (f24_cOf R_f24)) (hR_f25 : AnsOk Try.prog 25 (f25_cOf R_f25)) : CsOk Try.prog (f8_C R_f22 R_f23 R_f24 R_f25) := (orC_ok hR_f22 (orC_ok hR_f23 (orC_ok hR_f24 (orC_ok hR_f25 noC_ok))))
def f8_cx (R_f22 : f22_R) (R_f23 : f23_R) (R_f24 : f24_R) (R_f25 : f25_R) (hR_f22 : AnsOk Try.prog 22 (f22_cOf R_f22)) (hR_f23 : AnsOk Try.prog 23 (f23_cOf R_f23)) (hR_f24 : AnsOk Try.prog 24 (f24_cOf R_f24)) (hR_f25 : AnsOk Try.prog 25 (f25_cOf R_f25)) : Cx := mkCx (tabOf rows) (f8_C R_f22 R_f23 R_f24 R_f25) md (cmpIn cmps) f8_plan (f8_Cok R_f22 R_f23 R_f24 R_f25 hR_f22 hR_f23 hR_f24 hR_f25)
def f8_J1 {X : Type} (R_f22 : f22_R) (R_f23 : f23_R) (R_f24 : f24_R) (R_f25 : f25_R) (k : Nat) (K : Nat × Int × (List CV) → Option X)  (v11 : Nat × (List CV)) : Option X :=
K (v11.1, 0, (List.take (0 + v11.1) v11.2))
def f8_J2 {X : Type} (R_f22 : f22_R) (R_f23 : f23_R) (R_f24 : f24_R) (R_f25 : f25_R) (k : Nat) (K : Nat × Int × (List CV) → Option X) (x0 : CV) (v8 : Bool) : Option X :=
(bif v8 then
K (0, 2, (List.take 0 []))
else
R_f24 _ (fun u9 =>
(bif (u9.2.1 != 0) then
K (0, u9.2.1, (List.take 0 []))
else
R_f25 _ (fun u10 =>
(bif (decide ((Nat.cast ((List.length (CV.toL (CV.cellD 5 x0)))) : Int) > 0)) then
grd (decide ((u10.1 + (List.length (List.take 1 (List.drop 0 [(CV.int .u8 255)])))) * 1 ≤ 140737488355328)) <|
grd (decide (((u10.1 + (List.length (List.take 1 (List.drop 0 [(CV.int .u8 255)])))) + (List.length (CV.toL (CV.cellD 5 x0)))) * 1 ≤ 140737488355328)) <|
f8_J1 R_f22 R_f23 R_f24 R_f25 k K (((u10.1 + (List.length (List.take 1 (List.drop 0 [(CV.int .u8 255)])))) + (List.length (CV.toL (CV.cellD 5 x0)))), ((List.take (u10.1 + (List.length (List.take 1 (List.drop 0 [(CV.int .u8 255)])))) ((List.take u10.1 u10.2) ++ (List.take 1 (List.drop 0 [(CV.int .u8 255)])))) ++ (CV.toL (CV.cellD 5 x0))))
else
f8_J1 R_f22 R_f23 R_f24 R_f25 k K (u10.1, u10.2))) ((List.take 3 (List.drop 0 [(CV.slc none (List.take 4 (List.drop 0 [(CV.int .u8 (IntKind.wrap .u8 (bop .or .i64 (bop .or .i64 64 (IntKind.wrap .i64 ((CV.toI (CV.cellD 0 x0)) * 2 ^ 4))) (Nat.cast ((List.length (CV.toL (CV.cellD 3 x0)))) : Int)))), (CV.int .u8 (IntKind.wrap .u8 (CV.toI (CV.cellD 1 x0)))), (CV.int .u8 (IntKind.wrap .u8 (Int.fdiv (CV.toI (CV.cellD 2 x0)) (2 ^ 8)))), (CV.int .u8 (IntKind.wrap .u8 (CV.toI (CV.cellD 2 x0))))]))), (CV.slc none (CV.toL (CV.cellD 3 x0))), (CV.slc none (List.take u9.1 (List.drop 0 u9.2.2)))]))))) ((CV.toL (CV.cellD 4 x0))))
def f8_J3 {X : Type} (R_f22 : f22_R) (R_f23 : f23_R) (R_f24 : f24_R) (R_f25 : f25_R) (k : Nat) (K : Nat × Int × (List CV) → Option X) (x0 : CV) (v7 : Bool) : Option X :=
(bif v7 then
K (0, 1, (List.take 0 []))
else
(bif (decide ((Nat.cast ((List.length (CV.toL (CV.cellD 3 x0)))) : Int) > 8)) then
f8_J2 R_f22 R_f23 R_f24 R_f25 k K x0 ((decide ((Nat.cast ((List.length (CV.toL (CV.cellD 3 x0)))) : Int) > 8)))
else
f8_J2 R_f22 R_f23 R_f24 R_f25 k K x0 ((decide ((Nat.cast ((List.length (CV.toL (CV.cellD 5 x0)))) : Int) > 1200)))))
def f8_T {X : Type} (R_f22 : f22_R) (R_f23 : f23_R) (R_f24 : f24_R) (R_f25 : f25_R) (k : Nat) (K : Nat × Int × (List CV) → Option X)  (x0 : CV) : Option X :=
grd (CV.isA 6 x0) <|
grd (CV.isI .i64 (CV.cellD 0 x0)) <|
grd (CV.isI .i64 (CV.cellD 1 x0)) <|
grd (CV.isI .i64 (CV.cellD 2 x0)) <|
grd (CV.isL none (CV.cellD 3 x0)) <|
grd (CV.isL (some 2) (CV.cellD 4 x0)) <|
grd (CV.isL none (CV.cellD 5 x0)) <|
(bif (decide ((CV.toI (CV.cellD 0 x0)) < 0)) then
f8_J3 R_f22 R_f23 R_f24 R_f25 k K x0 (true)
else
(bif (decide ((CV.toI (CV.cellD 0 x0)) > 3)) then
f8_J3 R_f22 R_f23 R_f24 R_f25 k K x0 ((decide ((CV.toI (CV.cellD 0 x0)) > 3)))
else
(bif (decide ((CV.toI (CV.cellD 1 x0)) < 0)) then
f8_J3 R_f22 R_f23 R_f24 R_f25 k K x0 (true)
else
(bif (decide ((CV.toI (CV.cellD 1 x0)) > 255)) then
f8_J3 R_f22 R_f23 R_f24 R_f25 k K x0 (true)
else
R_f22 _ (fun u12 =>
(bif (!u12) then
f8_J3 R_f22 R_f23 R_f24 R_f25 k K x0 ((!u12))
else
(bif (decide ((CV.toI (CV.cellD 2 x0)) < 0)) then
f8_J3 R_f22 R_f23 R_f24 R_f25 k K x0 (true)
else
(bif (decide ((CV.toI (CV.cellD 2 x0)) > 65535)) then
f8_J3 R_f22 R_f23 R_f24 R_f25 k K x0 ((decide ((CV.toI (CV.cellD 2 x0)) > 65535)))
else
(bif ((CV.toI (CV.cellD 1 x0)) == 0) then
R_f23 _ (fun u13 =>
f8_J3 R_f22 R_f23 R_f24 R_f25 k K x0 ((!u13))) ((CV.agg [(CV.int .i64 (CV.toI (CV.cellD 0 x0))), (CV.int .i64 (CV.toI (CV.cellD 1 x0))), (CV.int .i64 (CV.toI (CV.cellD 2 x0))), (CV.slc none (CV.toL (CV.cellD 3 x0))), (CV.slc (some 2) (CV.toL (CV.cellD 4 x0))), (CV.slc none (CV.toL (CV.cellD 5 x0)))]))
else
f8_J3 R_f22 R_f23 R_f24 R_f25 k K x0 (false)))))) ((CV.toI (CV.cellD 1 x0)))))))
/-- "outpost/msg.Write" -/
def f8_A (R_f22 : f22_R) (R_f23 : f23_R) (R_f24 : f24_R) (R_f25 : f25_R) (k : Nat) : f8_R := fun X K x0 => f8_T R_f22 R_f23 R_f24 R_f25 k K  x0
set_option maxRecDepth 100000 in
theorem f8_ev' {X : Type} (R_f22 : f22_R) (R_f23 : f23_R) (R_f24 : f24_R) (R_f25 : f25_R) (hR_f22 : AnsOk Try.prog 22 (f22_cOf R_f22)) (hR_f23 : AnsOk Try.prog 23 (f23_cOf R_f23)) (hR_f24 : AnsOk Try.prog 24 (f24_cOf R_f24)) (hR_f25 : AnsOk Try.prog 25 (f25_cOf R_f25)) (k : Nat) (K : Out → Option X) (x0 : CV) : evFn (f8_cx R_f22 R_f23 R_f24 R_f25 hR_f22 hR_f23 hR_f24 hR_f25) [⟨0, [0], some [0, 2000]⟩] k Try.f8.ntmps Try.f8.results.toList (Try.f8.body.getD .skip) [(.v x0)] [] K = f8_T R_f22 R_f23 R_f24 R_f25 k (fun u => K (f8_out u)) x0 := by kernel_rfl
theorem f8_ev {X : Type} (R_f22 : f22_R) (R_f23 : f23_R) (R_f24 : f24_R) (R_f25 : f25_R) (hR_f22 : AnsOk Try.prog 22 (f22_cOf R_f22)) (hR_f23 : AnsOk Try.prog 23 (f23_cOf R_f23)) (hR_f24 : AnsOk Try.prog 24 (f24_cOf R_f24)) (hR_f25 : AnsOk Try.prog 25 (f25_cOf R_f25)) (k : Nat) (K : Out → Option X) (x0 : CV) : evFn (f8_cx R_f22 R_f23 R_f24 R_f25 hR_f22 hR_f23 hR_f24 hR_f25) [⟨0, [0], some [0, 2000]⟩] k Try.f8.ntmps Try.f8.results.toList (Try.f8.body.getD .skip) [(.v x0)] [] K = f8_A R_f22 R_f23 R_f24 R_f25 k X (fun u => K (f8_out u)) x0 := (f8_ev' R_f22 R_f23 R_f24 R_f25 hR_f22 hR_f23 hR_f24 hR_f25 k K x0).trans rfl
theorem f8_okA (R_f22 : f22_R) (R_f23 : f23_R) (R_f24 : f24_R) (R_f25 : f25_R) (hR_f22 : AnsOk Try.prog 22 (f22_cOf R_f22)) (hR_f23 : AnsOk Try.prog 23 (f23_cOf R_f23)) (hR_f24 : AnsOk Try.prog 24 (f24_cOf R_f24)) (hR_f25 : AnsOk Try.prog 25 (f25_cOf R_f25)) (k : Nat) : AnsOk Try.prog 8 (f8_cOf (f8_A R_f22 R_f23 R_f24 R_f25 k)) := by
  intro X xs ns K x h
  unfold f8_cOf at h ⊢
  split at h
  · exact ans_main S (f8_Cok R_f22 R_f23 R_f24 R_f25 hR_f22 hR_f23 hR_f24 hR_f25) Try.func8 (ent_of Try.func8 (by kernel_rfl) rfl) rfl (fun X K => f8_ev R_f22 R_f23 R_f24 R_f25 hR_f22 hR_f23 hR_f24 hR_f25 k K _) h
  · cases h
/-- "outpost/msg.Write" -/
def f8 {X : Type} (k : Nat) (K : Nat × Int × (List CV) → Option X) (x0 : CV) : Option X := f8_A (fun X => @f22 X k) (fun X => @f23 X k) (fun X => @f24 X k) (fun X => @f25 X k) k X K x0
theorem f8_ok (k : Nat) : AnsOk Try.prog 8 (f8_cOf (fun X => @f8 X k)) := f8_okA (fun X => @f22 X k) (fun X => @f23 X k) (fun X => @f24 X k) (fun X => @f25 X k) (f22_ok k) (f23_ok k) (f24_ok k) (f25_ok k) k
abbrev f32_R : Type 1 := (X : Type) → (Int × Int × Bool → Option X) → (List CV) → Option X
def f32_out (u : Int × Int × Bool) : Out := ⟨(.tup [(.v (CV.int .i64 u.1)), (.v (CV.int .i64 u.2.1)), (.v (CV.bool u.2.2))]), []⟩
def f32_cOf (R : f32_R) : FnC := fun X xs ns K => match xs, ns with
  | [(.sl false none x0)], [] => R X (fun u => K (f32_out u)) x0
  | _, _ => none
def f32_plan : Nat → Option (List Nat × List Wk)
  | 0 => some ([0], [])
  | 1 => some ([0], [])
  | 2 => some ([], [])
  | 3 => some ([0], [])
  | _ => none
def f32_C : Fns := noC
theorem f32_Cok : CsOk Try.prog (f32_C) := noC_ok
def f32_cx : Cx := mkCx (tabOf rows) (f32_C) md (cmpIn cmps) f32_plan (f32_Cok)
def f32_T {X : Type} (k : Nat) (K : Int × Int × Bool → Option X)  (x0 : List CV) : Option X :=
(bif (decide ((Nat.cast ((List.length x0)) : Int) < 4)) then
K (0, 0, false)
else
Option.bind (x0)[0]? fun e2 =>
grd (CV.isI .u8 e2) <|
(bif ((Int.fdiv (CV.toI e2) (2 ^ 6)) != 1) then
K (0, 0, false)
else
Option.bind (x0)[0]? fun e3 =>
grd (CV.isI .u8 e3) <|
Option.bind (x0)[2]? fun e4 =>
grd (CV.isI .u8 e4) <|
Option.bind (x0)[3]? fun e5 =>
grd (CV.isI .u8 e5) <|
K ((bop .and .i64 (IntKind.wrap .i64 (Int.fdiv (CV.toI e3) (2 ^ 4))) 3), (bop .or .i64 (IntKind.wrap .i64 ((IntKind.wrap .i64 (CV.toI e4)) * 2 ^ 8)) (IntKind.wrap .i64 (CV.toI e5))), true)))
/-- "outpost/msg.Sniff" -/
def f32_A (k : Nat) : f32_R := fun X K x0 => f32_T k K  x0
set_option maxRecDepth 100000 in
theorem f32_ev' {X : Type} (k : Nat) (K : Out → Option X) (x0 : List CV) : evFn (f32_cx) [] k Try.f32.ntmps Try.f32.results.toList (Try.f32.body.getD .skip) [(.sl false none x0)] [] K = f32_T k (fun u => K (f32_out u)) x0 := by kernel_rfl
theorem f32_ev {X : Type} (k : Nat) (K : Out → Option X) (x0 : List CV) : evFn (f32_cx) [] k Try.f32.ntmps Try.f32.results.toList (Try.f32.body.getD .skip) [(.sl false none x0)] [] K = f32_A k X (fun u => K (f32_out u)) x0 := (f32_ev' k K x0).trans rfl
theorem f32_okA (k : Nat) : AnsOk Try.prog 32 (f32_cOf (f32_A k)) := by
  intro X xs ns K x h
  unfold f32_cOf at h ⊢
  split at h
  · exact ans_main S (f32_Cok) Try.func32 (ent_of Try.func32 (by kernel_rfl) rfl) rfl (fun X K => f32_ev k K _) h
  · cases h
/-- "outpost/msg.Sniff" -/
def f32 {X : Type} (k : Nat) (K : Int × Int × Bool → Option X) (x0 : List CV) : Option X := f32_A k X K x0
theorem f32_ok (k : Nat) : AnsOk Try.prog 32 (f32_cOf (fun X => @f32 X k)) := f32_okA k
def f29_plan : Nat → Option (List Nat × List Wk)
  | 0 => some ([0], [])
  | 1 => some ([0], [])
  | 2 => some ([], [])
  | 3 => some ([0], [])
  | _ => none
def f29_cx : Cx := mkCx (tabOf rows) noC md (cmpIn cmps) f29_plan (noC_ok (P := Try.prog))
/-- "slices.Clone[[]byte,byte]" -/
def f29 {X : Type} (k : Nat) (K : List CV → Option X) (x0 : List CV) : Option X := grd (decide ((0 + List.length x0) * 1 ≤ 140737488355328)) (K x0)
def f29_out (u : List CV) : Out := ⟨.osl [2000] none 0 (List.length u), [([2000], .row false none u)]⟩
set_option maxRecDepth 100000 in
theorem f29_fn (x0 : List CV) (hl : (decide ((0 + List.length x0) * 1 ≤ 140737488355328)) = true) : FnOk Try.prog 29 [.sl false none x0] [] (f29_out x0) := by
  refine nilsplit (cx := f29_cx) (xs := x0) (p := false) (sh := none) (fuel := 1) (ws := [⟨0, [], some [2000]⟩]) (tabOf_tabOk S.hr) (tabOf_noOther S.hr) (CsOk.fns (noC_ok (P := Try.prog)) (cmpsAre_ok cmps_ok)) S.hm Try.func29 rfl rfl Try.underlying29 (s1 := ⟨[(.sl false none x0), .undef, (.nil0 none), .undef, .undef, .undef, .undef, .undef], []⟩) (s2 := ⟨[(.sl false none x0), .undef, .undef, .undef, .undef, .undef, .undef, .undef], []⟩) (s3 := ⟨[(.sl false none x0), .undef, .undef, (.sl false none x0), .undef, .undef, .undef, .undef], []⟩) ?_ ?_ ?_ rfl ?_ (fun h => ?_) ⟨rfl, rfl⟩
  · kernel_rfl
  · kernel_rfl
  · kernel_rfl
  · refine Eq.trans (b := grd (decide ((0 + List.length x0) * 1 ≤ 140737488355328)) (some ⟨.osl [2000] none 0 (0 + List.length x0), [([2000], .row false none (List.take (0 + (0 + List.length x0)) (List.take 0 [] ++ x0)))]⟩)) (by kernel_rfl) ?_
    rw [hl]
    simp [grd, f29_out]
  · subst h
    kernel_rfl
abbrev f29_R : Type 1 := (X : Type) → (List CV → Option X) → List CV → Option X
def f29_cOf (R : f29_R) : FnC := fun X xs ns K => match xs, ns with
  | [.sl false none x0], [] => R X (fun u => K (f29_out u)) x0
  | _, _ => none
theorem f29_ok (k : Nat) : AnsOk Try.prog 29 (f29_cOf (fun X => @f29 X k)) := by
  intro X xs ns K x h
  unfold f29_cOf at h ⊢
  split at h
  · next x0 =>
    obtain ⟨h1, h2⟩ := grd_some (show grd (decide ((0 + List.length x0) * 1 ≤ 140737488355328)) (K (f29_out x0)) = some x from h)
    exact ⟨trivial, _, (f29_fn x0 h1).toX (ent_of Try.func29 (by kernel_rfl) rfl), h2, fun Y K' => by show grd _ _ = _; rw [h1]; rfl⟩
  · cases h
abbrev f59_R : Type 1 := (X : Type) → (Int × Bool × (List CV) × Int → Option X) → Int → (List CV) → Int → Option X
def f59_out (u : Int × Bool × (List CV) × Int) : Out := ⟨(.tup [(.v (CV.int .i64 u.1)), (.v (CV.bool u.2.1))]), [([1000], (.obj [(.sl true none u.2.2.1), (.v (CV.int .i64 u.2.2.2))]))]⟩
def f59_cOf (R : f59_R) : FnC := fun X xs ns K => match xs, ns with
  | [(.ptr [1000] 0 0 0), (.v (CV.int .i64 x0))], [([1000], (.obj [(.sl true none x1), (.v (CV.int .i64 x2))]))] => R X (fun u => K (f59_out u)) x0 x1 x2
  | _, _ => none
def f59_plan : Nat → Option (List Nat × List Wk)
  | 0 => some ([0, 1], [])
  | 1 => some ([0, 1], [])
  | 2 => some ([0, 1, 6], [])
  | 3 => some ([0], [])
  | 4 => some ([], [])
  | 5 => some ([0], [])
  | 6 => some ([0], [])
  | 7 => some ([0, 1, 6], [])
  | 8 => some ([0], [])
  | 9 => some ([], [])
  | 10 => some ([0], [])
  | 11 => some ([0], [])
  | 12 => some ([1], [])
  | _ => none
def f59_C : Fns := noC
theorem f59_Cok : CsOk Try.prog (f59_C) := noC_ok
def f59_cx : Cx := mkCx (tabOf rows) (f59_C) md (cmpIn cmps) f59_plan (f59_Cok)
def f59_T {X : Type} (k : Nat) (K : Int × Bool × (List CV) × Int → Option X)  (x0 : Int) (x1 : List CV) (x2 : Int) : Option X :=
(bif (x0 == 13) then
(bif (decide ((IntKind.wrap .i64 (x2 + 1)) > (Nat.cast ((List.length x1)) : Int))) then
K (0, false, x1, x2)
else
grd (decide (0 ≤ (IntKind.wrap .i64 ((IntKind.wrap .i64 (x2 + 1)) - 1)))) <|
Option.bind (x1)[(Int.toNat (IntKind.wrap .i64 ((IntKind.wrap .i64 (x2 + 1)) - 1)))]? fun e4 =>
grd (CV.isI .u8 e4) <|
K ((IntKind.wrap .i64 (13 + (IntKind.wrap .i64 (CV.toI e4)))), true, x1, (IntKind.wrap .i64 (x2 + 1))))
else
(bif (x0 == 14) then
(bif (decide ((IntKind.wrap .i64 (x2 + 2)) > (Nat.cast ((List.length x1)) : Int))) then
K (0, false, x1, x2)
else
grd (decide (0 ≤ (IntKind.wrap .i64 ((IntKind.wrap .i64 (x2 + 2)) - 2)))) <|
Option.bind (x1)[(Int.toNat (IntKind.wrap .i64 ((IntKind.wrap .i64 (x2 + 2)) - 2)))]? fun e5 =>
grd (CV.isI .u8 e5) <|
grd (decide (0 ≤ (IntKind.wrap .i64 ((IntKind.wrap .i64 (x2 + 2)) - 1)))) <|
Option.bind (x1)[(Int.toNat (IntKind.wrap .i64 ((IntKind.wrap .i64 (x2 + 2)) - 1)))]? fun e6 =>
grd (CV.isI .u8 e6) <|
K ((IntKind.wrap .i64 ((IntKind.wrap .i64 (269 + (IntKind.wrap .i64 ((IntKind.wrap .i64 (CV.toI e5)) * 2 ^ 8)))) + (IntKind.wrap .i64 (CV.toI e6)))), true, x1, (IntKind.wrap .i64 (x2 + 2))))
else
K (x0, true, x1, x2)))
/-- "(*outpost/opt.reader).number" -/
def f59_A (k : Nat) : f59_R := fun X K x0 x1 x2 => f59_T k K  x0 x1 x2
set_option maxRecDepth 100000 in
theorem f59_ev' {X : Type} (k : Nat) (K : Out → Option X) (x0 : Int) (x1 : List CV) (x2 : Int) : evFn (f59_cx) [] k Try.f59.ntmps Try.f59.results.toList (Try.f59.body.getD .skip) [(.ptr [1000] 0 0 0), (.v (CV.int .i64 x0))] [([1000], (.obj [(.sl true none x1), (.v (CV.int .i64 x2))]))] K = f59_T k (fun u => K (f59_out u)) x0 x1 x2 := by kernel_rfl
theorem f59_ev {X : Type} (k : Nat) (K : Out → Option X) (x0 : Int) (x1 : List CV) (x2 : Int) : evFn (f59_cx) [] k Try.f59.ntmps Try.f59.results.toList (Try.f59.body.getD .skip) [(.ptr [1000] 0 0 0), (.v (CV.int .i64 x0))] [([1000], (.obj [(.sl true none x1), (.v (CV.int .i64 x2))]))] K = f59_A k X (fun u => K (f59_out u)) x0 x1 x2 := (f59_ev' k K x0 x1 x2).trans rfl
theorem f59_okA (k : Nat) : AnsOk Try.prog 59 (f59_cOf (f59_A k)) := by
  intro X xs ns K x h
  unfold f59_cOf at h ⊢
  split at h
  · exact ans_main S (f59_Cok) Try.func59 (ent_of Try.func59 (by kernel_rfl) rfl) rfl (fun X K => f59_ev k K _ _ _) h
  · cases h
/-- "(*outpost/opt.reader).number" -/
def f59 {X : Type} (k : Nat) (K : Int × Bool × (List CV) × Int → Option X) (x0 : Int) (x1 : List CV) (x2 : Int) : Option X := f59_A k X K x0 x1 x2
theorem f59_ok (k : Nat) : AnsOk Try.prog 59 (f59_cOf (fun X => @f59 X k)) := f59_okA k
abbrev f47_R : Type 1 := (X : Type) → (Int × Nat × Int × (List CV) × Int × (List CV) → Option X) → Int → Int → (List CV) → Int → Option X
def f47_out (u : Int × Nat × Int × (List CV) × Int × (List CV)) : Out := ⟨(.tup [(.agg [(.v (CV.int .i64 u.1)), (.osl [1, 0, 2000] none 0 u.2.1)]), (.v (CV.int .i64 u.2.2.1))]), [([1000], (.obj [(.sl true none u.2.2.2.1), (.v (CV.int .i64 u.2.2.2.2.1))])), ([1, 0, 2000], (.row false none u.2.2.2.2.2))]⟩
def f47_cOf (R : f47_R) : FnC := fun X xs ns K => match xs, ns with
  | [(.ptr [1000] 0 0 0), (.v (CV.int .i64 x0)), (.v (CV.int .i64 x1))], [([1000], (.obj [(.sl true none x2), (.v (CV.int .i64 x3))]))] => R X (fun u => K (f47_out u)) x0 x1 x2 x3
  | _, _ => none
def f47_plan : Nat → Option (List Nat × List Wk)
  | 0 => some ([0, 1, 2], [])
  | 1 => some ([0, 1, 2, 6], [])
  | 2 => some ([0, 1, 2, 6, 8], [])
  | 3 => some ([6], [])
  | 4 => some ([0, 1, 2, 6, 8], [])
  | 5 => some ([0, 1, 2, 6, 8], [])
  | 6 => some ([0, 1, 2, 6, 8, 9, 10], [])
  | 7 => some ([6], [])
  | 8 => some ([0, 1, 2, 6, 8, 9], [])
  | 9 => some ([0, 1, 2, 6, 9, 10, 11], [])
  | 10 => some ([6], [])
  | 11 => some ([0, 1, 2, 6, 9, 11], [])
  | 12 => some ([6], [])
  | 13 => some ([0, 1, 6, 9, 11], [])
  | 14 => some ([6], [])
  | 15 => some ([0, 1, 6, 9, 11], [])
  | 16 => some ([6], [])
  | 17 => some ([0, 1, 6, 9, 11], [])
  | 18 => some ([6], [])
  | 19 => some ([0, 1, 6, 9, 11], [])
  | 20 => some ([0, 6, 11, 12], [])
  | 21 => some ([6, 12], [])
  | _ => none
def f47_C (R_f59 : f59_R) (R_f29 : f29_R) : Fns := (orC 29 (f29_cOf R_f29) (orC 59 (f59_cOf R_f59) noC))
theorem f47_Cok (R_f59 : f59_R) (R_f29 : f29_R) (hR_f59 : AnsOk Try.prog 59 (f59_cOf R_f59)) (hR_f29 : AnsOk Try.prog 29 (f29_cOf R_f29)) : CsOk Try.prog (f47_C R_f59 R_f29) := (orC_ok hR_f29 (orC_ok hR_f59 noC_ok))
def f47_cx (R_f59 : f59_R) (R_f29 : f29_R) (hR_f59 : AnsOk Try.prog 59 (f59_cOf R_f59)) (hR_f29 : AnsOk Try.prog 29 (f29_cOf R_f29)) : Cx := mkCx (tabOf rows) (f47_C R_f59 R_f29) md (cmpIn cmps) f47_plan (f47_Cok R_f59 R_f29 hR_f59 hR_f29)
def f47_T {X : Type} (R_f59 : f59_R) (R_f29 : f29_R) (k : Nat) (K : Int × Nat × Int × (List CV) × Int × (List CV) → Option X)  (x0 : Int) (x1 : Int) (x2 : List CV) (x3 : Int) : Option X :=
grd (decide (0 ≤ x3)) <|
Option.bind (x2)[(Int.toNat x3)]? fun e1 =>
grd (CV.isI .u8 e1) <|
(bif ((Int.fdiv (IntKind.wrap .i64 (CV.toI e1)) (2 ^ 4)) == 15) then
K (0, 0, 20, x2, x3, (List.take 0 []))
else
(bif ((bop .and .i64 (IntKind.wrap .i64 (CV.toI e1)) 15) == 15) then
K (0, 0, 20, x2, x3, (List.take 0 []))
else
R_f59 _ (fun u2 =>
(bif (!u2.2.1) then
K (0, 0, 20, u2.2.2.1, u2.2.2.2, (List.take 0 []))
else
R_f59 _ (fun u3 =>
(bif (!u3.2.1) then
K (0, 0, 20, u3.2.2.1, u3.2.2.2, (List.take 0 []))
else
(bif (x1 == 24) then
K (0, 0, 3, u3.2.2.1, u3.2.2.2, (List.take 0 []))
else
(bif (decide ((IntKind.wrap .i64 (x0 + u2.1)) > 65535)) then
K (0, 0, 1, u3.2.2.1, u3.2.2.2, (List.take 0 []))
else
(bif (decide (u3.1 > 300)) then
K (0, 0, 2, u3.2.2.1, u3.2.2.2, (List.take 0 []))
else
(bif (decide (u3.1 > (IntKind.wrap .i64 ((Nat.cast ((List.length u3.2.2.1)) : Int) - u3.2.2.2)))) then
K (0, 0, 20, u3.2.2.1, u3.2.2.2, (List.take 0 []))
else
grd (decide (0 ≤ u3.2.2.2)) <|
grd (decide (u3.2.2.2 ≤ (IntKind.wrap .i64 (u3.2.2.2 + u3.1)))) <|
grd (decide ((IntKind.wrap .i64 (u3.2.2.2 + u3.1)) ≤ (Nat.cast ((List.length u3.2.2.1)) : Int))) <|
R_f29 _ (fun u4 =>
K ((IntKind.wrap .i64 (x0 + u2.1)), (List.length u4), 0, u3.2.2.1, (IntKind.wrap .i64 (u3.2.2.2 + u3.1)), (List.take (0 + (List.length u4)) u4))) ((List.take ((Int.toNat (IntKind.wrap .i64 (u3.2.2.2 + u3.1))) - (Int.toNat u3.2.2.2)) (List.drop (Int.toNat u3.2.2.2) u3.2.2.1))))))))) ((bop .and .i64 (IntKind.wrap .i64 (CV.toI e1)) 15)) (u2.2.2.1) (u2.2.2.2))) ((Int.fdiv (IntKind.wrap .i64 (CV.toI e1)) (2 ^ 4))) (x2) ((IntKind.wrap .i64 (x3 + 1)))))
/-- "(*outpost/opt.reader).option" -/
def f47_A (R_f59 : f59_R) (R_f29 : f29_R) (k : Nat) : f47_R := fun X K x0 x1 x2 x3 => f47_T R_f59 R_f29 k K  x0 x1 x2 x3
set_option maxRecDepth 100000 in
theorem f47_ev' {X : Type} (R_f59 : f59_R) (R_f29 : f29_R) (hR_f59 : AnsOk Try.prog 59 (f59_cOf R_f59)) (hR_f29 : AnsOk Try.prog 29 (f29_cOf R_f29)) (k : Nat) (K : Out → Option X) (x0 : Int) (x1 : Int) (x2 : List CV) (x3 : Int) : evFn (f47_cx R_f59 R_f29 hR_f59 hR_f29) [] k Try.f47.ntmps Try.f47.results.toList (Try.f47.body.getD .skip) [(.ptr [1000] 0 0 0), (.v (CV.int .i64 x0)), (.v (CV.int .i64 x1))] [([1000], (.obj [(.sl true none x2), (.v (CV.int .i64 x3))]))] K = f47_T R_f59 R_f29 k (fun u => K (f47_out u)) x0 x1 x2 x3 := by kernel_rfl
theorem f47_ev {X : Type} (R_f59 : f59_R) (R_f29 : f29_R) (hR_f59 : AnsOk Try.prog 59 (f59_cOf R_f59)) (hR_f29 : AnsOk Try.prog 29 (f29_cOf R_f29)) (k : Nat) (K : Out → Option X) (x0 : Int) (x1 : Int) (x2 : List CV) (x3 : Int) : evFn (f47_cx R_f59 R_f29 hR_f59 hR_f29) [] k Try.f47.ntmps Try.f47.results.toList (Try.f47.body.getD .skip) [(.ptr [1000] 0 0 0), (.v (CV.int .i64 x0)), (.v (CV.int .i64 x1))] [([1000], (.obj [(.sl true none x2), (.v (CV.int .i64 x3))]))] K = f47_A R_f59 R_f29 k X (fun u => K (f47_out u)) x0 x1 x2 x3 := (f47_ev' R_f59 R_f29 hR_f59 hR_f29 k K x0 x1 x2 x3).trans rfl
theorem f47_okA (R_f59 : f59_R) (R_f29 : f29_R) (hR_f59 : AnsOk Try.prog 59 (f59_cOf R_f59)) (hR_f29 : AnsOk Try.prog 29 (f29_cOf R_f29)) (k : Nat) : AnsOk Try.prog 47 (f47_cOf (f47_A R_f59 R_f29 k)) := by
  intro X xs ns K x h
  unfold f47_cOf at h ⊢
  split at h
  · exact ans_main S (f47_Cok R_f59 R_f29 hR_f59 hR_f29) Try.func47 (ent_of Try.func47 (by kernel_rfl) rfl) rfl (fun X K => f47_ev R_f59 R_f29 hR_f59 hR_f29 k K _ _ _ _) h
  · cases h
/-- "(*outpost/opt.reader).option" -/
def f47 {X : Type} (k : Nat) (K : Int × Nat × Int × (List CV) × Int × (List CV) → Option X) (x0 : Int) (x1 : Int) (x2 : List CV) (x3 : Int) : Option X := f47_A (fun X => @f59 X k) (fun X => @f29 X k) k X K x0 x1 x2 x3
theorem f47_ok (k : Nat) : AnsOk Try.prog 47 (f47_cOf (fun X => @f47 X k)) := f47_okA (fun X => @f59 X k) (fun X => @f29 X k) (f59_ok k) (f29_ok k) k
abbrev f33_R : Type 1 := (X : Type) → (Nat × Int × Int × (List CV) → Option X) → (List CV) → Option X
def f33_out (u : Nat × Int × Int × (List CV)) : Out := ⟨(.tup [(.osl [0, 2000] (some 2) 0 u.1), (.v (CV.int .i64 u.2.1)), (.v (CV.int .i64 u.2.2.1))]), [([0, 2000], (.row false (some 2) u.2.2.2))]⟩
def f33_cOf (R : f33_R) : FnC := fun X xs ns K => match xs, ns with
  | [(.sl true none x0)], [] => R X (fun u => K (f33_out u)) x0
  | _, _ => none
def f33_plan : Nat → Option (List Nat × List Wk)
  | 0 => some ([0], [])
  | 1 => some ([0], [])
  | 2 => some ([0, 5], [])
  | 3 => some ([0, 5, 6], [])
  | 4 => some ([0, 5, 6, 7], [⟨6, [], some [6]⟩])
  | 5 => some ([0, 5, 6, 7], [])
  | 6 => some ([0, 5, 6, 8, 9], [])
  | 7 => some ([9], [])
  | 8 => some ([0, 5, 6, 8], [])
  | 9 => some ([0, 5, 6, 8], [])
  | 10 => some ([5, 6], [])
  | _ => none
def f33_C (R_f47 : f47_R) : Fns := (orC 47 (f47_cOf R_f47) noC)
theorem f33_Cok (R_f47 : f47_R) (hR_f47 : AnsOk Try.prog 47 (f47_cOf R_f47)) : CsOk Try.prog (f33_C R_f47) := (orC_ok hR_f47 noC_ok)
def f33_cx (R_f47 : f47_R) (hR_f47 : AnsOk Try.prog 47 (f47_cOf R_f47)) : Cx := mkCx (tabOf rows) (f33_C R_f47) md (cmpIn cmps) f33_plan (f33_Cok R_f47 hR_f47)
def f33_S1 (v : (List CV) × Nat × Int × (List CV) × (List CV) × Int) : St := ⟨[(.sl true none v.1), .undef, .undef, .undef, .undef, (.ptr [12] 0 0 0), (.osl [6] (some 2) 0 v.2.1), (.v (CV.int .i64 v.2.2.1)), .undef, .undef, .undef, .undef, .undef, .undef, .undef, .undef, .undef, .undef, .undef, .undef, .undef, .undef, .undef, .undef, .undef, .undef, .undef, .undef, .undef, .undef, .undef, .undef, .undef, .undef, .undef, .undef, .undef, .undef, .undef, .undef, .undef, .undef, .undef, .undef, .undef, .undef, .undef, .undef, .undef, .undef, .undef, .undef], [([6], (.row false (some 2) v.2.2.2.1)), ([12], (.obj [(.sl true none v.2.2.2.2.1), (.v (CV.int .i64 v.2.2.2.2.2))]))]⟩
def f33_T1 {X : Type} (R_f47 : f47_R) (k : Nat) (K : Nat × Int × Int × (List CV) → Option X)   (rec1 : (List CV) × Nat × Int × (List CV) × (List CV) × Int → Option X) (v6_0 : (List CV) × Nat × Int × (List CV) × (List CV) × Int) : Option X :=
(bif (decide (v6_0.2.2.2.2.2 < (Nat.cast ((List.length v6_0.1)) : Int))) then
grd (decide (0 ≤ v6_0.2.2.2.2.2)) <|
Option.bind (v6_0.1)[(Int.toNat v6_0.2.2.2.2.2)]? fun e6 =>
grd (CV.isI .u8 e6) <|
(bif ((CV.toI e6) != 255) then
R_f47 _ (fun u7 =>
(bif (u7.2.2.1 != 0) then
K (0, 0, u7.2.2.1, (List.take 0 []))
else
grd (decide ((v6_0.2.1 + (List.length (List.take 1 (List.drop 0 [(CV.agg [(CV.int .i64 u7.1), (CV.slc none (List.take u7.2.1 (List.drop 0 u7.2.2.2.2.2)))])])))) * 32 ≤ 140737488355328)) <|
rec1 (v6_0.1, (v6_0.2.1 + (List.length (List.take 1 (List.drop 0 [(CV.agg [(CV.int .i64 u7.1), (CV.slc none (List.take u7.2.1 (List.drop 0 u7.2.2.2.2.2)))])])))), u7.1, ((List.take v6_0.2.1 v6_0.2.2.2.1) ++ (List.take 1 (List.drop 0 [(CV.agg [(CV.int .i64 u7.1), (CV.slc none (List.take u7.2.1 (List.drop 0 u7.2.2.2.2.2)))])]))), u7.2.2.2.1, u7.2.2.2.2.1))) (v6_0.2.2.1) ((Nat.cast (v6_0.2.1) : Int)) (v6_0.2.2.2.2.1) (v6_0.2.2.2.2.2)
else
K (v6_0.2.1, v6_0.2.2.2.2.2, 0, (List.take (0 + v6_0.2.1) v6_0.2.2.2.1)))
else
K (v6_0.2.1, v6_0.2.2.2.2.2, 0, (List.take (0 + v6_0.2.1) v6_0.2.2.2.1)))
def f33_L1 {X : Type} (R_f47 : f47_R) (k : Nat) (K : Nat × Int × Int × (List CV) → Option X)  (rec1 : (List CV) × Nat × Int × (List CV) × (List CV) × Int → Option X) (v : (List CV) × Nat × Int × (List CV) × (List CV) × Int) : Option X := f33_T1 R_f47 k K   rec1 v
set_option maxRecDepth 100000 in
theorem f33_L1_ev {X : Type} (R_f47 : f47_R) (hR_f47 : AnsOk Try.prog 47 (f47_cOf R_f47)) (k : Nat) (K : Out → Option X)  (r1 : St → Option X) (v : (List CV) × Nat × Int × (List CV) × (List CV) × Int) : loopB (f33_cx R_f47 hR_f47) k [.r, .r, .r, .r, .l, .b] (Try.f33.body.getD .skip) (retK (f33_cx R_f47 hR_f47) [⟨0, [0], some [0, 2000]⟩] Try.f33.results.toList K) [] r1 (f33_S1 v) = f33_T1 R_f47 k (fun u => K (f33_out u))   (fun v => r1 (f33_S1 v)) v := by kernel_rfl
theorem f33_L1_it {X : Type} (R_f47 : f47_R) (hR_f47 : AnsOk Try.prog 47 (f47_cOf R_f47)) (k : Nat) (K : Out → Option X)  : (fun v => iter (loopB (f33_cx R_f47 hR_f47) k [.r, .r, .r, .r, .l, .b] (Try.f33.body.getD .skip) (retK (f33_cx R_f47 hR_f47) [⟨0, [0], some [0, 2000]⟩] Try.f33.results.toList K) []) k (f33_S1 v)) = iterV (f33_L1 R_f47 k (fun u => K (f33_out u)) ) k :=
  iter_map (fun r1 v => (f33_L1_ev R_f47 hR_f47 k K  r1 v).trans rfl) k
def f33_T {X : Type} (R_f47 : f47_R) (k : Nat) (K : Nat × Int × Int × (List CV) → Option X) (loop1 : (List CV) × Nat × Int × (List CV) × (List CV) × Int → Option X) (x0 : List CV) : Option X :=
loop1 (x0, 0, 0, [], x0, 0)
/-- "outpost/opt.Read" -/
def f33_A (R_f47 : f47_R) (k : Nat) : f33_R := fun X K x0 => f33_T R_f47 k K (iterV (f33_L1 R_f47 k K) k) x0
set_option maxRecDepth 100000 in
theorem f33_ev' {X : Type} (R_f47 : f47_R) (hR_f47 : AnsOk Try.prog 47 (f47_cOf R_f47)) (k : Nat) (K : Out → Option X) (x0 : List CV) : evFn (f33_cx R_f47 hR_f47) [⟨0, [0], some [0, 2000]⟩] k Try.f33.ntmps Try.f33.results.toList (Try.f33.body.getD .skip) [(.sl true none x0)] [] K = f33_T R_f47 k (fun u => K (f33_out u)) (fun v => iter (loopB (f33_cx R_f47 hR_f47) k [.r, .r, .r, .r, .l, .b] (Try.f33.body.getD .skip) (retK (f33_cx R_f47 hR_f47) [⟨0, [0], some [0, 2000]⟩] Try.f33.results.toList K) []) k (f33_S1 v)) x0 := by kernel_rfl
theorem f33_ev {X : Type} (R_f47 : f47_R) (hR_f47 : AnsOk Try.prog 47 (f47_cOf R_f47)) (k : Nat) (K : Out → Option X) (x0 : List CV) : evFn (f33_cx R_f47 hR_f47) [⟨0, [0], some [0, 2000]⟩] k Try.f33.ntmps Try.f33.results.toList (Try.f33.body.getD .skip) [(.sl true none x0)] [] K = f33_A R_f47 k X (fun u => K (f33_out u)) x0 := (f33_ev' R_f47 hR_f47 k K x0).trans (by rw [f33_L1_it R_f47 hR_f47 k K]; rfl)
theorem f33_okA (R_f47 : f47_R) (hR_f47 : AnsOk Try.prog 47 (f47_cOf R_f47)) (k : Nat) : AnsOk Try.prog 33 (f33_cOf (f33_A R_f47 k)) := by
  intro X xs ns K x h
  unfold f33_cOf at h ⊢
  split at h
  · exact ans_main S (f33_Cok R_f47 hR_f47) Try.func33 (ent_of Try.func33 (by kernel_rfl) rfl) rfl (fun X K => f33_ev R_f47 hR_f47 k K _) h
  · cases h
/-- "outpost/opt.Read" -/
def f33 {X : Type} (k : Nat) (K : Nat × Int × Int × (List CV) → Option X) (x0 : List CV) : Option X := f33_A (fun X => @f47 X k) k X K x0
theorem f33_ok (k : Nat) : AnsOk Try.prog 33 (f33_cOf (fun X => @f33 X k)) := f33_okA (fun X => @f47 X k) (f47_ok k) k
abbrev f34_R : Type 1 := (X : Type) → (Nat × Int × (List CV) → Option X) → (List CV) → Option X
def f34_out (u : Nat × Int × (List CV)) : Out := ⟨(.tup [(.osl [0, 2000] none 0 u.1), (.v (CV.int .i64 u.2.1))]), [([0, 2000], (.row false none u.2.2))]⟩
def f34_cOf (R : f34_R) : FnC := fun X xs ns K => match xs, ns with
  | [(.sl false none x0)], [] => R X (fun u => K (f34_out u)) x0
  | _, _ => none
def f34_plan : Nat → Option (List Nat × List Wk)
  | 0 => some ([0], [])
  | 1 => some ([0], [])
  | 2 => some ([], [])
  | 3 => some ([0], [])
  | 4 => some ([], [])
  | 5 => some ([0], [])
  | 6 => some ([], [])
  | 7 => some ([0], [])
  | _ => none
def f34_C (R_f29 : f29_R) : Fns := (orC 29 (f29_cOf R_f29) noC)
theorem f34_Cok (R_f29 : f29_R) (hR_f29 : AnsOk Try.prog 29 (f29_cOf R_f29)) : CsOk Try.prog (f34_C R_f29) := (orC_ok hR_f29 noC_ok)
def f34_cx (R_f29 : f29_R) (hR_f29 : AnsOk Try.prog 29 (f29_cOf R_f29)) : Cx := mkCx (tabOf rows) (f34_C R_f29) md (cmpIn cmps) f34_plan (f34_Cok R_f29 hR_f29)
def f34_T {X : Type} (R_f29 : f29_R) (k : Nat) (K : Nat × Int × (List CV) → Option X)  (x0 : List CV) : Option X :=
(bif ((Nat.cast ((List.length x0)) : Int) == 0) then
K (0, 0, (List.take 0 []))
else
(bif ((Nat.cast ((List.length x0)) : Int) == 1) then
K (0, 20, (List.take 0 []))
else
(bif (decide ((IntKind.wrap .i64 ((Nat.cast ((List.length x0)) : Int) - 1)) > 1200)) then
K (0, 2, (List.take 0 []))
else
grd (decide (1 ≤ (Nat.cast ((List.length x0)) : Int))) <|
grd (decide ((Nat.cast ((List.length x0)) : Int) ≤ (Nat.cast ((List.length x0)) : Int))) <|
R_f29 _ (fun u1 =>
K ((List.length u1), 0, (List.take (0 + (List.length u1)) u1))) ((List.take ((List.length x0) - 1) (List.drop 1 x0))))))
/-- "outpost/msg.body" -/
def f34_A (R_f29 : f29_R) (k : Nat) : f34_R := fun X K x0 => f34_T R_f29 k K  x0
set_option maxRecDepth 100000 in
theorem f34_ev' {X : Type} (R_f29 : f29_R) (hR_f29 : AnsOk Try.prog 29 (f29_cOf R_f29)) (k : Nat) (K : Out → Option X) (x0 : List CV) : evFn (f34_cx R_f29 hR_f29) [⟨0, [0], some [0, 2000]⟩] k Try.f34.ntmps Try.f34.results.toList (Try.f34.body.getD .skip) [(.sl false none x0)] [] K = f34_T R_f29 k (fun u => K (f34_out u)) x0 := by kernel_rfl
theorem f34_ev {X : Type} (R_f29 : f29_R) (hR_f29 : AnsOk Try.prog 29 (f29_cOf R_f29)) (k : Nat) (K : Out → Option X) (x0 : List CV) : evFn (f34_cx R_f29 hR_f29) [⟨0, [0], some [0, 2000]⟩] k Try.f34.ntmps Try.f34.results.toList (Try.f34.body.getD .skip) [(.sl false none x0)] [] K = f34_A R_f29 k X (fun u => K (f34_out u)) x0 := (f34_ev' R_f29 hR_f29 k K x0).trans rfl
theorem f34_okA (R_f29 : f29_R) (hR_f29 : AnsOk Try.prog 29 (f29_cOf R_f29)) (k : Nat) : AnsOk Try.prog 34 (f34_cOf (f34_A R_f29 k)) := by
  intro X xs ns K x h
  unfold f34_cOf at h ⊢
  split at h
  · exact ans_main S (f34_Cok R_f29 hR_f29) Try.func34 (ent_of Try.func34 (by kernel_rfl) rfl) rfl (fun X K => f34_ev R_f29 hR_f29 k K _) h
  · cases h
/-- "outpost/msg.body" -/
def f34 {X : Type} (k : Nat) (K : Nat × Int × (List CV) → Option X) (x0 : List CV) : Option X := f34_A (fun X => @f29 X k) k X K x0
theorem f34_ok (k : Nat) : AnsOk Try.prog 34 (f34_cOf (fun X => @f34 X k)) := f34_okA (fun X => @f29 X k) (f29_ok k) k
abbrev f14_R : Type 1 := (X : Type) → (Int × Int × Int × Nat × Nat × Nat × Int × (List CV) × (List CV) × (List CV) → Option X) → (List CV) → Option X
def f14_out (u : Int × Int × Int × Nat × Nat × Nat × Int × (List CV) × (List CV) × (List CV)) : Out := ⟨(.tup [(.agg [(.v (CV.int .i64 u.1)), (.v (CV.int .i64 u.2.1)), (.v (CV.int .i64 u.2.2.1)), (.osl [3, 0, 2000] none 0 u.2.2.2.1), (.osl [4, 0, 2000] (some 2) 0 u.2.2.2.2.1), (.osl [5, 0, 2000] none 0 u.2.2.2.2.2.1)]), (.v (CV.int .i64 u.2.2.2.2.2.2.1))]), [([3, 0, 2000], (.row false none u.2.2.2.2.2.2.2.1)), ([4, 0, 2000], (.row false (some 2) u.2.2.2.2.2.2.2.2.1)), ([5, 0, 2000], (.row false none u.2.2.2.2.2.2.2.2.2))]⟩
def f14_cOf (R : f14_R) : FnC := fun X xs ns K => match xs, ns with
  | [(.sl true none x0)], [] => R X (fun u => K (f14_out u)) x0
  | _, _ => none
def f14_plan : Nat → Option (List Nat × List Wk)
  | 0 => some ([0], [])
  | 1 => some ([0, 2], [])
  | 2 => some ([0, 2, 4, 5, 6], [])
  | 3 => some ([2], [])
  | 4 => some ([0, 2, 4, 5], [])
  | 5 => some ([0, 2, 4, 5, 7], [])
  | 6 => some ([0, 2, 4, 5, 7, 8], [])
  | 7 => some ([2], [])
  | 8 => some ([0, 2, 4, 5, 7, 8], [])
  | 9 => some ([0, 2, 7, 9], [])
  | 10 => some ([2, 9, 10], [])
  | 11 => some ([2, 9, 10, 11, 12, 13], [])
  | 12 => some ([2, 13], [])
  | 13 => some ([2, 9, 10, 11, 12], [])
  | 14 => some ([2, 9, 10, 12], [])
  | 15 => some ([2, 9, 13], [])
  | 16 => some ([2, 13], [])
  | 17 => some ([2, 9], [])
  | _ => none
def f14_C (R_f32 : f32_R) (R_f22 : f22_R) (R_f29 : f29_R) (R_f33 : f33_R) (R_f34 : f34_R) : Fns := (orC 22 (f22_cOf R_f22) (orC 29 (f29_cOf R_f29) (orC 32 (f32_cOf R_f32) (orC 33 (f33_cOf R_f33) (orC 34 (f34_cOf R_f34) noC)))))
theorem f14_Cok (R_f32 : f32_R) (R_f22 : f22_R) (R_f29 : f29_R) (R_f33 : f33_R) (R_f34 : f34_R) (hR_f32 : AnsOk Try.prog 32 (f32_cOf R_f32)) (hR_f22 : AnsOk Try.prog 22 (f22_cOf R_f22)) (hR_f29 : AnsOk Try.prog 29 (f29_cOf R_f29)) (hR_f33 : AnsOk Try.prog 33 (f33_cOf R_f33)) (hR_f34 : AnsOk Try.prog 34 (f34_cOf R_f34)) : CsOk Try.prog (f14_C R_f32 R_f22 R_f29 R_f33 R_f34) := (orC_ok hR_f22 (orC_ok hR_f29 (orC_ok hR_f32 (orC_ok hR_f33 (orC_ok hR_f34 noC_ok)))))
def f14_cx (R_f32 : f32_R) (R_f22 : f22_R) (R_f29 : f29_R) (R_f33 : f33_R) (R_f34 : f34_R) (hR_f32 : AnsOk Try.prog 32 (f32_cOf R_f32)) (hR_f22 : AnsOk Try.prog 22 (f22_cOf R_f22)) (hR_f29 : AnsOk Try.prog 29 (f29_cOf R_f29)) (hR_f33 : AnsOk Try.prog 33 (f33_cOf R_f33)) (hR_f34 : AnsOk Try.prog 34 (f34_cOf R_f34)) : Cx := mkCx (tabOf rows) (f14_C R_f32 R_f22 R_f29 R_f33 R_f34) md (cmpIn cmps) f14_plan (f14_Cok R_f32 R_f22 R_f29 R_f33 R_f34 hR_f32 hR_f22 hR_f29 hR_f33 hR_f34)
def f14_J1 {X : Type} (R_f32 : f32_R) (R_f22 : f22_R) (R_f29 : f29_R) (R_f33 : f33_R) (R_f34 : f34_R) (k : Nat) (K : Int × Int × Int × Nat × Nat × Nat × Int × (List CV) × (List CV) × (List CV) → Option X) (e3 : CV) (u1 : Int × Int × Bool) (x0 : List CV) (v5 : Int) : Option X :=
grd (decide (4 ≤ (IntKind.wrap .i64 (4 + v5)))) <|
grd (decide ((IntKind.wrap .i64 (4 + v5)) ≤ (Nat.cast ((List.length x0)) : Int))) <|
R_f29 _ (fun u6 =>
grd (decide (0 ≤ (IntKind.wrap .i64 (4 + v5)))) <|
grd (decide ((IntKind.wrap .i64 (4 + v5)) ≤ (Nat.cast ((List.length x0)) : Int))) <|
grd (decide ((Nat.cast ((List.length x0)) : Int) ≤ (Nat.cast ((List.length x0)) : Int))) <|
R_f33 _ (fun u7 =>
(bif (u7.2.2.1 != 0) then
K (0, 0, 0, 0, 0, 0, u7.2.2.1, (List.take 0 []), (List.take 0 []), (List.take 0 []))
else
grd (decide (0 ≤ u7.2.1)) <|
grd (decide (u7.2.1 ≤ (Nat.cast ((List.length (List.take ((List.length x0) - (Int.toNat (IntKind.wrap .i64 (4 + v5)))) (List.drop (Int.toNat (IntKind.wrap .i64 (4 + v5))) x0)))) : Int))) <|
grd (decide ((Nat.cast ((List.length (List.take ((List.length x0) - (Int.toNat (IntKind.wrap .i64 (4 + v5)))) (List.drop (Int.toNat (IntKind.wrap .i64 (4 + v5))) x0)))) : Int) ≤ (Nat.cast ((List.length (List.take ((List.length x0) - (Int.toNat (IntKind.wrap .i64 (4 + v5)))) (List.drop (Int.toNat (IntKind.wrap .i64 (4 + v5))) x0)))) : Int))) <|
R_f34 _ (fun u9 =>
(bif (u9.2.1 != 0) then
K (0, 0, 0, 0, 0, 0, u9.2.1, (List.take 0 []), (List.take 0 []), (List.take 0 []))
else
K (u1.1, (IntKind.wrap .i64 (CV.toI e3)), u1.2.1, (List.length u6), u7.1, u9.1, 0, (List.take (0 + (List.length u6)) u6), (List.take (0 + u7.1) u7.2.2.2), (List.take (0 + u9.1) u9.2.2)))) ((List.take ((List.length (List.take ((List.length x0) - (Int.toNat (IntKind.wrap .i64 (4 + v5)))) (List.drop (Int.toNat (IntKind.wrap .i64 (4 + v5))) x0))) - (Int.toNat u7.2.1)) (List.drop (Int.toNat u7.2.1) (List.take ((List.length x0) - (Int.toNat (IntKind.wrap .i64 (4 + v5)))) (List.drop (Int.toNat (IntKind.wrap .i64 (4 + v5))) x0))))))) ((List.take ((List.length x0) - (Int.toNat (IntKind.wrap .i64 (4 + v5)))) (List.drop (Int.toNat (IntKind.wrap .i64 (4 + v5))) x0)))) ((List.take ((Int.toNat (IntKind.wrap .i64 (4 + v5))) - 4) (List.drop 4 x0)))
def f14_T {X : Type} (R_f32 : f32_R) (R_f22 : f22_R) (R_f29 : f29_R) (R_f33 : f33_R) (R_f34 : f34_R) (k : Nat) (K : Int × Int × Int × Nat × Nat × Nat × Int × (List CV) × (List CV) × (List CV) → Option X)  (x0 : List CV) : Option X :=
R_f32 _ (fun u1 =>
(bif (!u1.2.2) then
K (0, 0, 0, 0, 0, 0, 20, (List.take 0 []), (List.take 0 []), (List.take 0 []))
else
Option.bind (x0)[0]? fun e2 =>
grd (CV.isI .u8 e2) <|
Option.bind (x0)[1]? fun e3 =>
grd (CV.isI .u8 e3) <|
(bif (decide ((IntKind.wrap .i64 (bop .and .u8 (CV.toI e2) 15)) > 8)) then
K (0, 0, 0, 0, 0, 0, 20, (List.take 0 []), (List.take 0 []), (List.take 0 []))
else
R_f22 _ (fun u10 =>
(bif (!u10) then
K (0, 0, 0, 0, 0, 0, 20, (List.take 0 []), (List.take 0 []), (List.take 0 []))
else
(bif ((IntKind.wrap .i64 (CV.toI e3)) == 0) then
(bif (decide ((Nat.cast ((List.length x0)) : Int) > 4)) then
K (0, 0, 0, 0, 0, 0, 20, (List.take 0 []), (List.take 0 []), (List.take 0 []))
else
(bif (decide ((Nat.cast ((List.length x0)) : Int) < (IntKind.wrap .i64 (4 + (IntKind.wrap .i64 (bop .and .u8 (CV.toI e2) 15)))))) then
K (0, 0, 0, 0, 0, 0, 20, (List.take 0 []), (List.take 0 []), (List.take 0 []))
else
f14_J1 R_f32 R_f22 R_f29 R_f33 R_f34 k K e3 u1 x0 ((IntKind.wrap .i64 (bop .and .u8 (CV.toI e2) 15)))))
else
(bif (decide ((Nat.cast ((List.length x0)) : Int) < (IntKind.wrap .i64 (4 + (IntKind.wrap .i64 (bop .and .u8 (CV.toI e2) 15)))))) then
K (0, 0, 0, 0, 0, 0, 20, (List.take 0 []), (List.take 0 []), (List.take 0 []))
else
f14_J1 R_f32 R_f22 R_f29 R_f33 R_f34 k K e3 u1 x0 ((IntKind.wrap .i64 (bop .and .u8 (CV.toI e2) 15))))))) ((IntKind.wrap .i64 (CV.toI e3)))))) (x0)
/-- "outpost/msg.Read" -/
def f14_A (R_f32 : f32_R) (R_f22 : f22_R) (R_f29 : f29_R) (R_f33 : f33_R) (R_f34 : f34_R) (k : Nat) : f14_R := fun X K x0 => f14_T R_f32 R_f22 R_f29 R_f33 R_f34 k K  x0
set_option maxRecDepth 100000 in
theorem f14_ev' {X : Type} (R_f32 : f32_R) (R_f22 : f22_R) (R_f29 : f29_R) (R_f33 : f33_R) (R_f34 : f34_R) (hR_f32 : AnsOk Try.prog 32 (f32_cOf R_f32)) (hR_f22 : AnsOk Try.prog 22 (f22_cOf R_f22)) (hR_f29 : AnsOk Try.prog 29 (f29_cOf R_f29)) (hR_f33 : AnsOk Try.prog 33 (f33_cOf R_f33)) (hR_f34 : AnsOk Try.prog 34 (f34_cOf R_f34)) (k : Nat) (K : Out → Option X) (x0 : List CV) : evFn (f14_cx R_f32 R_f22 R_f29 R_f33 R_f34 hR_f32 hR_f22 hR_f29 hR_f33 hR_f34) [] k Try.f14.ntmps Try.f14.results.toList (Try.f14.body.getD .skip) [(.sl true none x0)] [] K = f14_T R_f32 R_f22 R_f29 R_f33 R_f34 k (fun u => K (f14_out u)) x0 := by kernel_rfl
theorem f14_ev {X : Type} (R_f32 : f32_R) (R_f22 : f22_R) (R_f29 : f29_R) (R_f33 : f33_R) (R_f34 : f34_R) (hR_f32 : AnsOk Try.prog 32 (f32_cOf R_f32)) (hR_f22 : AnsOk Try.prog 22 (f22_cOf R_f22)) (hR_f29 : AnsOk Try.prog 29 (f29_cOf R_f29)) (hR_f33 : AnsOk Try.prog 33 (f33_cOf R_f33)) (hR_f34 : AnsOk Try.prog 34 (f34_cOf R_f34)) (k : Nat) (K : Out → Option X) (x0 : List CV) : evFn (f14_cx R_f32 R_f22 R_f29 R_f33 R_f34 hR_f32 hR_f22 hR_f29 hR_f33 hR_f34) [] k Try.f14.ntmps Try.f14.results.toList (Try.f14.body.getD .skip) [(.sl true none x0)] [] K = f14_A R_f32 R_f22 R_f29 R_f33 R_f34 k X (fun u => K (f14_out u)) x0 := (f14_ev' R_f32 R_f22 R_f29 R_f33 R_f34 hR_f32 hR_f22 hR_f29 hR_f33 hR_f34 k K x0).trans rfl
theorem f14_okA (R_f32 : f32_R) (R_f22 : f22_R) (R_f29 : f29_R) (R_f33 : f33_R) (R_f34 : f34_R) (hR_f32 : AnsOk Try.prog 32 (f32_cOf R_f32)) (hR_f22 : AnsOk Try.prog 22 (f22_cOf R_f22)) (hR_f29 : AnsOk Try.prog 29 (f29_cOf R_f29)) (hR_f33 : AnsOk Try.prog 33 (f33_cOf R_f33)) (hR_f34 : AnsOk Try.prog 34 (f34_cOf R_f34)) (k : Nat) : AnsOk Try.prog 14 (f14_cOf (f14_A R_f32 R_f22 R_f29 R_f33 R_f34 k)) := by
  intro X xs ns K x h
  unfold f14_cOf at h ⊢
  split at h
  · exact ans_main S (f14_Cok R_f32 R_f22 R_f29 R_f33 R_f34 hR_f32 hR_f22 hR_f29 hR_f33 hR_f34) Try.func14 (ent_of Try.func14 (by kernel_rfl) rfl) rfl (fun X K => f14_ev R_f32 R_f22 R_f29 R_f33 R_f34 hR_f32 hR_f22 hR_f29 hR_f33 hR_f34 k K _) h
  · cases h
/-- "outpost/msg.Read" -/
def f14 {X : Type} (k : Nat) (K : Int × Int × Int × Nat × Nat × Nat × Int × (List CV) × (List CV) × (List CV) → Option X) (x0 : List CV) : Option X := f14_A (fun X => @f32 X k) (fun X => @f22 X k) (fun X => @f29 X k) (fun X => @f33 X k) (fun X => @f34 X k) k X K x0
theorem f14_ok (k : Nat) : AnsOk Try.prog 14 (f14_cOf (fun X => @f14 X k)) := f14_okA (fun X => @f32 X k) (fun X => @f22 X k) (fun X => @f29 X k) (fun X => @f33 X k) (fun X => @f34 X k) (f32_ok k) (f22_ok k) (f29_ok k) (f33_ok k) (f34_ok k) k
abbrev f6_R : Type 1 := (X : Type) → ((List CV) → Option X) → Option X
def f6_out (u : (List CV)) : Out := ⟨(.ptr [2000] 0 0 0), [([2000], (.obj [(.osl [0, 2000] (some 6) 0 0), (.v (CV.int .i64 0))])), ([0, 2000], (.row false (some 6) u))]⟩
def f6_cOf (R : f6_R) : FnC := fun X xs ns K => match xs, ns with
  | [], [] => R X (fun u => K (f6_out u)) 
  | _, _ => none
def f6_plan : Nat → Option (List Nat × List Wk)
  | 0 => some ([], [])
  | 1 => some ([], [])
  | _ => none
def f6_C : Fns := noC
theorem f6_Cok : CsOk Try.prog (f6_C) := noC_ok
def f6_cx : Cx := mkCx (tabOf rows) (f6_C) md (cmpIn cmps) f6_plan (f6_Cok)
def f6_T {X : Type} (k : Nat) (K : (List CV) → Option X)   : Option X :=
K ((List.take 0 []))
/-- "outpost/exch.New" -/
def f6_A (k : Nat) : f6_R := fun X K  => f6_T k K  
set_option maxRecDepth 100000 in
theorem f6_ev' {X : Type} (k : Nat) (K : Out → Option X)  : evFn (f6_cx) [] k Try.f6.ntmps Try.f6.results.toList (Try.f6.body.getD .skip) [] [] K = f6_T k (fun u => K (f6_out u))  := by kernel_rfl
theorem f6_ev {X : Type} (k : Nat) (K : Out → Option X)  : evFn (f6_cx) [] k Try.f6.ntmps Try.f6.results.toList (Try.f6.body.getD .skip) [] [] K = f6_A k X (fun u => K (f6_out u))  := (f6_ev' k K ).trans rfl
theorem f6_okA (k : Nat) : AnsOk Try.prog 6 (f6_cOf (f6_A k)) := by
  intro X xs ns K x h
  unfold f6_cOf at h ⊢
  split at h
  · exact ans_main S (f6_Cok) Try.func6 (ent_of Try.func6 (by kernel_rfl) rfl) rfl (fun X K => f6_ev k K ) h
  · cases h
/-- "outpost/exch.New" -/
def f6 {X : Type} (k : Nat) (K : (List CV) → Option X)  : Option X := f6_A k X K 
theorem f6_ok (k : Nat) : AnsOk Try.prog 6 (f6_cOf (fun X => @f6 X k)) := f6_okA k
abbrev f19_R : Type 1 := (X : Type) → (Int × Nat × Int × (List CV) → Option X) → Nat → Int → (List CV) → Option X
def f19_out (u : Int × Nat × Int × (List CV)) : Out := ⟨(.v (CV.int .i64 u.1)), [([1000], (.obj [(.osl [0, 1000] (some 6) 0 u.2.1), (.v (CV.int .i64 u.2.2.1))])), ([0, 1000], (.row false (some 6) u.2.2.2))]⟩
def f19_cOf (R : f19_R) : FnC := fun X xs ns K => match xs, ns with
  | [(.ptr [1000] 0 0 0)], [([1000], (.obj [(.osl [0, 1000] (some 6) 0 x0), (.v (CV.int .i64 x1))])), ([0, 1000], (.row false (some 6) x2))] => R X (fun u => K (f19_out u)) x0 x1 x2
  | _, _ => none
def f19_plan : Nat → Option (List Nat × List Wk)
  | 0 => some ([0], [])
  | 1 => some ([0], [])
  | _ => none
def f19_C : Fns := noC
theorem f19_Cok : CsOk Try.prog (f19_C) := noC_ok
def f19_cx : Cx := mkCx (tabOf rows) (f19_C) md (cmpIn cmps) f19_plan (f19_Cok)
def f19_T {X : Type} (k : Nat) (K : Int × Nat × Int × (List CV) → Option X)  (x0 : Nat) (x1 : Int) (x2 : List CV) : Option X :=
K ((Nat.cast (x0) : Int), x0, x1, (List.take (0 + x0) x2))
/-- "(*outpost/exch.Table).Len" -/
def f19_A (k : Nat) : f19_R := fun X K x0 x1 x2 => f19_T k K  x0 x1 x2
set_option maxRecDepth 100000 in
theorem f19_ev' {X : Type} (k : Nat) (K : Out → Option X) (x0 : Nat) (x1 : Int) (x2 : List CV) : evFn (f19_cx) [] k Try.f19.ntmps Try.f19.results.toList (Try.f19.body.getD .skip) [(.ptr [1000] 0 0 0)] [([1000], (.obj [(.osl [0, 1000] (some 6) 0 x0), (.v (CV.int .i64 x1))])), ([0, 1000], (.row false (some 6) x2))] K = f19_T k (fun u => K (f19_out u)) x0 x1 x2 := by kernel_rfl
theorem f19_ev {X : Type} (k : Nat) (K : Out → Option X) (x0 : Nat) (x1 : Int) (x2 : List CV) : evFn (f19_cx) [] k Try.f19.ntmps Try.f19.results.toList (Try.f19.body.getD .skip) [(.ptr [1000] 0 0 0)] [([1000], (.obj [(.osl [0, 1000] (some 6) 0 x0), (.v (CV.int .i64 x1))])), ([0, 1000], (.row false (some 6) x2))] K = f19_A k X (fun u => K (f19_out u)) x0 x1 x2 := (f19_ev' k K x0 x1 x2).trans rfl
theorem f19_okA (k : Nat) : AnsOk Try.prog 19 (f19_cOf (f19_A k)) := by
  intro X xs ns K x h
  unfold f19_cOf at h ⊢
  split at h
  · exact ans_main S (f19_Cok) Try.func19 (ent_of Try.func19 (by kernel_rfl) rfl) rfl (fun X K => f19_ev k K _ _ _) h
  · cases h
/-- "(*outpost/exch.Table).Len" -/
def f19 {X : Type} (k : Nat) (K : Int × Nat × Int × (List CV) → Option X) (x0 : Nat) (x1 : Int) (x2 : List CV) : Option X := f19_A k X K x0 x1 x2
theorem f19_ok (k : Nat) : AnsOk Try.prog 19 (f19_cOf (fun X => @f19 X k)) := f19_okA k
abbrev f5_R : Type 1 := (X : Type) → ((List CV) → Option X) → Option X
def f5_out (u : (List CV)) : Out := ⟨(.ptr [2000] 0 0 0), [([2000], (.obj [(.osl [0, 2000] (some 4) 0 0)])), ([0, 2000], (.row false (some 4) u))]⟩
def f5_cOf (R : f5_R) : FnC := fun X xs ns K => match xs, ns with
  | [], [] => R X (fun u => K (f5_out u)) 
  | _, _ => none
def f5_plan : Nat → Option (List Nat × List Wk)
  | 0 => some ([], [])
  | 1 => some ([], [])
  | _ => none
def f5_C : Fns := noC
theorem f5_Cok : CsOk Try.prog (f5_C) := noC_ok
def f5_cx : Cx := mkCx (tabOf rows) (f5_C) md (cmpIn cmps) f5_plan (f5_Cok)
def f5_T {X : Type} (k : Nat) (K : (List CV) → Option X)   : Option X :=
K ((List.take 0 []))
/-- "outpost/cache.New" -/
def f5_A (k : Nat) : f5_R := fun X K  => f5_T k K  
set_option maxRecDepth 100000 in
theorem f5_ev' {X : Type} (k : Nat) (K : Out → Option X)  : evFn (f5_cx) [] k Try.f5.ntmps Try.f5.results.toList (Try.f5.body.getD .skip) [] [] K = f5_T k (fun u => K (f5_out u))  := by kernel_rfl
theorem f5_ev {X : Type} (k : Nat) (K : Out → Option X)  : evFn (f5_cx) [] k Try.f5.ntmps Try.f5.results.toList (Try.f5.body.getD .skip) [] [] K = f5_A k X (fun u => K (f5_out u))  := (f5_ev' k K ).trans rfl
theorem f5_okA (k : Nat) : AnsOk Try.prog 5 (f5_cOf (f5_A k)) := by
  intro X xs ns K x h
  unfold f5_cOf at h ⊢
  split at h
  · exact ans_main S (f5_Cok) Try.func5 (ent_of Try.func5 (by kernel_rfl) rfl) rfl (fun X K => f5_ev k K ) h
  · cases h
/-- "outpost/cache.New" -/
def f5 {X : Type} (k : Nat) (K : (List CV) → Option X)  : Option X := f5_A k X K 
theorem f5_ok (k : Nat) : AnsOk Try.prog 5 (f5_cOf (fun X => @f5 X k)) := f5_okA k
abbrev f39_R : Type 1 := (X : Type) → (Int → Option X) → Int → Option X
def f39_out (u : Int) : Out := ⟨(.v (CV.int .i64 u)), []⟩
def f39_cOf (R : f39_R) : FnC := fun X xs ns K => match xs, ns with
  | [(.v (CV.int .i64 x0))], [] => R X (fun u => K (f39_out u)) x0
  | _, _ => none
def f39_plan : Nat → Option (List Nat × List Wk)
  | 0 => some ([0], [])
  | 1 => some ([0], [])
  | _ => none
def f39_C : Fns := noC
theorem f39_Cok : CsOk Try.prog (f39_C) := noC_ok
def f39_cx : Cx := mkCx (tabOf rows) (f39_C) md (cmpIn cmps) f39_plan (f39_Cok)
def f39_T {X : Type} (k : Nat) (K : Int → Option X)  (x0 : Int) : Option X :=
K ((if 1099511627776 < (if 0 > x0 then 0 else x0) then 1099511627776 else (if 0 > x0 then 0 else x0)))
/-- "outpost/cache.clock" -/
def f39_A (k : Nat) : f39_R := fun X K x0 => f39_T k K  x0
set_option maxRecDepth 100000 in
theorem f39_ev' {X : Type} (k : Nat) (K : Out → Option X) (x0 : Int) : evFn (f39_cx) [] k Try.f39.ntmps Try.f39.results.toList (Try.f39.body.getD .skip) [(.v (CV.int .i64 x0))] [] K = f39_T k (fun u => K (f39_out u)) x0 := by kernel_rfl
theorem f39_ev {X : Type} (k : Nat) (K : Out → Option X) (x0 : Int) : evFn (f39_cx) [] k Try.f39.ntmps Try.f39.results.toList (Try.f39.body.getD .skip) [(.v (CV.int .i64 x0))] [] K = f39_A k X (fun u => K (f39_out u)) x0 := (f39_ev' k K x0).trans rfl
theorem f39_okA (k : Nat) : AnsOk Try.prog 39 (f39_cOf (f39_A k)) := by
  intro X xs ns K x h
  unfold f39_cOf at h ⊢
  split at h
  · exact ans_main S (f39_Cok) Try.func39 (ent_of Try.func39 (by kernel_rfl) rfl) rfl (fun X K => f39_ev k K _) h
  · cases h
/-- "outpost/cache.clock" -/
def f39 {X : Type} (k : Nat) (K : Int → Option X) (x0 : Int) : Option X := f39_A k X K x0
theorem f39_ok (k : Nat) : AnsOk Try.prog 39 (f39_cOf (fun X => @f39 X k)) := f39_okA k
abbrev f36_R : Type 1 := (X : Type) → (Bool → Option X) → CV → Int → Option X
def f36_out (u : Bool) : Out := ⟨(.v (CV.bool u)), []⟩
def f36_cOf (R : f36_R) : FnC := fun X xs ns K => match xs, ns with
  | [(.v x0), (.v (CV.int .i64 x1))], [] => R X (fun u => K (f36_out u)) x0 x1
  | _, _ => none
def f36_plan : Nat → Option (List Nat × List Wk)
  | 0 => some ([0, 1], [])
  | 1 => some ([1, 2], [])
  | _ => none
def f36_C (R_f39 : f39_R) : Fns := (orC 39 (f39_cOf R_f39) noC)
theorem f36_Cok (R_f39 : f39_R) (hR_f39 : AnsOk Try.prog 39 (f39_cOf R_f39)) : CsOk Try.prog (f36_C R_f39) := (orC_ok hR_f39 noC_ok)
def f36_cx (R_f39 : f39_R) (hR_f39 : AnsOk Try.prog 39 (f39_cOf R_f39)) : Cx := mkCx (tabOf rows) (f36_C R_f39) md (cmpIn cmps) f36_plan (f36_Cok R_f39 hR_f39)
def f36_T {X : Type} (R_f39 : f39_R) (k : Nat) (K : Bool → Option X)  (x0 : CV) (x1 : Int) : Option X :=
grd (CV.isA 4 x0) <|
grd (CV.isI .i64 (CV.cellD 0 x0)) <|
grd (CV.isI .i64 (CV.cellD 1 x0)) <|
grd (CV.isI .i64 (CV.cellD 2 x0)) <|
grd (CV.isL none (CV.cellD 3 x0)) <|
R_f39 _ (fun u1 =>
K ((decide ((IntKind.wrap .i64 (u1 - (CV.toI (CV.cellD 2 x0)))) < 247)))) (x1)
/-- "(outpost/cache.kept).fresh" -/
def f36_A (R_f39 : f39_R) (k : Nat) : f36_R := fun X K x0 x1 => f36_T R_f39 k K  x0 x1
set_option maxRecDepth 100000 in
theorem f36_ev' {X : Type} (R_f39 : f39_R) (hR_f39 : AnsOk Try.prog 39 (f39_cOf R_f39)) (k : Nat) (K : Out → Option X) (x0 : CV) (x1 : Int) : evFn (f36_cx R_f39 hR_f39) [] k Try.f36.ntmps Try.f36.results.toList (Try.f36.body.getD .skip) [(.v x0), (.v (CV.int .i64 x1))] [] K = f36_T R_f39 k (fun u => K (f36_out u)) x0 x1 := by kernel_rfl
theorem f36_ev {X : Type} (R_f39 : f39_R) (hR_f39 : AnsOk Try.prog 39 (f39_cOf R_f39)) (k : Nat) (K : Out → Option X) (x0 : CV) (x1 : Int) : evFn (f36_cx R_f39 hR_f39) [] k Try.f36.ntmps Try.f36.results.toList (Try.f36.body.getD .skip) [(.v x0), (.v (CV.int .i64 x1))] [] K = f36_A R_f39 k X (fun u => K (f36_out u)) x0 x1 := (f36_ev' R_f39 hR_f39 k K x0 x1).trans rfl
theorem f36_okA (R_f39 : f39_R) (hR_f39 : AnsOk Try.prog 39 (f39_cOf R_f39)) (k : Nat) : AnsOk Try.prog 36 (f36_cOf (f36_A R_f39 k)) := by
  intro X xs ns K x h
  unfold f36_cOf at h ⊢
  split at h
  · exact ans_main S (f36_Cok R_f39 hR_f39) Try.func36 (ent_of Try.func36 (by kernel_rfl) rfl) rfl (fun X K => f36_ev R_f39 hR_f39 k K _ _) h
  · cases h
/-- "(outpost/cache.kept).fresh" -/
def f36 {X : Type} (k : Nat) (K : Bool → Option X) (x0 : CV) (x1 : Int) : Option X := f36_A (fun X => @f39 X k) k X K x0 x1
theorem f36_ok (k : Nat) : AnsOk Try.prog 36 (f36_cOf (fun X => @f36 X k)) := f36_okA (fun X => @f39 X k) (f39_ok k) k
abbrev f20_R : Type 1 := (X : Type) → (Int × Nat × (List CV) → Option X) → Int → Nat → (List CV) → Option X
def f20_out (u : Int × Nat × (List CV)) : Out := ⟨(.v (CV.int .i64 u.1)), [([1000], (.obj [(.osl [0, 1000] (some 4) 0 u.2.1)])), ([0, 1000], (.row false (some 4) u.2.2))]⟩
def f20_cOf (R : f20_R) : FnC := fun X xs ns K => match xs, ns with
  | [(.ptr [1000] 0 0 0), (.v (CV.int .i64 x0))], [([1000], (.obj [(.osl [0, 1000] (some 4) 0 x1)])), ([0, 1000], (.row false (some 4) x2))] => R X (fun u => K (f20_out u)) x0 x1 x2
  | _, _ => none
def f20_plan : Nat → Option (List Nat × List Wk)
  | 0 => some ([0, 1], [])
  | 1 => some ([0, 1], [])
  | 2 => some ([0, 1, 5], [])
  | 3 => some ([1, 5, 11, 12, 13], [])
  | 4 => some ([1, 5, 11, 12, 13], [])
  | 5 => some ([1, 5, 7, 11, 12, 13], [])
  | 6 => some ([1, 5, 11, 12, 13], [])
  | 7 => some ([1, 5, 11, 12, 13], [])
  | 8 => some ([5], [])
  | _ => none
def f20_C (R_f36 : f36_R) : Fns := (orC 36 (f36_cOf R_f36) noC)
theorem f20_Cok (R_f36 : f36_R) (hR_f36 : AnsOk Try.prog 36 (f36_cOf R_f36)) : CsOk Try.prog (f20_C R_f36) := (orC_ok hR_f36 noC_ok)
def f20_cx (R_f36 : f36_R) (hR_f36 : AnsOk Try.prog 36 (f36_cOf R_f36)) : Cx := mkCx (tabOf rows) (f20_C R_f36) md (cmpIn cmps) f20_plan (f20_Cok R_f36 hR_f36)
def f20_S1 (v : Int × Int × Nat × Int × Int × Nat × (List CV)) : St := ⟨[.undef, (.v (CV.int .i64 v.1)), .undef, .undef, .undef, (.v (CV.int .i64 v.2.1)), .undef, .undef, .undef, .undef, .undef, (.osl [0, 1000] (some 4) 0 v.2.2.1), (.v (CV.int .i64 v.2.2.2.1)), (.v (CV.int .i64 v.2.2.2.2.1)), .undef, .undef, .undef, .undef, .undef, .undef, .undef, .undef, .undef, .undef], [([1000], (.obj [(.osl [0, 1000] (some 4) 0 v.2.2.2.2.2.1)])), ([0, 1000], (.row false (some 4) v.2.2.2.2.2.2))]⟩
def f20_J1 {X : Type} (R_f36 : f36_R) (k : Nat) (K : Int × Nat × (List CV) → Option X) (rec1 : Int × Int × Nat × Int × Int × Nat × (List CV) → Option X) (v5_0 : Int × Int × Nat × Int × Int × Nat × (List CV)) (v8 : Int) : Option X :=
rec1 (v5_0.1, v8, v5_0.2.2.1, v5_0.2.2.2.1, (IntKind.wrap .i64 (v5_0.2.2.2.2.1 + 1)), v5_0.2.2.2.2.2.1, v5_0.2.2.2.2.2.2)
def f20_T1 {X : Type} (R_f36 : f36_R) (k : Nat) (K : Int × Nat × (List CV) → Option X)   (rec1 : Int × Int × Nat × Int × Int × Nat × (List CV) → Option X) (v5_0 : Int × Int × Nat × Int × Int × Nat × (List CV)) : Option X :=
(bif (decide (v5_0.2.2.2.2.1 < v5_0.2.2.2.1)) then
grd (decide (0 ≤ v5_0.2.2.2.2.1)) <|
grd (decide (v5_0.2.2.2.2.1 < (Nat.cast (v5_0.2.2.1) : Int))) <|
Option.bind (v5_0.2.2.2.2.2.2)[(0 + (Int.toNat v5_0.2.2.2.2.1))]? fun e9 =>
grd (CV.isA 4 e9) <|
grd (CV.isI .i64 (CV.cellD 0 e9)) <|
grd (CV.isI .i64 (CV.cellD 1 e9)) <|
grd (CV.isI .i64 (CV.cellD 2 e9)) <|
grd (CV.isL none (CV.cellD 3 e9)) <|
R_f36 _ (fun u10 =>
(bif u10 then
f20_J1 R_f36 k K rec1 v5_0 ((IntKind.wrap .i64 (v5_0.2.1 + 1)))
else
f20_J1 R_f36 k K rec1 v5_0 (v5_0.2.1))) ((CV.agg [(CV.int .i64 (CV.toI (CV.cellD 0 e9))), (CV.int .i64 (CV.toI (CV.cellD 1 e9))), (CV.int .i64 (CV.toI (CV.cellD 2 e9))), (CV.slc none (CV.toL (CV.cellD 3 e9)))])) (v5_0.1)
else
K (v5_0.2.1, v5_0.2.2.2.2.2.1, (List.take (0 + v5_0.2.2.2.2.2.1) v5_0.2.2.2.2.2.2)))
def f20_L1 {X : Type} (R_f36 : f36_R) (k : Nat) (K : Int × Nat × (List CV) → Option X)  (rec1 : Int × Int × Nat × Int × Int × Nat × (List CV) → Option X) (v : Int × Int × Nat × Int × Int × Nat × (List CV)) : Option X := f20_T1 R_f36 k K   rec1 v
set_option maxRecDepth 100000 in
theorem f20_L1_ev {X : Type} (R_f36 : f36_R) (hR_f36 : AnsOk Try.prog 36 (f36_cOf R_f36)) (k : Nat) (K : Out → Option X)  (r1 : St → Option X) (v : Int × Int × Nat × Int × Int × Nat × (List CV)) : loopB (f20_cx R_f36 hR_f36) k [.r, .r, .l, .r, .b] (Try.f20.body.getD .skip) (retK (f20_cx R_f36 hR_f36) [] Try.f20.results.toList K) [] r1 (f20_S1 v) = f20_T1 R_f36 k (fun u => K (f20_out u))   (fun v => r1 (f20_S1 v)) v := by kernel_rfl
theorem f20_L1_it {X : Type} (R_f36 : f36_R) (hR_f36 : AnsOk Try.prog 36 (f36_cOf R_f36)) (k : Nat) (K : Out → Option X)  : (fun v => iter (loopB (f20_cx R_f36 hR_f36) k [.r, .r, .l, .r, .b] (Try.f20.body.getD .skip) (retK (f20_cx R_f36 hR_f36) [] Try.f20.results.toList K) []) k (f20_S1 v)) = iterV (f20_L1 R_f36 k (fun u => K (f20_out u)) ) k :=
  iter_map (fun r1 v => (f20_L1_ev R_f36 hR_f36 k K  r1 v).trans rfl) k
def f20_T {X : Type} (R_f36 : f36_R) (k : Nat) (K : Int × Nat × (List CV) → Option X) (loop1 : Int × Int × Nat × Int × Int × Nat × (List CV) → Option X) (x0 : Int) (x1 : Nat) (x2 : List CV) : Option X :=
loop1 (x0, 0, x1, (Nat.cast (x1) : Int), 0, x1, x2)
/-- "(*outpost/cache.Cache).Len" -/
def f20_A (R_f36 : f36_R) (k : Nat) : f20_R := fun X K x0 x1 x2 => f20_T R_f36 k K (iterV (f20_L1 R_f36 k K) k) x0 x1 x2
set_option maxRecDepth 100000 in
theorem f20_ev' {X : Type} (R_f36 : f36_R) (hR_f36 : AnsOk Try.prog 36 (f36_cOf R_f36)) (k : Nat) (K : Out → Option X) (x0 : Int) (x1 : Nat) (x2 : List CV) : evFn (f20_cx R_f36 hR_f36) [] k Try.f20.ntmps Try.f20.results.toList (Try.f20.body.getD .skip) [(.ptr [1000] 0 0 0), (.v (CV.int .i64 x0))] [([1000], (.obj [(.osl [0, 1000] (some 4) 0 x1)])), ([0, 1000], (.row false (some 4) x2))] K = f20_T R_f36 k (fun u => K (f20_out u)) (fun v => iter (loopB (f20_cx R_f36 hR_f36) k [.r, .r, .l, .r, .b] (Try.f20.body.getD .skip) (retK (f20_cx R_f36 hR_f36) [] Try.f20.results.toList K) []) k (f20_S1 v)) x0 x1 x2 := by kernel_rfl
theorem f20_ev {X : Type} (R_f36 : f36_R) (hR_f36 : AnsOk Try.prog 36 (f36_cOf R_f36)) (k : Nat) (K : Out → Option X) (x0 : Int) (x1 : Nat) (x2 : List CV) : evFn (f20_cx R_f36 hR_f36) [] k Try.f20.ntmps Try.f20.results.toList (Try.f20.body.getD .skip) [(.ptr [1000] 0 0 0), (.v (CV.int .i64 x0))] [([1000], (.obj [(.osl [0, 1000] (some 4) 0 x1)])), ([0, 1000], (.row false (some 4) x2))] K = f20_A R_f36 k X (fun u => K (f20_out u)) x0 x1 x2 := (f20_ev' R_f36 hR_f36 k K x0 x1 x2).trans (by rw [f20_L1_it R_f36 hR_f36 k K]; rfl)
theorem f20_okA (R_f36 : f36_R) (hR_f36 : AnsOk Try.prog 36 (f36_cOf R_f36)) (k : Nat) : AnsOk Try.prog 20 (f20_cOf (f20_A R_f36 k)) := by
  intro X xs ns K x h
  unfold f20_cOf at h ⊢
  split at h
  · exact ans_main S (f20_Cok R_f36 hR_f36) Try.func20 (ent_of Try.func20 (by kernel_rfl) rfl) rfl (fun X K => f20_ev R_f36 hR_f36 k K _ _ _) h
  · cases h
/-- "(*outpost/cache.Cache).Len" -/
def f20 {X : Type} (k : Nat) (K : Int × Nat × (List CV) → Option X) (x0 : Int) (x1 : Nat) (x2 : List CV) : Option X := f20_A (fun X => @f36 X k) k X K x0 x1 x2
theorem f20_ok (k : Nat) : AnsOk Try.prog 20 (f20_cOf (fun X => @f20 X k)) := f20_okA (fun X => @f36 X k) (f36_ok k) k
end Go.Proofs.YtfllanhepeginaaD
