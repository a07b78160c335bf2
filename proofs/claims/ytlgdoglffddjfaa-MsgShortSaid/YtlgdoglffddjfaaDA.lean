/- Functions of the program, as plain Lean functions: each with the proof that the evaluator computes it. (Printed by wip/dec/dec.py.) -/
import Derived.Test.YtlgdoglffddjfaaTN
import Derived.Test.YtlgdoglffddjfaaTO
import Derived.Test.YtlgdoglffddjfaaTQ
import Derived.Test.YtlgdoglffddjfaaProg
import Derived.Test.YtlgdoglffddjfaaChecked
namespace Go.Proofs.YtlgdoglffddjfaaD
open Go Go.Proofs.YtlgdoglffddjfaaS Go.Proofs
set_option linter.unusedVariables false
def rows : List (Nat × TI) := [
  (3, ⟨(.int .i64), 1, 8, .v (.int .i64 0)⟩),
  (4, ⟨.bool, 1, 1, .v (.bool false)⟩),
  (5, ⟨(.int .u8), 1, 1, .v (.int .u8 0)⟩),
  (9, ⟨.str, 1, 16, .v (.str ⟨#[]⟩)⟩),
  (22, ⟨(.slice 5), 1, 24, .nil0 none⟩),
  (23, ⟨(.slice 52), 1, 24, .nil0 (some 2)⟩),
  (25, ⟨(.struct [(0, 3), (1, 3), (2, 3), (3, 22), (4, 23), (5, 22)]), 6, 96, .agg [.v (.int .i64 0), .v (.int .i64 0), .v (.int .i64 0), .nil0 none, .nil0 (some 2), .nil0 none]⟩),
  (28, ⟨(.int .i64), 1, 8, .v (.int .i64 0)⟩),
  (50, ⟨(.slice 25), 1, 24, .nil0 (some 6)⟩),
  (52, ⟨(.struct [(0, 3), (1, 22)]), 2, 32, .agg [.v (.int .i64 0), .nil0 none]⟩),
  (55, ⟨(.int .u64), 1, 8, .v (.int .u64 0)⟩),
  (59, ⟨(.slice 22), 1, 24, .nil0 none⟩),
  (74, ⟨(.ptr 76), 1, 8, .v .nilp⟩),
  (76, ⟨(.struct [(0, 22), (1, 3)]), 2, 32, .agg [.nil0 none, .v (.int .i64 0)]⟩)]
set_option maxRecDepth 100000 in
theorem rows_ok : rowsAre Try.prog rows = true := by kernel_rfl
def cmps : List Nat := []
theorem cmps_ok : cmpsAre Try.prog cmps = true := by kernel_rfl
def S : Seat Try.prog := ⟨rows, rows_ok, Try.checked.mixed, cmps, cmps_ok⟩
def md (g : FuncId) (i : Nat) : Nat := (bif Nat.beq g 69 && Nat.beq i 0 then 2 else (bif Nat.beq g 68 && Nat.beq i 0 then 2 else (bif Nat.beq g 67 && Nat.beq i 0 then 2 else (bif Nat.beq g 66 && Nat.beq i 0 then 2 else (bif Nat.beq g 64 && Nat.beq i 0 then 2 else (bif Nat.beq g 59 && Nat.beq i 0 then 2 else (bif Nat.beq g 51 && Nat.beq i 0 then 2 else (bif Nat.beq g 42 && Nat.beq i 0 then 1 else (bif Nat.beq g 38 && Nat.beq i 0 then 1 else (bif Nat.beq g 35 && Nat.beq i 0 then 1 else (bif Nat.beq g 32 && Nat.beq i 0 then 1 else (bif Nat.beq g 29 && Nat.beq i 1 then 1 else (bif Nat.beq g 29 && Nat.beq i 0 then 1 else (bif Nat.beq g 27 && Nat.beq i 1 then 1 else (bif Nat.beq g 27 && Nat.beq i 0 then 1 else (bif Nat.beq g 26 && Nat.beq i 0 then 1 else (bif Nat.beq g 25 && Nat.beq i 0 then 1 else (bif Nat.beq g 24 && Nat.beq i 0 then 1 else (bif Nat.beq g 23 && Nat.beq i 0 then 1 else (bif Nat.beq g 22 && Nat.beq i 4 then 1 else (bif Nat.beq g 22 && Nat.beq i 3 then 1 else (bif Nat.beq g 22 && Nat.beq i 0 then 1 else (bif Nat.beq g 21 && Nat.beq i 4 then 1 else (bif Nat.beq g 21 && Nat.beq i 3 then 1 else (bif Nat.beq g 21 && Nat.beq i 0 then 1 else (bif Nat.beq g 17 && Nat.beq i 1 then 1 else (bif Nat.beq g 17 && Nat.beq i 0 then 1 else (bif Nat.beq g 14 && Nat.beq i 0 then 1 else (bif Nat.beq g 12 && Nat.beq i 0 then 1 else (bif Nat.beq g 11 && Nat.beq i 0 then 1 else 0))))))))))))))))))))))))))))))
def setRun {X : Type} (e : CV) (j n : Nat) (cs : List CV) (K : CV → Option X) : Option X := match e with
  | .agg ds => grd (Nat.ble (j + n) ds.length) (K (.agg (putRun ds j cs)))
  | _ => none
def setCell {X : Type} (e : CV) (j : Nat) (c : CV) (K : CV → Option X) : Option X := match e with
  | .agg ds => grd (Nat.blt j ds.length) (K (.agg (ds.set j c)))
  | _ => none
abbrev f43_R : Type 1 := (X : Type) → (Int → Option X) → Int → Option X
def f43_out (u : Int) : Out := ⟨(.v (CV.int .i64 u)), []⟩
def f43_cOf (R : f43_R) : FnC := fun X xs ns K => match xs, ns with
  | [(.v (CV.int .i64 x0))], [] => R X (fun u => K (f43_out u)) x0
  | _, _ => none
def f43_plan : Nat → Option (List Nat × List Wk)
  | 0 => some ([0], [])
  | 1 => some ([0], [])
  | _ => none
def f43_C : Fns := noC
theorem f43_Cok : CsOk Try.prog (f43_C) := noC_ok
def f43_cx : Cx := mkCx (tabOf rows) (f43_C) md (cmpIn cmps) f43_plan (f43_Cok)
def f43_T {X : Type} (k : Nat) (K : Int → Option X)  (x0 : Int) : Option X :=
K ((Int.fdiv x0 (2 ^ 5)))
/-- "outpost/msg.class" -/
def f43_A (k : Nat) : f43_R := fun X K x0 => f43_T k K  x0
set_option maxRecDepth 100000 in
theorem f43_ev' {X : Type} (k : Nat) (K : Out → Option X) (x0 : Int) : evFn (f43_cx) [] k Try.f43.ntmps Try.f43.results.toList (Try.f43.body.getD .skip) [(.v (CV.int .i64 x0))] [] K = f43_T k (fun u => K (f43_out u)) x0 := by kernel_rfl
theorem f43_ev {X : Type} (k : Nat) (K : Out → Option X) (x0 : Int) : evFn (f43_cx) [] k Try.f43.ntmps Try.f43.results.toList (Try.f43.body.getD .skip) [(.v (CV.int .i64 x0))] [] K = f43_A k X (fun u => K (f43_out u)) x0 := (f43_ev' k K x0).trans rfl
theorem f43_okA (k : Nat) : AnsOk Try.prog 43 (f43_cOf (f43_A k)) := by
  intro X xs ns K x h
  unfold f43_cOf at h ⊢
  split at h
  · exact ans_main S (f43_Cok) Try.func43 (ent_of Try.func43 (by kernel_rfl) rfl) rfl (fun X K => f43_ev k K _) h
  · cases h
/-- "outpost/msg.class" -/
def f43 {X : Type} (k : Nat) (K : Int → Option X) (x0 : Int) : Option X := f43_A k X K x0
theorem f43_ok (k : Nat) : AnsOk Try.prog 43 (f43_cOf (fun X => @f43 X k)) := f43_okA k
abbrev f30_R : Type 1 := (X : Type) → (Bool → Option X) → Int → Option X
def f30_out (u : Bool) : Out := ⟨(.v (CV.bool u)), []⟩
def f30_cOf (R : f30_R) : FnC := fun X xs ns K => match xs, ns with
  | [(.v (CV.int .i64 x0))], [] => R X (fun u => K (f30_out u)) x0
  | _, _ => none
def f30_plan : Nat → Option (List Nat × List Wk)
  | 0 => some ([0], [])
  | 1 => some ([0], [])
  | 2 => some ([4], [])
  | 3 => some ([4], [])
  | 4 => some ([4], [])
  | 5 => some ([4], [])
  | 6 => some ([4], [])
  | 7 => some ([], [])
  | 8 => some ([], [])
  | _ => none
def f30_C (R_f43 : f43_R) : Fns := (orC 43 (f43_cOf R_f43) noC)
theorem f30_Cok (R_f43 : f43_R) (hR_f43 : AnsOk Try.prog 43 (f43_cOf R_f43)) : CsOk Try.prog (f30_C R_f43) := (orC_ok hR_f43 noC_ok)
def f30_cx (R_f43 : f43_R) (hR_f43 : AnsOk Try.prog 43 (f43_cOf R_f43)) : Cx := mkCx (tabOf rows) (f30_C R_f43) md (cmpIn cmps) f30_plan (f30_Cok R_f43 hR_f43)
def f30_J1 {X : Type} (R_f43 : f43_R) (k : Nat) (K : Bool → Option X)  (v3 : Bool) : Option X :=
(bif v3 then
K (true)
else
K (false))
def f30_T {X : Type} (R_f43 : f43_R) (k : Nat) (K : Bool → Option X)  (x0 : Int) : Option X :=
R_f43 _ (fun u2 =>
(bif (u2 == 0) then
f30_J1 R_f43 k K ((u2 == 0))
else
(bif (u2 == 2) then
f30_J1 R_f43 k K ((u2 == 2))
else
(bif (u2 == 3) then
f30_J1 R_f43 k K ((u2 == 3))
else
(bif (u2 == 4) then
f30_J1 R_f43 k K ((u2 == 4))
else
f30_J1 R_f43 k K ((u2 == 5))))))) (x0)
/-- "outpost/msg.used" -/
def f30_A (R_f43 : f43_R) (k : Nat) : f30_R := fun X K x0 => f30_T R_f43 k K  x0
set_option maxRecDepth 100000 in
theorem f30_ev' {X : Type} (R_f43 : f43_R) (hR_f43 : AnsOk Try.prog 43 (f43_cOf R_f43)) (k : Nat) (K : Out → Option X) (x0 : Int) : evFn (f30_cx R_f43 hR_f43) [] k Try.f30.ntmps Try.f30.results.toList (Try.f30.body.getD .skip) [(.v (CV.int .i64 x0))] [] K = f30_T R_f43 k (fun u => K (f30_out u)) x0 := by kernel_rfl
theorem f30_ev {X : Type} (R_f43 : f43_R) (hR_f43 : AnsOk Try.prog 43 (f43_cOf R_f43)) (k : Nat) (K : Out → Option X) (x0 : Int) : evFn (f30_cx R_f43 hR_f43) [] k Try.f30.ntmps Try.f30.results.toList (Try.f30.body.getD .skip) [(.v (CV.int .i64 x0))] [] K = f30_A R_f43 k X (fun u => K (f30_out u)) x0 := (f30_ev' R_f43 hR_f43 k K x0).trans rfl
theorem f30_okA (R_f43 : f43_R) (hR_f43 : AnsOk Try.prog 43 (f43_cOf R_f43)) (k : Nat) : AnsOk Try.prog 30 (f30_cOf (f30_A R_f43 k)) := by
  intro X xs ns K x h
  unfold f30_cOf at h ⊢
  split at h
  · exact ans_main S (f30_Cok R_f43 hR_f43) Try.func30 (ent_of Try.func30 (by kernel_rfl) rfl) rfl (fun X K => f30_ev R_f43 hR_f43 k K _) h
  · cases h
/-- "outpost/msg.used" -/
def f30 {X : Type} (k : Nat) (K : Bool → Option X) (x0 : Int) : Option X := f30_A (fun X => @f43 X k) k X K x0
theorem f30_ok (k : Nat) : AnsOk Try.prog 30 (f30_cOf (fun X => @f30 X k)) := f30_okA (fun X => @f43 X k) (f43_ok k) k
abbrev f31_R : Type 1 := (X : Type) → (Bool → Option X) → CV → Option X
def f31_out (u : Bool) : Out := ⟨(.v (CV.bool u)), []⟩
def f31_cOf (R : f31_R) : FnC := fun X xs ns K => match xs, ns with
  | [(.v x0)], [] => R X (fun u => K (f31_out u)) x0
  | _, _ => none
def f31_plan : Nat → Option (List Nat × List Wk)
  | 0 => some ([0], [])
  | 1 => some ([1], [])
  | _ => none
def f31_C : Fns := noC
theorem f31_Cok : CsOk Try.prog (f31_C) := noC_ok
def f31_cx : Cx := mkCx (tabOf rows) (f31_C) md (cmpIn cmps) f31_plan (f31_Cok)
def f31_T {X : Type} (k : Nat) (K : Bool → Option X)  (x0 : CV) : Option X :=
grd (CV.isA 6 x0) <|
grd (CV.isI .i64 (CV.cellD 0 x0)) <|
grd (CV.isI .i64 (CV.cellD 1 x0)) <|
grd (CV.isI .i64 (CV.cellD 2 x0)) <|
grd (CV.isL none (CV.cellD 3 x0)) <|
grd (CV.isL (some 2) (CV.cellD 4 x0)) <|
grd (CV.isL none (CV.cellD 5 x0)) <|
(bif ((Nat.cast ((List.length (CV.toL (CV.cellD 3 x0)))) : Int) == 0) then
(bif ((Nat.cast ((List.length (CV.toL (CV.cellD 4 x0)))) : Int) == 0) then
K (((Nat.cast ((List.length (CV.toL (CV.cellD 5 x0)))) : Int) == 0))
else
K (false))
else
K (false))
/-- "outpost/msg.bare" -/
def f31_A (k : Nat) : f31_R := fun X K x0 => f31_T k K  x0
set_option maxRecDepth 100000 in
theorem f31_ev' {X : Type} (k : Nat) (K : Out → Option X) (x0 : CV) : evFn (f31_cx) [] k Try.f31.ntmps Try.f31.results.toList (Try.f31.body.getD .skip) [(.v x0)] [] K = f31_T k (fun u => K (f31_out u)) x0 := by kernel_rfl
theorem f31_ev {X : Type} (k : Nat) (K : Out → Option X) (x0 : CV) : evFn (f31_cx) [] k Try.f31.ntmps Try.f31.results.toList (Try.f31.body.getD .skip) [(.v x0)] [] K = f31_A k X (fun u => K (f31_out u)) x0 := (f31_ev' k K x0).trans rfl
theorem f31_okA (k : Nat) : AnsOk Try.prog 31 (f31_cOf (f31_A k)) := by
  intro X xs ns K x h
  unfold f31_cOf at h ⊢
  split at h
  · exact ans_main S (f31_Cok) Try.func31 (ent_of Try.func31 (by kernel_rfl) rfl) rfl (fun X K => f31_ev k K _) h
  · cases h
/-- "outpost/msg.bare" -/
def f31 {X : Type} (k : Nat) (K : Bool → Option X) (x0 : CV) : Option X := f31_A k X K x0
theorem f31_ok (k : Nat) : AnsOk Try.prog 31 (f31_cOf (fun X => @f31 X k)) := f31_okA k
abbrev f56_R : Type 1 := (X : Type) → (Bool → Option X) → CV → Option X
def f56_out (u : Bool) : Out := ⟨(.v (CV.bool u)), []⟩
def f56_cOf (R : f56_R) : FnC := fun X xs ns K => match xs, ns with
  | [(.v x0)], [] => R X (fun u => K (f56_out u)) x0
  | _, _ => none
def f56_plan : Nat → Option (List Nat × List Wk)
  | 0 => some ([0], [])
  | 1 => some ([1], [])
  | _ => none
def f56_C : Fns := noC
theorem f56_Cok : CsOk Try.prog (f56_C) := noC_ok
def f56_cx : Cx := mkCx (tabOf rows) (f56_C) md (cmpIn cmps) f56_plan (f56_Cok)
def f56_T {X : Type} (k : Nat) (K : Bool → Option X)  (x0 : CV) : Option X :=
grd (CV.isA 2 x0) <|
grd (CV.isI .i64 (CV.cellD 0 x0)) <|
grd (CV.isL none (CV.cellD 1 x0)) <|
(bif (decide ((CV.toI (CV.cellD 0 x0)) < 0)) then
K (true)
else
K ((decide ((CV.toI (CV.cellD 0 x0)) > 65535))))
/-- "outpost/opt.fault$1" -/
def f56_A (k : Nat) : f56_R := fun X K x0 => f56_T k K  x0
set_option maxRecDepth 100000 in
theorem f56_ev' {X : Type} (k : Nat) (K : Out → Option X) (x0 : CV) : evFn (f56_cx) [] k Try.f56.ntmps Try.f56.results.toList (Try.f56.body.getD .skip) [(.v x0)] [] K = f56_T k (fun u => K (f56_out u)) x0 := by kernel_rfl
theorem f56_ev {X : Type} (k : Nat) (K : Out → Option X) (x0 : CV) : evFn (f56_cx) [] k Try.f56.ntmps Try.f56.results.toList (Try.f56.body.getD .skip) [(.v x0)] [] K = f56_A k X (fun u => K (f56_out u)) x0 := (f56_ev' k K x0).trans rfl
theorem f56_okA (k : Nat) : AnsOk Try.prog 56 (f56_cOf (f56_A k)) := by
  intro X xs ns K x h
  unfold f56_cOf at h ⊢
  split at h
  · exact ans_main S (f56_Cok) Try.func56 (ent_of Try.func56 (by kernel_rfl) rfl) rfl (fun X K => f56_ev k K _) h
  · cases h
/-- "outpost/opt.fault$1" -/
def f56 {X : Type} (k : Nat) (K : Bool → Option X) (x0 : CV) : Option X := f56_A k X K x0
theorem f56_ok (k : Nat) : AnsOk Try.prog 56 (f56_cOf (fun X => @f56 X k)) := f56_okA k
abbrev f63_R : Type 1 := (X : Type) → (Int → Option X) → (List CV) → Option X
def f63_out (u : Int) : Out := ⟨(.v (CV.int .i64 u)), []⟩
def f63_cOf (R : f63_R) : FnC := fun X xs ns K => match xs, ns with
  | [(.sl false (some 2) x0), (.fn 56 [])], [] => R X (fun u => K (f63_out u)) x0
  | _, _ => none
def f63_is (xs : List AVal) (ns : Nodes) : Bool := match xs, ns with
  | [(.sl false (some 2) x0), (.fn 56 [])], [] => true
  | _, _ => false
def f63_plan : Nat → Option (List Nat × List Wk)
  | 0 => some ([0, 1], [])
  | 1 => some ([0, 1], [])
  | 2 => some ([0, 1, 7, 8], [])
  | 3 => some ([0, 1, 7, 8], [])
  | 4 => some ([0, 1, 5, 7, 8], [])
  | 5 => some ([5], [])
  | 6 => some ([0, 1, 7, 8], [])
  | 7 => some ([], [])
  | _ => none
def f63_C (R_f56 : f56_R) : Fns := (orC 56 (f56_cOf R_f56) noC)
theorem f63_Cok (R_f56 : f56_R) (hR_f56 : AnsOk Try.prog 56 (f56_cOf R_f56)) : CsOk Try.prog (f63_C R_f56) := (orC_ok hR_f56 noC_ok)
def f63_cx (R_f56 : f56_R) (hR_f56 : AnsOk Try.prog 56 (f56_cOf R_f56)) : Cx := mkCx (tabOf rows) (f63_C R_f56) md (cmpIn cmps) f63_plan (f63_Cok R_f56 hR_f56)
def f63_S1 (v : (List CV) × Int × Int) : St := ⟨[(.sl false (some 2) v.1), (.fn 56 []), .undef, .undef, .undef, .undef, .undef, (.v (CV.int .i64 v.2.1)), (.v (CV.int .i64 v.2.2)), .undef, .undef, .undef, .undef, .undef, .undef, .undef, .undef, .undef, .undef], []⟩
def f63_T1 {X : Type} (R_f56 : f56_R) (k : Nat) (K : Int → Option X)   (rec1 : (List CV) × Int × Int → Option X) (v4_0 : (List CV) × Int × Int) : Option X :=
(bif (decide (v4_0.2.2 < v4_0.2.1)) then
grd (decide (0 ≤ v4_0.2.2)) <|
Option.bind (v4_0.1)[(Int.toNat v4_0.2.2)]? fun e8 =>
R_f56 _ (fun u9 =>
(bif u9 then
K (v4_0.2.2)
else
rec1 (v4_0.1, v4_0.2.1, (IntKind.wrap .i64 (v4_0.2.2 + 1))))) (e8)
else
K ((-1)))
def f63_L1 {X : Type} (R_f56 : f56_R) (k : Nat) (K : Int → Option X)  (rec1 : (List CV) × Int × Int → Option X) (v : (List CV) × Int × Int) : Option X := f63_T1 R_f56 k K   rec1 v
set_option maxRecDepth 100000 in
theorem f63_L1_ev {X : Type} (R_f56 : f56_R) (hR_f56 : AnsOk Try.prog 56 (f56_cOf R_f56)) (k : Nat) (K : Out → Option X)  (r1 : St → Option X) (v : (List CV) × Int × Int) : loopB (f63_cx R_f56 hR_f56) k [.r, .l, .r, .b] (Try.f63.body.getD .skip) (retK (f63_cx R_f56 hR_f56) [] Try.f63.results.toList K) [] r1 (f63_S1 v) = f63_T1 R_f56 k (fun u => K (f63_out u))   (fun v => r1 (f63_S1 v)) v := by kernel_rfl
theorem f63_L1_it {X : Type} (R_f56 : f56_R) (hR_f56 : AnsOk Try.prog 56 (f56_cOf R_f56)) (k : Nat) (K : Out → Option X)  : (fun v => iter (loopB (f63_cx R_f56 hR_f56) k [.r, .l, .r, .b] (Try.f63.body.getD .skip) (retK (f63_cx R_f56 hR_f56) [] Try.f63.results.toList K) []) k (f63_S1 v)) = iterV (f63_L1 R_f56 k (fun u => K (f63_out u)) ) k :=
  iter_map (fun r1 v => (f63_L1_ev R_f56 hR_f56 k K  r1 v).trans rfl) k
def f63_T {X : Type} (R_f56 : f56_R) (k : Nat) (K : Int → Option X) (loop1 : (List CV) × Int × Int → Option X) (x0 : List CV) : Option X :=
loop1 (x0, (Nat.cast ((List.length x0)) : Int), 0)
/-- "slices.IndexFunc[[]outpost/api.Opt,outpost/api.Opt]" -/
def f63_A (R_f56 : f56_R) (k : Nat) : f63_R := fun X K x0 => f63_T R_f56 k K (iterV (f63_L1 R_f56 k K) k) x0
set_option maxRecDepth 100000 in
theorem f63_ev' {X : Type} (R_f56 : f56_R) (hR_f56 : AnsOk Try.prog 56 (f56_cOf R_f56)) (k : Nat) (K : Out → Option X) (x0 : List CV) : evFn (f63_cx R_f56 hR_f56) [] k Try.f63.ntmps Try.f63.results.toList (Try.f63.body.getD .skip) [(.sl false (some 2) x0), (.fn 56 [])] [] K = f63_T R_f56 k (fun u => K (f63_out u)) (fun v => iter (loopB (f63_cx R_f56 hR_f56) k [.r, .l, .r, .b] (Try.f63.body.getD .skip) (retK (f63_cx R_f56 hR_f56) [] Try.f63.results.toList K) []) k (f63_S1 v)) x0 := by kernel_rfl
theorem f63_ev {X : Type} (R_f56 : f56_R) (hR_f56 : AnsOk Try.prog 56 (f56_cOf R_f56)) (k : Nat) (K : Out → Option X) (x0 : List CV) : evFn (f63_cx R_f56 hR_f56) [] k Try.f63.ntmps Try.f63.results.toList (Try.f63.body.getD .skip) [(.sl false (some 2) x0), (.fn 56 [])] [] K = f63_A R_f56 k X (fun u => K (f63_out u)) x0 := (f63_ev' R_f56 hR_f56 k K x0).trans (by rw [f63_L1_it R_f56 hR_f56 k K]; rfl)
theorem f63_okA (R_f56 : f56_R) (hR_f56 : AnsOk Try.prog 56 (f56_cOf R_f56)) (k : Nat) : AnsOk Try.prog 63 (f63_cOf (f63_A R_f56 k)) := by
  intro X xs ns K x h
  unfold f63_cOf at h ⊢
  split at h
  · exact ans_main S (f63_Cok R_f56 hR_f56) Try.func63 (ent_of Try.func63 (by kernel_rfl) rfl) rfl (fun X K => f63_ev R_f56 hR_f56 k K _) h
  · cases h
/-- "slices.IndexFunc[[]outpost/api.Opt,outpost/api.Opt]" -/
def f63 {X : Type} (k : Nat) (K : Int → Option X) (x0 : List CV) : Option X := f63_A (fun X => @f56 X k) k X K x0
theorem f63_ok (k : Nat) : AnsOk Try.prog 63 (f63_cOf (fun X => @f63 X k)) := f63_okA (fun X => @f56 X k) (f56_ok k) k
abbrev f55_R : Type 1 := (X : Type) → (Bool → Option X) → (List CV) → Option X
def f55_out (u : Bool) : Out := ⟨(.v (CV.bool u)), []⟩
def f55_cOf (R : f55_R) : FnC := fun X xs ns K => match xs, ns with
  | [(.sl false (some 2) x0), (.fn 56 [])], [] => R X (fun u => K (f55_out u)) x0
  | _, _ => none
def f55_is (xs : List AVal) (ns : Nodes) : Bool := match xs, ns with
  | [(.sl false (some 2) x0), (.fn 56 [])], [] => true
  | _, _ => false
def f55_plan : Nat → Option (List Nat × List Wk)
  | 0 => some ([0, 1], [])
  | 1 => some ([0, 1], [])
  | _ => none
def f55_C (R_f63 : f63_R) : Fns := (orC 63 (f63_cOf R_f63) noC)
theorem f55_Cok (R_f63 : f63_R) (hR_f63 : AnsOk Try.prog 63 (f63_cOf R_f63)) : CsOk Try.prog (f55_C R_f63) := (orC_ok hR_f63 noC_ok)
def f55_cx (R_f63 : f63_R) (hR_f63 : AnsOk Try.prog 63 (f63_cOf R_f63)) : Cx := mkCx (tabOf rows) (f55_C R_f63) md (cmpIn cmps) f55_plan (f55_Cok R_f63 hR_f63)
def f55_T {X : Type} (R_f63 : f63_R) (k : Nat) (K : Bool → Option X)  (x0 : List CV) : Option X :=
R_f63 _ (fun u1 =>
K ((decide (u1 ≥ 0)))) (x0)
/-- "slices.ContainsFunc[[]outpost/api.Opt,outpost/api.Opt]" -/
def f55_A (R_f63 : f63_R) (k : Nat) : f55_R := fun X K x0 => f55_T R_f63 k K  x0
set_option maxRecDepth 100000 in
theorem f55_ev' {X : Type} (R_f63 : f63_R) (hR_f63 : AnsOk Try.prog 63 (f63_cOf R_f63)) (k : Nat) (K : Out → Option X) (x0 : List CV) : evFn (f55_cx R_f63 hR_f63) [] k Try.f55.ntmps Try.f55.results.toList (Try.f55.body.getD .skip) [(.sl false (some 2) x0), (.fn 56 [])] [] K = f55_T R_f63 k (fun u => K (f55_out u)) x0 := by kernel_rfl
theorem f55_ev {X : Type} (R_f63 : f63_R) (hR_f63 : AnsOk Try.prog 63 (f63_cOf R_f63)) (k : Nat) (K : Out → Option X) (x0 : List CV) : evFn (f55_cx R_f63 hR_f63) [] k Try.f55.ntmps Try.f55.results.toList (Try.f55.body.getD .skip) [(.sl false (some 2) x0), (.fn 56 [])] [] K = f55_A R_f63 k X (fun u => K (f55_out u)) x0 := (f55_ev' R_f63 hR_f63 k K x0).trans rfl
theorem f55_okA (R_f63 : f63_R) (hR_f63 : AnsOk Try.prog 63 (f63_cOf R_f63)) (k : Nat) : AnsOk Try.prog 55 (f55_cOf (f55_A R_f63 k)) := by
  intro X xs ns K x h
  unfold f55_cOf at h ⊢
  split at h
  · exact ans_main S (f55_Cok R_f63 hR_f63) Try.func55 (ent_of Try.func55 (by kernel_rfl) rfl) rfl (fun X K => f55_ev R_f63 hR_f63 k K _) h
  · cases h
/-- "slices.ContainsFunc[[]outpost/api.Opt,outpost/api.Opt]" -/
def f55 {X : Type} (k : Nat) (K : Bool → Option X) (x0 : List CV) : Option X := f55_A (fun X => @f63 X k) k X K x0
theorem f55_ok (k : Nat) : AnsOk Try.prog 55 (f55_cOf (fun X => @f55 X k)) := f55_okA (fun X => @f63 X k) (f63_ok k) k
abbrev f57_R : Type 1 := (X : Type) → (Bool → Option X) → CV → Option X
def f57_out (u : Bool) : Out := ⟨(.v (CV.bool u)), []⟩
def f57_cOf (R : f57_R) : FnC := fun X xs ns K => match xs, ns with
  | [(.v x0)], [] => R X (fun u => K (f57_out u)) x0
  | _, _ => none
def f57_plan : Nat → Option (List Nat × List Wk)
  | 0 => some ([0], [])
  | 1 => some ([1], [])
  | _ => none
def f57_C : Fns := noC
theorem f57_Cok : CsOk Try.prog (f57_C) := noC_ok
def f57_cx : Cx := mkCx (tabOf rows) (f57_C) md (cmpIn cmps) f57_plan (f57_Cok)
def f57_T {X : Type} (k : Nat) (K : Bool → Option X)  (x0 : CV) : Option X :=
grd (CV.isA 2 x0) <|
grd (CV.isI .i64 (CV.cellD 0 x0)) <|
grd (CV.isL none (CV.cellD 1 x0)) <|
K ((decide ((Nat.cast ((List.length (CV.toL (CV.cellD 1 x0)))) : Int) > 300)))
/-- "outpost/opt.fault$2" -/
def f57_A (k : Nat) : f57_R := fun X K x0 => f57_T k K  x0
set_option maxRecDepth 100000 in
theorem f57_ev' {X : Type} (k : Nat) (K : Out → Option X) (x0 : CV) : evFn (f57_cx) [] k Try.f57.ntmps Try.f57.results.toList (Try.f57.body.getD .skip) [(.v x0)] [] K = f57_T k (fun u => K (f57_out u)) x0 := by kernel_rfl
theorem f57_ev {X : Type} (k : Nat) (K : Out → Option X) (x0 : CV) : evFn (f57_cx) [] k Try.f57.ntmps Try.f57.results.toList (Try.f57.body.getD .skip) [(.v x0)] [] K = f57_A k X (fun u => K (f57_out u)) x0 := (f57_ev' k K x0).trans rfl
theorem f57_okA (k : Nat) : AnsOk Try.prog 57 (f57_cOf (f57_A k)) := by
  intro X xs ns K x h
  unfold f57_cOf at h ⊢
  split at h
  · exact ans_main S (f57_Cok) Try.func57 (ent_of Try.func57 (by kernel_rfl) rfl) rfl (fun X K => f57_ev k K _) h
  · cases h
/-- "outpost/opt.fault$2" -/
def f57 {X : Type} (k : Nat) (K : Bool → Option X) (x0 : CV) : Option X := f57_A k X K x0
theorem f57_ok (k : Nat) : AnsOk Try.prog 57 (f57_cOf (fun X => @f57 X k)) := f57_okA k
abbrev f63b_R : Type 1 := (X : Type) → (Int → Option X) → (List CV) → Option X
def f63b_out (u : Int) : Out := ⟨(.v (CV.int .i64 u)), []⟩
def f63b_cOf (R : f63b_R) : FnC := fun X xs ns K => match xs, ns with
  | [(.sl false (some 2) x0), (.fn 57 [])], [] => R X (fun u => K (f63b_out u)) x0
  | _, _ => none
def f63b_is (xs : List AVal) (ns : Nodes) : Bool := match xs, ns with
  | [(.sl false (some 2) x0), (.fn 57 [])], [] => true
  | _, _ => false
def f63b_plan : Nat → Option (List Nat × List Wk)
  | 0 => some ([0, 1], [])
  | 1 => some ([0, 1], [])
  | 2 => some ([0, 1, 7, 8], [])
  | 3 => some ([0, 1, 7, 8], [])
  | 4 => some ([0, 1, 5, 7, 8], [])
  | 5 => some ([5], [])
  | 6 => some ([0, 1, 7, 8], [])
  | 7 => some ([], [])
  | _ => none
def f63b_C (R_f57 : f57_R) : Fns := (orC 57 (f57_cOf R_f57) noC)
theorem f63b_Cok (R_f57 : f57_R) (hR_f57 : AnsOk Try.prog 57 (f57_cOf R_f57)) : CsOk Try.prog (f63b_C R_f57) := (orC_ok hR_f57 noC_ok)
def f63b_cx (R_f57 : f57_R) (hR_f57 : AnsOk Try.prog 57 (f57_cOf R_f57)) : Cx := mkCx (tabOf rows) (f63b_C R_f57) md (cmpIn cmps) f63b_plan (f63b_Cok R_f57 hR_f57)
def f63b_S1 (v : (List CV) × Int × Int) : St := ⟨[(.sl false (some 2) v.1), (.fn 57 []), .undef, .undef, .undef, .undef, .undef, (.v (CV.int .i64 v.2.1)), (.v (CV.int .i64 v.2.2)), .undef, .undef, .undef, .undef, .undef, .undef, .undef, .undef, .undef, .undef], []⟩
def f63b_T1 {X : Type} (R_f57 : f57_R) (k : Nat) (K : Int → Option X)   (rec1 : (List CV) × Int × Int → Option X) (v4_0 : (List CV) × Int × Int) : Option X :=
(bif (decide (v4_0.2.2 < v4_0.2.1)) then
grd (decide (0 ≤ v4_0.2.2)) <|
Option.bind (v4_0.1)[(Int.toNat v4_0.2.2)]? fun e8 =>
R_f57 _ (fun u9 =>
(bif u9 then
K (v4_0.2.2)
else
rec1 (v4_0.1, v4_0.2.1, (IntKind.wrap .i64 (v4_0.2.2 + 1))))) (e8)
else
K ((-1)))
def f63b_L1 {X : Type} (R_f57 : f57_R) (k : Nat) (K : Int → Option X)  (rec1 : (List CV) × Int × Int → Option X) (v : (List CV) × Int × Int) : Option X := f63b_T1 R_f57 k K   rec1 v
set_option maxRecDepth 100000 in
theorem f63b_L1_ev {X : Type} (R_f57 : f57_R) (hR_f57 : AnsOk Try.prog 57 (f57_cOf R_f57)) (k : Nat) (K : Out → Option X)  (r1 : St → Option X) (v : (List CV) × Int × Int) : loopB (f63b_cx R_f57 hR_f57) k [.r, .l, .r, .b] (Try.f63.body.getD .skip) (retK (f63b_cx R_f57 hR_f57) [] Try.f63.results.toList K) [] r1 (f63b_S1 v) = f63b_T1 R_f57 k (fun u => K (f63b_out u))   (fun v => r1 (f63b_S1 v)) v := by kernel_rfl
theorem f63b_L1_it {X : Type} (R_f57 : f57_R) (hR_f57 : AnsOk Try.prog 57 (f57_cOf R_f57)) (k : Nat) (K : Out → Option X)  : (fun v => iter (loopB (f63b_cx R_f57 hR_f57) k [.r, .l, .r, .b] (Try.f63.body.getD .skip) (retK (f63b_cx R_f57 hR_f57) [] Try.f63.results.toList K) []) k (f63b_S1 v)) = iterV (f63b_L1 R_f57 k (fun u => K (f63b_out u)) ) k :=
  iter_map (fun r1 v => (f63b_L1_ev R_f57 hR_f57 k K  r1 v).trans rfl) k
def f63b_T {X : Type} (R_f57 : f57_R) (k : Nat) (K : Int → Option X) (loop1 : (List CV) × Int × Int → Option X) (x0 : List CV) : Option X :=
loop1 (x0, (Nat.cast ((List.length x0)) : Int), 0)
/-- "slices.IndexFunc[[]outpost/api.Opt,outpost/api.Opt]" -/
def f63b_A (R_f57 : f57_R) (k : Nat) : f63b_R := fun X K x0 => f63b_T R_f57 k K (iterV (f63b_L1 R_f57 k K) k) x0
set_option maxRecDepth 100000 in
theorem f63b_ev' {X : Type} (R_f57 : f57_R) (hR_f57 : AnsOk Try.prog 57 (f57_cOf R_f57)) (k : Nat) (K : Out → Option X) (x0 : List CV) : evFn (f63b_cx R_f57 hR_f57) [] k Try.f63.ntmps Try.f63.results.toList (Try.f63.body.getD .skip) [(.sl false (some 2) x0), (.fn 57 [])] [] K = f63b_T R_f57 k (fun u => K (f63b_out u)) (fun v => iter (loopB (f63b_cx R_f57 hR_f57) k [.r, .l, .r, .b] (Try.f63.body.getD .skip) (retK (f63b_cx R_f57 hR_f57) [] Try.f63.results.toList K) []) k (f63b_S1 v)) x0 := by kernel_rfl
theorem f63b_ev {X : Type} (R_f57 : f57_R) (hR_f57 : AnsOk Try.prog 57 (f57_cOf R_f57)) (k : Nat) (K : Out → Option X) (x0 : List CV) : evFn (f63b_cx R_f57 hR_f57) [] k Try.f63.ntmps Try.f63.results.toList (Try.f63.body.getD .skip) [(.sl false (some 2) x0), (.fn 57 [])] [] K = f63b_A R_f57 k X (fun u => K (f63b_out u)) x0 := (f63b_ev' R_f57 hR_f57 k K x0).trans (by rw [f63b_L1_it R_f57 hR_f57 k K]; rfl)
theorem f63b_okA (R_f57 : f57_R) (hR_f57 : AnsOk Try.prog 57 (f57_cOf R_f57)) (k : Nat) : AnsOk Try.prog 63 (f63b_cOf (f63b_A R_f57 k)) := by
  intro X xs ns K x h
  unfold f63b_cOf at h ⊢
  split at h
  · exact ans_main S (f63b_Cok R_f57 hR_f57) Try.func63 (ent_of Try.func63 (by kernel_rfl) rfl) rfl (fun X K => f63b_ev R_f57 hR_f57 k K _) h
  · cases h
/-- "slices.IndexFunc[[]outpost/api.Opt,outpost/api.Opt]" -/
def f63b {X : Type} (k : Nat) (K : Int → Option X) (x0 : List CV) : Option X := f63b_A (fun X => @f57 X k) k X K x0
theorem f63b_ok (k : Nat) : AnsOk Try.prog 63 (f63b_cOf (fun X => @f63b X k)) := f63b_okA (fun X => @f57 X k) (f57_ok k) k
abbrev f55b_R : Type 1 := (X : Type) → (Bool → Option X) → (List CV) → Option X
def f55b_out (u : Bool) : Out := ⟨(.v (CV.bool u)), []⟩
def f55b_cOf (R : f55b_R) : FnC := fun X xs ns K => match xs, ns with
  | [(.sl false (some 2) x0), (.fn 57 [])], [] => R X (fun u => K (f55b_out u)) x0
  | _, _ => none
def f55b_is (xs : List AVal) (ns : Nodes) : Bool := match xs, ns with
  | [(.sl false (some 2) x0), (.fn 57 [])], [] => true
  | _, _ => false
def f55b_plan : Nat → Option (List Nat × List Wk)
  | 0 => some ([0, 1], [])
  | 1 => some ([0, 1], [])
  | _ => none
def f55b_C (R_f63b : f63b_R) : Fns := (orC 63 (f63b_cOf R_f63b) noC)
theorem f55b_Cok (R_f63b : f63b_R) (hR_f63b : AnsOk Try.prog 63 (f63b_cOf R_f63b)) : CsOk Try.prog (f55b_C R_f63b) := (orC_ok hR_f63b noC_ok)
def f55b_cx (R_f63b : f63b_R) (hR_f63b : AnsOk Try.prog 63 (f63b_cOf R_f63b)) : Cx := mkCx (tabOf rows) (f55b_C R_f63b) md (cmpIn cmps) f55b_plan (f55b_Cok R_f63b hR_f63b)
def f55b_T {X : Type} (R_f63b : f63b_R) (k : Nat) (K : Bool → Option X)  (x0 : List CV) : Option X :=
R_f63b _ (fun u1 =>
K ((decide (u1 ≥ 0)))) (x0)
/-- "slices.ContainsFunc[[]outpost/api.Opt,outpost/api.Opt]" -/
def f55b_A (R_f63b : f63b_R) (k : Nat) : f55b_R := fun X K x0 => f55b_T R_f63b k K  x0
set_option maxRecDepth 100000 in
theorem f55b_ev' {X : Type} (R_f63b : f63b_R) (hR_f63b : AnsOk Try.prog 63 (f63b_cOf R_f63b)) (k : Nat) (K : Out → Option X) (x0 : List CV) : evFn (f55b_cx R_f63b hR_f63b) [] k Try.f55.ntmps Try.f55.results.toList (Try.f55.body.getD .skip) [(.sl false (some 2) x0), (.fn 57 [])] [] K = f55b_T R_f63b k (fun u => K (f55b_out u)) x0 := by kernel_rfl
theorem f55b_ev {X : Type} (R_f63b : f63b_R) (hR_f63b : AnsOk Try.prog 63 (f63b_cOf R_f63b)) (k : Nat) (K : Out → Option X) (x0 : List CV) : evFn (f55b_cx R_f63b hR_f63b) [] k Try.f55.ntmps Try.f55.results.toList (Try.f55.body.getD .skip) [(.sl false (some 2) x0), (.fn 57 [])] [] K = f55b_A R_f63b k X (fun u => K (f55b_out u)) x0 := (f55b_ev' R_f63b hR_f63b k K x0).trans rfl
theorem f55b_okA (R_f63b : f63b_R) (hR_f63b : AnsOk Try.prog 63 (f63b_cOf R_f63b)) (k : Nat) : AnsOk Try.prog 55 (f55b_cOf (f55b_A R_f63b k)) := by
  intro X xs ns K x h
  unfold f55b_cOf at h ⊢
  split at h
  · exact ans_main S (f55b_Cok R_f63b hR_f63b) Try.func55 (ent_of Try.func55 (by kernel_rfl) rfl) rfl (fun X K => f55b_ev R_f63b hR_f63b k K _) h
  · cases h
/-- "slices.ContainsFunc[[]outpost/api.Opt,outpost/api.Opt]" -/
def f55b {X : Type} (k : Nat) (K : Bool → Option X) (x0 : List CV) : Option X := f55b_A (fun X => @f63b X k) k X K x0
theorem f55b_ok (k : Nat) : AnsOk Try.prog 55 (f55b_cOf (fun X => @f55b X k)) := f55b_okA (fun X => @f63b X k) (f63b_ok k) k
abbrev f48_R : Type 1 := (X : Type) → (Int → Option X) → (List CV) → Option X
def f48_out (u : Int) : Out := ⟨(.v (CV.int .i64 u)), []⟩
def f48_cOf (R : f48_R) : FnC := fun X xs ns K => match xs, ns with
  | [(.sl false (some 2) x0)], [] => R X (fun u => K (f48_out u)) x0
  | _, _ => none
def f48_plan : Nat → Option (List Nat × List Wk)
  | 0 => some ([0], [])
  | 1 => some ([0], [])
  | 2 => some ([], [])
  | 3 => some ([0], [])
  | 4 => some ([], [])
  | 5 => some ([0], [])
  | 6 => some ([], [])
  | 7 => some ([], [])
  | _ => none
def f48_C (R_f55 : f55_R) (R_f55b : f55b_R) : Fns := (orC 55 (orF (f55b_cOf R_f55b) (f55_cOf R_f55) f55b_is) noC)
theorem f48_Cok (R_f55 : f55_R) (R_f55b : f55b_R) (hR_f55 : AnsOk Try.prog 55 (f55_cOf R_f55)) (hR_f55b : AnsOk Try.prog 55 (f55b_cOf R_f55b)) : CsOk Try.prog (f48_C R_f55 R_f55b) := (orC_ok (orF_ok hR_f55b hR_f55) noC_ok)
def f48_cx (R_f55 : f55_R) (R_f55b : f55b_R) (hR_f55 : AnsOk Try.prog 55 (f55_cOf R_f55)) (hR_f55b : AnsOk Try.prog 55 (f55b_cOf R_f55b)) : Cx := mkCx (tabOf rows) (f48_C R_f55 R_f55b) md (cmpIn cmps) f48_plan (f48_Cok R_f55 R_f55b hR_f55 hR_f55b)
def f48_T {X : Type} (R_f55 : f55_R) (R_f55b : f55b_R) (k : Nat) (K : Int → Option X)  (x0 : List CV) : Option X :=
(bif (decide ((Nat.cast ((List.length x0)) : Int) > 24)) then
K (3)
else
R_f55 _ (fun u2 =>
(bif u2 then
K (1)
else
R_f55b _ (fun u4 =>
(bif u4 then
K (2)
else
K (0))) (x0))) (x0))
/-- "outpost/opt.fault" -/
def f48_A (R_f55 : f55_R) (R_f55b : f55b_R) (k : Nat) : f48_R := fun X K x0 => f48_T R_f55 R_f55b k K  x0
set_option maxRecDepth 100000 in
theorem f48_ev' {X : Type} (R_f55 : f55_R) (R_f55b : f55b_R) (hR_f55 : AnsOk Try.prog 55 (f55_cOf R_f55)) (hR_f55b : AnsOk Try.prog 55 (f55b_cOf R_f55b)) (k : Nat) (K : Out → Option X) (x0 : List CV) : evFn (f48_cx R_f55 R_f55b hR_f55 hR_f55b) [] k Try.f48.ntmps Try.f48.results.toList (Try.f48.body.getD .skip) [(.sl false (some 2) x0)] [] K = f48_T R_f55 R_f55b k (fun u => K (f48_out u)) x0 := by kernel_rfl
theorem f48_ev {X : Type} (R_f55 : f55_R) (R_f55b : f55b_R) (hR_f55 : AnsOk Try.prog 55 (f55_cOf R_f55)) (hR_f55b : AnsOk Try.prog 55 (f55b_cOf R_f55b)) (k : Nat) (K : Out → Option X) (x0 : List CV) : evFn (f48_cx R_f55 R_f55b hR_f55 hR_f55b) [] k Try.f48.ntmps Try.f48.results.toList (Try.f48.body.getD .skip) [(.sl false (some 2) x0)] [] K = f48_A R_f55 R_f55b k X (fun u => K (f48_out u)) x0 := (f48_ev' R_f55 R_f55b hR_f55 hR_f55b k K x0).trans rfl
theorem f48_okA (R_f55 : f55_R) (R_f55b : f55b_R) (hR_f55 : AnsOk Try.prog 55 (f55_cOf R_f55)) (hR_f55b : AnsOk Try.prog 55 (f55b_cOf R_f55b)) (k : Nat) : AnsOk Try.prog 48 (f48_cOf (f48_A R_f55 R_f55b k)) := by
  intro X xs ns K x h
  unfold f48_cOf at h ⊢
  split at h
  · exact ans_main S (f48_Cok R_f55 R_f55b hR_f55 hR_f55b) Try.func48 (ent_of Try.func48 (by kernel_rfl) rfl) rfl (fun X K => f48_ev R_f55 R_f55b hR_f55 hR_f55b k K _) h
  · cases h
/-- "outpost/opt.fault" -/
def f48 {X : Type} (k : Nat) (K : Int → Option X) (x0 : List CV) : Option X := f48_A (fun X => @f55 X k) (fun X => @f55b X k) k X K x0
theorem f48_ok (k : Nat) : AnsOk Try.prog 48 (f48_cOf (fun X => @f48 X k)) := f48_okA (fun X => @f55 X k) (fun X => @f55b X k) (f55_ok k) (f55b_ok k) k
def f58_plan : Nat → Option (List Nat × List Wk)
  | 0 => some ([0], [])
  | 1 => some ([0], [])
  | 2 => some ([], [])
  | 3 => some ([0], [])
  | _ => none
def f58_cx : Cx := mkCx (tabOf rows) noC md (cmpIn cmps) f58_plan (noC_ok (P := Try.prog))
/-- "slices.Clone[[]outpost/api.Opt,outpost/api.Opt]" -/
def f58 {X : Type} (k : Nat) (K : List CV → Option X) (x0 : List CV) : Option X := grd (decide ((0 + List.length x0) * 32 ≤ 140737488355328)) (K x0)
def f58_out (u : List CV) : Out := ⟨.osl [2000] (some 2) 0 (List.length u), [([2000], .row false (some 2) u)]⟩
set_option maxRecDepth 100000 in
theorem f58_fn (x0 : List CV) (hl : (decide ((0 + List.length x0) * 32 ≤ 140737488355328)) = true) : FnOk Try.prog 58 [.sl false (some 2) x0] [] (f58_out x0) := by
  refine nilsplit (cx := f58_cx) (xs := x0) (p := false) (sh := (some 2)) (fuel := 1) (ws := [⟨0, [], some [2000]⟩]) (tabOf_tabOk S.hr) (tabOf_noOther S.hr) (CsOk.fns (noC_ok (P := Try.prog)) (cmpsAre_ok cmps_ok)) S.hm Try.func58 rfl rfl Try.underlying23 (s1 := ⟨[(.sl false (some 2) x0), .undef, (.nil0 (some 2)), .undef, .undef, .undef, .undef, .undef], []⟩) (s2 := ⟨[(.sl false (some 2) x0), .undef, .undef, .undef, .undef, .undef, .undef, .undef], []⟩) (s3 := ⟨[(.sl false (some 2) x0), .undef, .undef, (.sl false (some 2) x0), .undef, .undef, .undef, .undef], []⟩) ?_ ?_ ?_ rfl ?_ (fun h => ?_) ⟨rfl, rfl⟩
  · kernel_rfl
  · kernel_rfl
  · kernel_rfl
  · refine Eq.trans (b := grd (decide ((0 + List.length x0) * 32 ≤ 140737488355328)) (some ⟨.osl [2000] (some 2) 0 (0 + List.length x0), [([2000], .row false (some 2) (List.take (0 + (0 + List.length x0)) (List.take 0 [] ++ x0)))]⟩)) (by kernel_rfl) ?_
    rw [hl]
    simp [grd, f58_out]
  · subst h
    kernel_rfl
abbrev f58_R : Type 1 := (X : Type) → (List CV → Option X) → List CV → Option X
def f58_cOf (R : f58_R) : FnC := fun X xs ns K => match xs, ns with
  | [.sl false (some 2) x0], [] => R X (fun u => K (f58_out u)) x0
  | _, _ => none
theorem f58_ok (k : Nat) : AnsOk Try.prog 58 (f58_cOf (fun X => @f58 X k)) := by
  intro X xs ns K x h
  unfold f58_cOf at h ⊢
  split at h
  · next x0 =>
    obtain ⟨h1, h2⟩ := grd_some (show grd (decide ((0 + List.length x0) * 32 ≤ 140737488355328)) (K (f58_out x0)) = some x from h)
    exact ⟨trivial, _, (f58_fn x0 h1).toX (ent_of Try.func58 (by kernel_rfl) rfl), h2, fun Y K' => by show grd _ _ = _; rw [h1]; rfl⟩
  · cases h
abbrev f65_R : Type 1 := (X : Type) → (Bool → Option X) → Int → Option X
def f65_out (u : Bool) : Out := ⟨(.v (CV.bool u)), []⟩
def f65_cOf (R : f65_R) : FnC := fun X xs ns K => match xs, ns with
  | [(.v (CV.int .i64 x0))], [] => R X (fun u => K (f65_out u)) x0
  | _, _ => none
def f65_plan : Nat → Option (List Nat × List Wk)
  | 0 => some ([0], [])
  | 1 => some ([0], [])
  | _ => none
def f65_C : Fns := noC
theorem f65_Cok : CsOk Try.prog (f65_C) := noC_ok
def f65_cx : Cx := mkCx (tabOf rows) (f65_C) md (cmpIn cmps) f65_plan (f65_Cok)
def f65_T {X : Type} (k : Nat) (K : Bool → Option X)  (x0 : Int) : Option X :=
K ((x0 != x0))
/-- "cmp.isNaN[int]" -/
def f65_A (k : Nat) : f65_R := fun X K x0 => f65_T k K  x0
set_option maxRecDepth 100000 in
theorem f65_ev' {X : Type} (k : Nat) (K : Out → Option X) (x0 : Int) : evFn (f65_cx) [] k Try.f65.ntmps Try.f65.results.toList (Try.f65.body.getD .skip) [(.v (CV.int .i64 x0))] [] K = f65_T k (fun u => K (f65_out u)) x0 := by kernel_rfl
theorem f65_ev {X : Type} (k : Nat) (K : Out → Option X) (x0 : Int) : evFn (f65_cx) [] k Try.f65.ntmps Try.f65.results.toList (Try.f65.body.getD .skip) [(.v (CV.int .i64 x0))] [] K = f65_A k X (fun u => K (f65_out u)) x0 := (f65_ev' k K x0).trans rfl
theorem f65_okA (k : Nat) : AnsOk Try.prog 65 (f65_cOf (f65_A k)) := by
  intro X xs ns K x h
  unfold f65_cOf at h ⊢
  split at h
  · exact ans_main S (f65_Cok) Try.func65 (ent_of Try.func65 (by kernel_rfl) rfl) rfl (fun X K => f65_ev k K _) h
  · cases h
/-- "cmp.isNaN[int]" -/
def f65 {X : Type} (k : Nat) (K : Bool → Option X) (x0 : Int) : Option X := f65_A k X K x0
theorem f65_ok (k : Nat) : AnsOk Try.prog 65 (f65_cOf (fun X => @f65 X k)) := f65_okA k
abbrev f61_R : Type 1 := (X : Type) → (Int → Option X) → Int → Int → Option X
def f61_out (u : Int) : Out := ⟨(.v (CV.int .i64 u)), []⟩
def f61_cOf (R : f61_R) : FnC := fun X xs ns K => match xs, ns with
  | [(.v (CV.int .i64 x0)), (.v (CV.int .i64 x1))], [] => R X (fun u => K (f61_out u)) x0 x1
  | _, _ => none
def f61_plan : Nat → Option (List Nat × List Wk)
  | 0 => some ([0, 1], [])
  | 1 => some ([0, 1], [])
  | 2 => some ([0, 1, 5], [])
  | 3 => some ([0, 1, 5, 6], [])
  | 4 => some ([6], [])
  | 5 => some ([], [])
  | 6 => some ([], [])
  | 7 => some ([0, 1, 6], [])
  | 8 => some ([], [])
  | 9 => some ([0, 1], [])
  | 10 => some ([], [])
  | 11 => some ([0, 1], [])
  | 12 => some ([], [])
  | 13 => some ([], [])
  | _ => none
def f61_C (R_f65 : f65_R) : Fns := (orC 65 (f65_cOf R_f65) noC)
theorem f61_Cok (R_f65 : f65_R) (hR_f65 : AnsOk Try.prog 65 (f65_cOf R_f65)) : CsOk Try.prog (f61_C R_f65) := (orC_ok hR_f65 noC_ok)
def f61_cx (R_f65 : f65_R) (hR_f65 : AnsOk Try.prog 65 (f65_cOf R_f65)) : Cx := mkCx (tabOf rows) (f61_C R_f65) md (cmpIn cmps) f61_plan (f61_Cok R_f65 hR_f65)
def f61_T {X : Type} (R_f65 : f65_R) (k : Nat) (K : Int → Option X)  (x0 : Int) (x1 : Int) : Option X :=
R_f65 _ (fun u1 =>
R_f65 _ (fun u2 =>
(bif u1 then
(bif u2 then
K (0)
else
K ((-1)))
else
(bif u2 then
K (1)
else
(bif (decide (x0 < x1)) then
K ((-1))
else
(bif (decide (x0 > x1)) then
K (1)
else
K (0)))))) (x1)) (x0)
/-- "cmp.Compare[int]" -/
def f61_A (R_f65 : f65_R) (k : Nat) : f61_R := fun X K x0 x1 => f61_T R_f65 k K  x0 x1
set_option maxRecDepth 100000 in
theorem f61_ev' {X : Type} (R_f65 : f65_R) (hR_f65 : AnsOk Try.prog 65 (f65_cOf R_f65)) (k : Nat) (K : Out → Option X) (x0 : Int) (x1 : Int) : evFn (f61_cx R_f65 hR_f65) [] k Try.f61.ntmps Try.f61.results.toList (Try.f61.body.getD .skip) [(.v (CV.int .i64 x0)), (.v (CV.int .i64 x1))] [] K = f61_T R_f65 k (fun u => K (f61_out u)) x0 x1 := by kernel_rfl
theorem f61_ev {X : Type} (R_f65 : f65_R) (hR_f65 : AnsOk Try.prog 65 (f65_cOf R_f65)) (k : Nat) (K : Out → Option X) (x0 : Int) (x1 : Int) : evFn (f61_cx R_f65 hR_f65) [] k Try.f61.ntmps Try.f61.results.toList (Try.f61.body.getD .skip) [(.v (CV.int .i64 x0)), (.v (CV.int .i64 x1))] [] K = f61_A R_f65 k X (fun u => K (f61_out u)) x0 x1 := (f61_ev' R_f65 hR_f65 k K x0 x1).trans rfl
theorem f61_okA (R_f65 : f65_R) (hR_f65 : AnsOk Try.prog 65 (f65_cOf R_f65)) (k : Nat) : AnsOk Try.prog 61 (f61_cOf (f61_A R_f65 k)) := by
  intro X xs ns K x h
  unfold f61_cOf at h ⊢
  split at h
  · exact ans_main S (f61_Cok R_f65 hR_f65) Try.func61 (ent_of Try.func61 (by kernel_rfl) rfl) rfl (fun X K => f61_ev R_f65 hR_f65 k K _ _) h
  · cases h
/-- "cmp.Compare[int]" -/
def f61 {X : Type} (k : Nat) (K : Int → Option X) (x0 : Int) (x1 : Int) : Option X := f61_A (fun X => @f65 X k) k X K x0 x1
theorem f61_ok (k : Nat) : AnsOk Try.prog 61 (f61_cOf (fun X => @f61 X k)) := f61_okA (fun X => @f65 X k) (f65_ok k) k
abbrev f60_R : Type 1 := (X : Type) → (Int → Option X) → CV → CV → Option X
def f60_out (u : Int) : Out := ⟨(.v (CV.int .i64 u)), []⟩
def f60_cOf (R : f60_R) : FnC := fun X xs ns K => match xs, ns with
  | [(.v x0), (.v x1)], [] => R X (fun u => K (f60_out u)) x0 x1
  | _, _ => none
def f60_plan : Nat → Option (List Nat × List Wk)
  | 0 => some ([0, 1], [])
  | 1 => some ([2, 3], [])
  | _ => none
def f60_C (R_f61 : f61_R) : Fns := (orC 61 (f61_cOf R_f61) noC)
theorem f60_Cok (R_f61 : f61_R) (hR_f61 : AnsOk Try.prog 61 (f61_cOf R_f61)) : CsOk Try.prog (f60_C R_f61) := (orC_ok hR_f61 noC_ok)
def f60_cx (R_f61 : f61_R) (hR_f61 : AnsOk Try.prog 61 (f61_cOf R_f61)) : Cx := mkCx (tabOf rows) (f60_C R_f61) md (cmpIn cmps) f60_plan (f60_Cok R_f61 hR_f61)
def f60_T {X : Type} (R_f61 : f61_R) (k : Nat) (K : Int → Option X)  (x0 : CV) (x1 : CV) : Option X :=
grd (CV.isA 2 x0) <|
grd (CV.isI .i64 (CV.cellD 0 x0)) <|
grd (CV.isL none (CV.cellD 1 x0)) <|
grd (CV.isA 2 x1) <|
grd (CV.isI .i64 (CV.cellD 0 x1)) <|
grd (CV.isL none (CV.cellD 1 x1)) <|
R_f61 _ (fun u1 =>
K (u1)) ((CV.toI (CV.cellD 0 x0))) ((CV.toI (CV.cellD 0 x1)))
/-- "outpost/opt.byNum$1" -/
def f60_A (R_f61 : f61_R) (k : Nat) : f60_R := fun X K x0 x1 => f60_T R_f61 k K  x0 x1
set_option maxRecDepth 100000 in
theorem f60_ev' {X : Type} (R_f61 : f61_R) (hR_f61 : AnsOk Try.prog 61 (f61_cOf R_f61)) (k : Nat) (K : Out → Option X) (x0 : CV) (x1 : CV) : evFn (f60_cx R_f61 hR_f61) [] k Try.f60.ntmps Try.f60.results.toList (Try.f60.body.getD .skip) [(.v x0), (.v x1)] [] K = f60_T R_f61 k (fun u => K (f60_out u)) x0 x1 := by kernel_rfl
theorem f60_ev {X : Type} (R_f61 : f61_R) (hR_f61 : AnsOk Try.prog 61 (f61_cOf R_f61)) (k : Nat) (K : Out → Option X) (x0 : CV) (x1 : CV) : evFn (f60_cx R_f61 hR_f61) [] k Try.f60.ntmps Try.f60.results.toList (Try.f60.body.getD .skip) [(.v x0), (.v x1)] [] K = f60_A R_f61 k X (fun u => K (f60_out u)) x0 x1 := (f60_ev' R_f61 hR_f61 k K x0 x1).trans rfl
theorem f60_okA (R_f61 : f61_R) (hR_f61 : AnsOk Try.prog 61 (f61_cOf R_f61)) (k : Nat) : AnsOk Try.prog 60 (f60_cOf (f60_A R_f61 k)) := by
  intro X xs ns K x h
  unfold f60_cOf at h ⊢
  split at h
  · exact ans_main S (f60_Cok R_f61 hR_f61) Try.func60 (ent_of Try.func60 (by kernel_rfl) rfl) rfl (fun X K => f60_ev R_f61 hR_f61 k K _ _) h
  · cases h
/-- "outpost/opt.byNum$1" -/
def f60 {X : Type} (k : Nat) (K : Int → Option X) (x0 : CV) (x1 : CV) : Option X := f60_A (fun X => @f61 X k) k X K x0 x1
theorem f60_ok (k : Nat) : AnsOk Try.prog 60 (f60_cOf (fun X => @f60 X k)) := f60_okA (fun X => @f61 X k) (f61_ok k) k
abbrev f66_R : Type 1 := (X : Type) → ((List CV) → Option X) → Nat → Int → Int → (List CV) → Option X
def f66_out (u : (List CV)) : Out := ⟨(.tup []), [([1000], (.row false (some 2) u))]⟩
def f66_cOf (R : f66_R) : FnC := fun X xs ns K => match xs, ns with
  | [(.osl [1000] (some 2) 0 x0), (.v (CV.int .i64 x1)), (.v (CV.int .i64 x2)), (.fn 60 [])], [([1000], (.row false (some 2) x3))] => R X (fun u => K (f66_out u)) x0 x1 x2 x3
  | _, _ => none
def f66_plan : Nat → Option (List Nat × List Wk)
  | 0 => some ([0, 1, 2, 3], [])
  | 1 => some ([0, 1, 2, 3, 8], [])
  | 2 => some ([0, 1, 2, 3, 8], [])
  | 3 => some ([0, 1, 2, 3, 8], [])
  | 4 => some ([0, 1, 2, 3, 8, 9], [])
  | 5 => some ([0, 1, 2, 3, 8, 9], [])
  | 6 => some ([0, 1, 2, 3, 8, 9], [])
  | _ => none
def f66_C (R_f60 : f60_R) : Fns := (orC 60 (f60_cOf R_f60) noC)
theorem f66_Cok (R_f60 : f60_R) (hR_f60 : AnsOk Try.prog 60 (f60_cOf R_f60)) : CsOk Try.prog (f66_C R_f60) := (orC_ok hR_f60 noC_ok)
def f66_cx (R_f60 : f60_R) (hR_f60 : AnsOk Try.prog 60 (f60_cOf R_f60)) : Cx := mkCx (tabOf rows) (f66_C R_f60) md (cmpIn cmps) f66_plan (f66_Cok R_f60 hR_f60)
def f66_S1 (v : Nat × Int × Int × Int × (List CV)) : St := ⟨[(.osl [1000] (some 2) 0 v.1), (.v (CV.int .i64 v.2.1)), (.v (CV.int .i64 v.2.2.1)), (.fn 60 []), .undef, .undef, .undef, .undef, (.v (CV.int .i64 v.2.2.2.1)), .undef, .undef, .undef, .undef, .undef, .undef, .undef, .undef, .undef, .undef, .undef, .undef, .undef, .undef, .undef, .undef, .undef, .undef, .undef, .undef, .undef, .undef, .undef, .undef, .undef, .undef, .undef, .undef, .undef, .undef, .undef, .undef, .undef, .undef, .undef, .undef, .undef, .undef, .undef, .undef, .undef, .undef, .undef, .undef], [([1000], (.row false (some 2) v.2.2.2.2))]⟩
def f66_S2 (v : Nat × Int × Int × Int × Int × (List CV)) : St := ⟨[(.osl [1000] (some 2) 0 v.1), (.v (CV.int .i64 v.2.1)), (.v (CV.int .i64 v.2.2.1)), (.fn 60 []), .undef, .undef, .undef, .undef, (.v (CV.int .i64 v.2.2.2.1)), (.v (CV.int .i64 v.2.2.2.2.1)), .undef, .undef, .undef, .undef, .undef, .undef, .undef, .undef, .undef, .undef, .undef, .undef, .undef, .undef, .undef, .undef, .undef, .undef, .undef, .undef, .undef, .undef, .undef, .undef, .undef, .undef, .undef, .undef, .undef, .undef, .undef, .undef, .undef, .undef, .undef, .undef, .undef, .undef, .undef, .undef, .undef, .undef, .undef], [([1000], (.row false (some 2) v.2.2.2.2.2))]⟩
def f66_T2 {X : Type} (R_f60 : f60_R) (k : Nat) (K : (List CV) → Option X) (rec1 : Nat × Int × Int × Int × (List CV) → Option X)  (rec2 : Nat × Int × Int × Int × Int × (List CV) → Option X) (v8_22 : Nat × Int × Int × Int × Int × (List CV)) : Option X :=
(bif (decide (v8_22.2.2.2.2.1 > v8_22.2.1)) then
grd (decide (0 ≤ v8_22.2.2.2.2.1)) <|
grd (decide (v8_22.2.2.2.2.1 < (Nat.cast (v8_22.1) : Int))) <|
Option.bind (v8_22.2.2.2.2.2)[(0 + (Int.toNat v8_22.2.2.2.2.1))]? fun e37 =>
grd (decide (0 ≤ (IntKind.wrap .i64 (v8_22.2.2.2.2.1 - 1)))) <|
grd (decide ((IntKind.wrap .i64 (v8_22.2.2.2.2.1 - 1)) < (Nat.cast (v8_22.1) : Int))) <|
Option.bind (v8_22.2.2.2.2.2)[(0 + (Int.toNat (IntKind.wrap .i64 (v8_22.2.2.2.2.1 - 1))))]? fun e38 =>
R_f60 _ (fun u39 =>
(bif (decide (u39 < 0)) then
grd (decide (0 ≤ (IntKind.wrap .i64 (v8_22.2.2.2.2.1 - 1)))) <|
grd (decide ((IntKind.wrap .i64 (v8_22.2.2.2.2.1 - 1)) < (Nat.cast (v8_22.1) : Int))) <|
Option.bind (v8_22.2.2.2.2.2)[(0 + (Int.toNat (IntKind.wrap .i64 (v8_22.2.2.2.2.1 - 1))))]? fun e42 =>
grd (decide (0 ≤ v8_22.2.2.2.2.1)) <|
grd (decide (v8_22.2.2.2.2.1 < (Nat.cast (v8_22.1) : Int))) <|
Option.bind (v8_22.2.2.2.2.2)[(0 + (Int.toNat v8_22.2.2.2.2.1))]? fun e43 =>
grd (decide (0 ≤ v8_22.2.2.2.2.1)) <|
grd (decide (v8_22.2.2.2.2.1 < (Nat.cast (v8_22.1) : Int))) <|
grd (Nat.beq (CV.ncells e42) 2 && CV.isAgg e42) <|
grd (decide ((0 + (Int.toNat v8_22.2.2.2.2.1)) < (List.length v8_22.2.2.2.2.2))) <|
grd (decide (0 ≤ (IntKind.wrap .i64 (v8_22.2.2.2.2.1 - 1)))) <|
grd (decide ((IntKind.wrap .i64 (v8_22.2.2.2.2.1 - 1)) < (Nat.cast (v8_22.1) : Int))) <|
grd (Nat.beq (CV.ncells e43) 2 && CV.isAgg e43) <|
grd (decide ((0 + (Int.toNat (IntKind.wrap .i64 (v8_22.2.2.2.2.1 - 1)))) < (List.length (List.set v8_22.2.2.2.2.2 (0 + (Int.toNat v8_22.2.2.2.2.1)) e42)))) <|
rec2 (v8_22.1, v8_22.2.1, v8_22.2.2.1, v8_22.2.2.2.1, (IntKind.wrap .i64 (v8_22.2.2.2.2.1 - 1)), (List.set (List.set v8_22.2.2.2.2.2 (0 + (Int.toNat v8_22.2.2.2.2.1)) e42) (0 + (Int.toNat (IntKind.wrap .i64 (v8_22.2.2.2.2.1 - 1)))) e43))
else
rec1 (v8_22.1, v8_22.2.1, v8_22.2.2.1, (IntKind.wrap .i64 (v8_22.2.2.2.1 + 1)), v8_22.2.2.2.2.2))) (e37) (e38)
else
rec1 (v8_22.1, v8_22.2.1, v8_22.2.2.1, (IntKind.wrap .i64 (v8_22.2.2.2.1 + 1)), v8_22.2.2.2.2.2))
def f66_L2 {X : Type} (R_f60 : f60_R) (k : Nat) (K : (List CV) → Option X) (rec1 : Nat × Int × Int × Int × (List CV) → Option X) (rec2 : Nat × Int × Int × Int × Int × (List CV) → Option X) (v : Nat × Int × Int × Int × Int × (List CV)) : Option X := f66_T2 R_f60 k K rec1  rec2 v
set_option maxRecDepth 100000 in
theorem f66_L2_ev {X : Type} (R_f60 : f60_R) (hR_f60 : AnsOk Try.prog 60 (f60_cOf R_f60)) (k : Nat) (K : Out → Option X) (r1 : St → Option X) (r2 : St → Option X) (v : Nat × Int × Int × Int × Int × (List CV)) : loopB (f66_cx R_f60 hR_f60) k [.r, .b, .o, .r, .l, .b, .r, .b] (Try.f66.body.getD .skip) (retK (f66_cx R_f60 hR_f60) [] Try.f66.results.toList K) [r1] r2 (f66_S2 v) = f66_T2 R_f60 k (fun u => K (f66_out u)) (fun v => r1 (f66_S1 v))  (fun v => r2 (f66_S2 v)) v := by kernel_rfl
theorem f66_L2_it {X : Type} (R_f60 : f60_R) (hR_f60 : AnsOk Try.prog 60 (f60_cOf R_f60)) (k : Nat) (K : Out → Option X) (r1 : St → Option X) : (fun v => iter (loopB (f66_cx R_f60 hR_f60) k [.r, .b, .o, .r, .l, .b, .r, .b] (Try.f66.body.getD .skip) (retK (f66_cx R_f60 hR_f60) [] Try.f66.results.toList K) [r1]) k (f66_S2 v)) = iterV (f66_L2 R_f60 k (fun u => K (f66_out u)) (fun v => r1 (f66_S1 v))) k :=
  iter_map (fun r2 v => (f66_L2_ev R_f60 hR_f60 k K r1 r2 v).trans rfl) k
def f66_T1 {X : Type} (R_f60 : f60_R) (k : Nat) (K : (List CV) → Option X)  (loop2 : Nat × Int × Int × Int × Int × (List CV) → Option X) (rec1 : Nat × Int × Int × Int × (List CV) → Option X) (v2_0 : Nat × Int × Int × Int × (List CV)) : Option X :=
(bif (decide (v2_0.2.2.2.1 < v2_0.2.2.1)) then
loop2 (v2_0.1, v2_0.2.1, v2_0.2.2.1, v2_0.2.2.2.1, v2_0.2.2.2.1, v2_0.2.2.2.2)
else
K (v2_0.2.2.2.2))
def f66_L1 {X : Type} (R_f60 : f60_R) (k : Nat) (K : (List CV) → Option X)  (rec1 : Nat × Int × Int × Int × (List CV) → Option X) (v : Nat × Int × Int × Int × (List CV)) : Option X := f66_T1 R_f60 k K  (iterV (f66_L2 R_f60 k K rec1) k) rec1 v
set_option maxRecDepth 100000 in
theorem f66_L1_ev {X : Type} (R_f60 : f60_R) (hR_f60 : AnsOk Try.prog 60 (f60_cOf R_f60)) (k : Nat) (K : Out → Option X)  (r1 : St → Option X) (v : Nat × Int × Int × Int × (List CV)) : loopB (f66_cx R_f60 hR_f60) k [.r, .b] (Try.f66.body.getD .skip) (retK (f66_cx R_f60 hR_f60) [] Try.f66.results.toList K) [] r1 (f66_S1 v) = f66_T1 R_f60 k (fun u => K (f66_out u))  (fun v => iter (loopB (f66_cx R_f60 hR_f60) k [.r, .b, .o, .r, .l, .b, .r, .b] (Try.f66.body.getD .skip) (retK (f66_cx R_f60 hR_f60) [] Try.f66.results.toList K) [r1]) k (f66_S2 v)) (fun v => r1 (f66_S1 v)) v := by kernel_rfl
theorem f66_L1_it {X : Type} (R_f60 : f60_R) (hR_f60 : AnsOk Try.prog 60 (f60_cOf R_f60)) (k : Nat) (K : Out → Option X)  : (fun v => iter (loopB (f66_cx R_f60 hR_f60) k [.r, .b] (Try.f66.body.getD .skip) (retK (f66_cx R_f60 hR_f60) [] Try.f66.results.toList K) []) k (f66_S1 v)) = iterV (f66_L1 R_f60 k (fun u => K (f66_out u)) ) k :=
  iter_map (fun r1 v => (f66_L1_ev R_f60 hR_f60 k K  r1 v).trans (by rw [f66_L2_it R_f60 hR_f60 k K r1]; rfl)) k
def f66_T {X : Type} (R_f60 : f60_R) (k : Nat) (K : (List CV) → Option X) (loop1 : Nat × Int × Int × Int × (List CV) → Option X) (x0 : Nat) (x1 : Int) (x2 : Int) (x3 : List CV) : Option X :=
loop1 (x0, x1, x2, (IntKind.wrap .i64 (x1 + 1)), x3)
/-- "slices.insertionSortCmpFunc[outpost/api.Opt]" -/
def f66_A (R_f60 : f60_R) (k : Nat) : f66_R := fun X K x0 x1 x2 x3 => f66_T R_f60 k K (iterV (f66_L1 R_f60 k K) k) x0 x1 x2 x3
set_option maxRecDepth 100000 in
theorem f66_ev' {X : Type} (R_f60 : f60_R) (hR_f60 : AnsOk Try.prog 60 (f60_cOf R_f60)) (k : Nat) (K : Out → Option X) (x0 : Nat) (x1 : Int) (x2 : Int) (x3 : List CV) : evFn (f66_cx R_f60 hR_f60) [] k Try.f66.ntmps Try.f66.results.toList (Try.f66.body.getD .skip) [(.osl [1000] (some 2) 0 x0), (.v (CV.int .i64 x1)), (.v (CV.int .i64 x2)), (.fn 60 [])] [([1000], (.row false (some 2) x3))] K = f66_T R_f60 k (fun u => K (f66_out u)) (fun v => iter (loopB (f66_cx R_f60 hR_f60) k [.r, .b] (Try.f66.body.getD .skip) (retK (f66_cx R_f60 hR_f60) [] Try.f66.results.toList K) []) k (f66_S1 v)) x0 x1 x2 x3 := by kernel_rfl
theorem f66_ev {X : Type} (R_f60 : f60_R) (hR_f60 : AnsOk Try.prog 60 (f60_cOf R_f60)) (k : Nat) (K : Out → Option X) (x0 : Nat) (x1 : Int) (x2 : Int) (x3 : List CV) : evFn (f66_cx R_f60 hR_f60) [] k Try.f66.ntmps Try.f66.results.toList (Try.f66.body.getD .skip) [(.osl [1000] (some 2) 0 x0), (.v (CV.int .i64 x1)), (.v (CV.int .i64 x2)), (.fn 60 [])] [([1000], (.row false (some 2) x3))] K = f66_A R_f60 k X (fun u => K (f66_out u)) x0 x1 x2 x3 := (f66_ev' R_f60 hR_f60 k K x0 x1 x2 x3).trans (by rw [f66_L1_it R_f60 hR_f60 k K]; rfl)
theorem f66_okA (R_f60 : f60_R) (hR_f60 : AnsOk Try.prog 60 (f60_cOf R_f60)) (k : Nat) : AnsOk Try.prog 66 (f66_cOf (f66_A R_f60 k)) := by
  intro X xs ns K x h
  unfold f66_cOf at h ⊢
  split at h
  · exact ans_main S (f66_Cok R_f60 hR_f60) Try.func66 (ent_of Try.func66 (by kernel_rfl) rfl) rfl (fun X K => f66_ev R_f60 hR_f60 k K _ _ _ _) h
  · cases h
/-- "slices.insertionSortCmpFunc[outpost/api.Opt]" -/
def f66 {X : Type} (k : Nat) (K : (List CV) → Option X) (x0 : Nat) (x1 : Int) (x2 : Int) (x3 : List CV) : Option X := f66_A (fun X => @f60 X k) k X K x0 x1 x2 x3
theorem f66_ok (k : Nat) : AnsOk Try.prog 66 (f66_cOf (fun X => @f66 X k)) := f66_okA (fun X => @f60 X k) (f60_ok k) k
abbrev f69_R : Type 1 := (X : Type) → ((List CV) → Option X) → Nat → Int → Int → Int → (List CV) → Option X
def f69_out (u : (List CV)) : Out := ⟨(.tup []), [([1000], (.row false (some 2) u))]⟩
def f69_cOf (R : f69_R) : FnC := fun X xs ns K => match xs, ns with
  | [(.osl [1000] (some 2) 0 x0), (.v (CV.int .i64 x1)), (.v (CV.int .i64 x2)), (.v (CV.int .i64 x3)), (.fn 60 [])], [([1000], (.row false (some 2) x4))] => R X (fun u => K (f69_out u)) x0 x1 x2 x3 x4
  | _, _ => none
def f69_plan : Nat → Option (List Nat × List Wk)
  | 0 => some ([0, 1, 2, 3], [])
  | 1 => some ([0, 1, 2, 3, 10], [])
  | 2 => some ([0, 1, 2, 3, 10], [])
  | 3 => some ([0, 1, 2, 3, 10], [])
  | _ => none
def f69_C : Fns := noC
theorem f69_Cok : CsOk Try.prog (f69_C) := noC_ok
def f69_cx : Cx := mkCx (tabOf rows) (f69_C) md (cmpIn cmps) f69_plan (f69_Cok)
def f69_S1 (v : Nat × Int × Int × Int × Int × (List CV)) : St := ⟨[(.osl [1000] (some 2) 0 v.1), (.v (CV.int .i64 v.2.1)), (.v (CV.int .i64 v.2.2.1)), (.v (CV.int .i64 v.2.2.2.1)), .undef, .undef, .undef, .undef, .undef, .undef, (.v (CV.int .i64 v.2.2.2.2.1)), .undef, .undef, .undef, .undef, .undef, .undef, .undef, .undef, .undef, .undef, .undef, .undef, .undef, .undef, .undef, .undef, .undef, .undef, .undef, .undef, .undef, .undef, .undef, .undef, .undef, .undef, .undef], [([1000], (.row false (some 2) v.2.2.2.2.2))]⟩
def f69_T1 {X : Type} (k : Nat) (K : (List CV) → Option X)   (rec1 : Nat × Int × Int × Int × Int × (List CV) → Option X) (v2_0 : Nat × Int × Int × Int × Int × (List CV)) : Option X :=
(bif (decide (v2_0.2.2.2.2.1 < v2_0.2.2.2.1)) then
grd (decide (0 ≤ (IntKind.wrap .i64 (v2_0.2.2.1 + v2_0.2.2.2.2.1)))) <|
grd (decide ((IntKind.wrap .i64 (v2_0.2.2.1 + v2_0.2.2.2.2.1)) < (Nat.cast (v2_0.1) : Int))) <|
Option.bind (v2_0.2.2.2.2.2)[(0 + (Int.toNat (IntKind.wrap .i64 (v2_0.2.2.1 + v2_0.2.2.2.2.1))))]? fun e8 =>
grd (decide (0 ≤ (IntKind.wrap .i64 (v2_0.2.1 + v2_0.2.2.2.2.1)))) <|
grd (decide ((IntKind.wrap .i64 (v2_0.2.1 + v2_0.2.2.2.2.1)) < (Nat.cast (v2_0.1) : Int))) <|
Option.bind (v2_0.2.2.2.2.2)[(0 + (Int.toNat (IntKind.wrap .i64 (v2_0.2.1 + v2_0.2.2.2.2.1))))]? fun e9 =>
grd (decide (0 ≤ (IntKind.wrap .i64 (v2_0.2.1 + v2_0.2.2.2.2.1)))) <|
grd (decide ((IntKind.wrap .i64 (v2_0.2.1 + v2_0.2.2.2.2.1)) < (Nat.cast (v2_0.1) : Int))) <|
grd (Nat.beq (CV.ncells e8) 2 && CV.isAgg e8) <|
grd (decide ((0 + (Int.toNat (IntKind.wrap .i64 (v2_0.2.1 + v2_0.2.2.2.2.1)))) < (List.length v2_0.2.2.2.2.2))) <|
grd (decide (0 ≤ (IntKind.wrap .i64 (v2_0.2.2.1 + v2_0.2.2.2.2.1)))) <|
grd (decide ((IntKind.wrap .i64 (v2_0.2.2.1 + v2_0.2.2.2.2.1)) < (Nat.cast (v2_0.1) : Int))) <|
grd (Nat.beq (CV.ncells e9) 2 && CV.isAgg e9) <|
grd (decide ((0 + (Int.toNat (IntKind.wrap .i64 (v2_0.2.2.1 + v2_0.2.2.2.2.1)))) < (List.length (List.set v2_0.2.2.2.2.2 (0 + (Int.toNat (IntKind.wrap .i64 (v2_0.2.1 + v2_0.2.2.2.2.1)))) e8)))) <|
rec1 (v2_0.1, v2_0.2.1, v2_0.2.2.1, v2_0.2.2.2.1, (IntKind.wrap .i64 (v2_0.2.2.2.2.1 + 1)), (List.set (List.set v2_0.2.2.2.2.2 (0 + (Int.toNat (IntKind.wrap .i64 (v2_0.2.1 + v2_0.2.2.2.2.1)))) e8) (0 + (Int.toNat (IntKind.wrap .i64 (v2_0.2.2.1 + v2_0.2.2.2.2.1)))) e9))
else
K (v2_0.2.2.2.2.2))
def f69_L1 {X : Type} (k : Nat) (K : (List CV) → Option X)  (rec1 : Nat × Int × Int × Int × Int × (List CV) → Option X) (v : Nat × Int × Int × Int × Int × (List CV)) : Option X := f69_T1 k K   rec1 v
set_option maxRecDepth 100000 in
theorem f69_L1_ev {X : Type} (k : Nat) (K : Out → Option X)  (r1 : St → Option X) (v : Nat × Int × Int × Int × Int × (List CV)) : loopB (f69_cx) k [.r, .b] (Try.f69.body.getD .skip) (retK (f69_cx) [] Try.f69.results.toList K) [] r1 (f69_S1 v) = f69_T1 k (fun u => K (f69_out u))   (fun v => r1 (f69_S1 v)) v := by kernel_rfl
theorem f69_L1_it {X : Type} (k : Nat) (K : Out → Option X)  : (fun v => iter (loopB (f69_cx) k [.r, .b] (Try.f69.body.getD .skip) (retK (f69_cx) [] Try.f69.results.toList K) []) k (f69_S1 v)) = iterV (f69_L1 k (fun u => K (f69_out u)) ) k :=
  iter_map (fun r1 v => (f69_L1_ev k K  r1 v).trans rfl) k
def f69_T {X : Type} (k : Nat) (K : (List CV) → Option X) (loop1 : Nat × Int × Int × Int × Int × (List CV) → Option X) (x0 : Nat) (x1 : Int) (x2 : Int) (x3 : Int) (x4 : List CV) : Option X :=
loop1 (x0, x1, x2, x3, 0, x4)
/-- "slices.swapRangeCmpFunc[outpost/api.Opt]" -/
def f69_A (k : Nat) : f69_R := fun X K x0 x1 x2 x3 x4 => f69_T k K (iterV (f69_L1 k K) k) x0 x1 x2 x3 x4
set_option maxRecDepth 100000 in
theorem f69_ev' {X : Type} (k : Nat) (K : Out → Option X) (x0 : Nat) (x1 : Int) (x2 : Int) (x3 : Int) (x4 : List CV) : evFn (f69_cx) [] k Try.f69.ntmps Try.f69.results.toList (Try.f69.body.getD .skip) [(.osl [1000] (some 2) 0 x0), (.v (CV.int .i64 x1)), (.v (CV.int .i64 x2)), (.v (CV.int .i64 x3)), (.fn 60 [])] [([1000], (.row false (some 2) x4))] K = f69_T k (fun u => K (f69_out u)) (fun v => iter (loopB (f69_cx) k [.r, .b] (Try.f69.body.getD .skip) (retK (f69_cx) [] Try.f69.results.toList K) []) k (f69_S1 v)) x0 x1 x2 x3 x4 := by kernel_rfl
theorem f69_ev {X : Type} (k : Nat) (K : Out → Option X) (x0 : Nat) (x1 : Int) (x2 : Int) (x3 : Int) (x4 : List CV) : evFn (f69_cx) [] k Try.f69.ntmps Try.f69.results.toList (Try.f69.body.getD .skip) [(.osl [1000] (some 2) 0 x0), (.v (CV.int .i64 x1)), (.v (CV.int .i64 x2)), (.v (CV.int .i64 x3)), (.fn 60 [])] [([1000], (.row false (some 2) x4))] K = f69_A k X (fun u => K (f69_out u)) x0 x1 x2 x3 x4 := (f69_ev' k K x0 x1 x2 x3 x4).trans (by rw [f69_L1_it k K]; rfl)
theorem f69_okA (k : Nat) : AnsOk Try.prog 69 (f69_cOf (f69_A k)) := by
  intro X xs ns K x h
  unfold f69_cOf at h ⊢
  split at h
  · exact ans_main S (f69_Cok) Try.func69 (ent_of Try.func69 (by kernel_rfl) rfl) rfl (fun X K => f69_ev k K _ _ _ _ _) h
  · cases h
/-- "slices.swapRangeCmpFunc[outpost/api.Opt]" -/
def f69 {X : Type} (k : Nat) (K : (List CV) → Option X) (x0 : Nat) (x1 : Int) (x2 : Int) (x3 : Int) (x4 : List CV) : Option X := f69_A k X K x0 x1 x2 x3 x4
theorem f69_ok (k : Nat) : AnsOk Try.prog 69 (f69_cOf (fun X => @f69 X k)) := f69_okA k
abbrev f68_R : Type 1 := (X : Type) → ((List CV) → Option X) → Nat → Int → Int → Int → (List CV) → Option X
def f68_out (u : (List CV)) : Out := ⟨(.tup []), [([1000], (.row false (some 2) u))]⟩
def f68_cOf (R : f68_R) : FnC := fun X xs ns K => match xs, ns with
  | [(.osl [1000] (some 2) 0 x0), (.v (CV.int .i64 x1)), (.v (CV.int .i64 x2)), (.v (CV.int .i64 x3)), (.fn 60 [])], [([1000], (.row false (some 2) x4))] => R X (fun u => K (f68_out u)) x0 x1 x2 x3 x4
  | _, _ => none
def f68_plan : Nat → Option (List Nat × List Wk)
  | 0 => some ([0, 1, 2, 3, 4], [])
  | 1 => some ([0, 2, 3, 4, 10], [])
  | 2 => some ([0, 2, 4, 10, 11], [])
  | 3 => some ([0, 2, 4, 10, 11], [])
  | 4 => some ([0, 2, 4, 10, 11], [])
  | 5 => some ([0, 2, 4, 10, 11], [])
  | 6 => some ([0, 2, 4, 10, 11], [])
  | 7 => some ([0, 2, 4, 10, 11], [])
  | 8 => some ([0, 2, 4, 10], [])
  | _ => none
def f68_C (R_f69 : f69_R) : Fns := (orC 69 (f69_cOf R_f69) noC)
theorem f68_Cok (R_f69 : f69_R) (hR_f69 : AnsOk Try.prog 69 (f69_cOf R_f69)) : CsOk Try.prog (f68_C R_f69) := (orC_ok hR_f69 noC_ok)
def f68_cx (R_f69 : f69_R) (hR_f69 : AnsOk Try.prog 69 (f69_cOf R_f69)) : Cx := mkCx (tabOf rows) (f68_C R_f69) md (cmpIn cmps) f68_plan (f68_Cok R_f69 hR_f69)
def f68_S1 (v : Nat × Int × Int × Int × (List CV)) : St := ⟨[(.osl [1000] (some 2) 0 v.1), .undef, (.v (CV.int .i64 v.2.1)), .undef, (.fn 60 []), .undef, .undef, .undef, .undef, .undef, (.v (CV.int .i64 v.2.2.1)), (.v (CV.int .i64 v.2.2.2.1)), .undef, .undef, .undef, .undef, .undef, .undef, .undef, .undef, .undef, .undef, .undef, .undef, .undef, .undef, .undef, .undef, .undef, .undef, .undef, .undef, .undef, .undef, .undef, .undef, .undef, .undef, .undef, .undef, .undef, .undef, .undef, .undef, .undef, .undef, .undef, .undef, .undef, .undef, .undef, .undef, .undef, .undef, .undef, .undef, .undef, .undef], [([1000], (.row false (some 2) v.2.2.2.2))]⟩
def f68_T1 {X : Type} (R_f69 : f69_R) (k : Nat) (K : (List CV) → Option X)   (rec1 : Nat × Int × Int × Int × (List CV) → Option X) (v4_0 : Nat × Int × Int × Int × (List CV)) : Option X :=
(bif (v4_0.2.2.1 != v4_0.2.2.2.1) then
(bif (decide (v4_0.2.2.1 > v4_0.2.2.2.1)) then
R_f69 _ (fun u4 =>
rec1 (v4_0.1, v4_0.2.1, (IntKind.wrap .i64 (v4_0.2.2.1 - v4_0.2.2.2.1)), v4_0.2.2.2.1, u4)) (v4_0.1) ((IntKind.wrap .i64 (v4_0.2.1 - v4_0.2.2.1))) (v4_0.2.1) (v4_0.2.2.2.1) (v4_0.2.2.2.2)
else
R_f69 _ (fun u5 =>
rec1 (v4_0.1, v4_0.2.1, v4_0.2.2.1, (IntKind.wrap .i64 (v4_0.2.2.2.1 - v4_0.2.2.1)), u5)) (v4_0.1) ((IntKind.wrap .i64 (v4_0.2.1 - v4_0.2.2.1))) ((IntKind.wrap .i64 ((IntKind.wrap .i64 (v4_0.2.1 + v4_0.2.2.2.1)) - v4_0.2.2.1))) (v4_0.2.2.1) (v4_0.2.2.2.2))
else
R_f69 _ (fun u6 =>
K (u6)) (v4_0.1) ((IntKind.wrap .i64 (v4_0.2.1 - v4_0.2.2.1))) (v4_0.2.1) (v4_0.2.2.1) (v4_0.2.2.2.2))
def f68_L1 {X : Type} (R_f69 : f69_R) (k : Nat) (K : (List CV) → Option X)  (rec1 : Nat × Int × Int × Int × (List CV) → Option X) (v : Nat × Int × Int × Int × (List CV)) : Option X := f68_T1 R_f69 k K   rec1 v
set_option maxRecDepth 100000 in
theorem f68_L1_ev {X : Type} (R_f69 : f69_R) (hR_f69 : AnsOk Try.prog 69 (f69_cOf R_f69)) (k : Nat) (K : Out → Option X)  (r1 : St → Option X) (v : Nat × Int × Int × Int × (List CV)) : loopB (f68_cx R_f69 hR_f69) k [.r, .r, .l, .b] (Try.f68.body.getD .skip) (retK (f68_cx R_f69 hR_f69) [] Try.f68.results.toList K) [] r1 (f68_S1 v) = f68_T1 R_f69 k (fun u => K (f68_out u))   (fun v => r1 (f68_S1 v)) v := by kernel_rfl
theorem f68_L1_it {X : Type} (R_f69 : f69_R) (hR_f69 : AnsOk Try.prog 69 (f69_cOf R_f69)) (k : Nat) (K : Out → Option X)  : (fun v => iter (loopB (f68_cx R_f69 hR_f69) k [.r, .r, .l, .b] (Try.f68.body.getD .skip) (retK (f68_cx R_f69 hR_f69) [] Try.f68.results.toList K) []) k (f68_S1 v)) = iterV (f68_L1 R_f69 k (fun u => K (f68_out u)) ) k :=
  iter_map (fun r1 v => (f68_L1_ev R_f69 hR_f69 k K  r1 v).trans rfl) k
def f68_T {X : Type} (R_f69 : f69_R) (k : Nat) (K : (List CV) → Option X) (loop1 : Nat × Int × Int × Int × (List CV) → Option X) (x0 : Nat) (x1 : Int) (x2 : Int) (x3 : Int) (x4 : List CV) : Option X :=
loop1 (x0, x2, (IntKind.wrap .i64 (x2 - x1)), (IntKind.wrap .i64 (x3 - x2)), x4)
/-- "slices.rotateCmpFunc[outpost/api.Opt]" -/
def f68_A (R_f69 : f69_R) (k : Nat) : f68_R := fun X K x0 x1 x2 x3 x4 => f68_T R_f69 k K (iterV (f68_L1 R_f69 k K) k) x0 x1 x2 x3 x4
set_option maxRecDepth 100000 in
theorem f68_ev' {X : Type} (R_f69 : f69_R) (hR_f69 : AnsOk Try.prog 69 (f69_cOf R_f69)) (k : Nat) (K : Out → Option X) (x0 : Nat) (x1 : Int) (x2 : Int) (x3 : Int) (x4 : List CV) : evFn (f68_cx R_f69 hR_f69) [] k Try.f68.ntmps Try.f68.results.toList (Try.f68.body.getD .skip) [(.osl [1000] (some 2) 0 x0), (.v (CV.int .i64 x1)), (.v (CV.int .i64 x2)), (.v (CV.int .i64 x3)), (.fn 60 [])] [([1000], (.row false (some 2) x4))] K = f68_T R_f69 k (fun u => K (f68_out u)) (fun v => iter (loopB (f68_cx R_f69 hR_f69) k [.r, .r, .l, .b] (Try.f68.body.getD .skip) (retK (f68_cx R_f69 hR_f69) [] Try.f68.results.toList K) []) k (f68_S1 v)) x0 x1 x2 x3 x4 := by kernel_rfl
theorem f68_ev {X : Type} (R_f69 : f69_R) (hR_f69 : AnsOk Try.prog 69 (f69_cOf R_f69)) (k : Nat) (K : Out → Option X) (x0 : Nat) (x1 : Int) (x2 : Int) (x3 : Int) (x4 : List CV) : evFn (f68_cx R_f69 hR_f69) [] k Try.f68.ntmps Try.f68.results.toList (Try.f68.body.getD .skip) [(.osl [1000] (some 2) 0 x0), (.v (CV.int .i64 x1)), (.v (CV.int .i64 x2)), (.v (CV.int .i64 x3)), (.fn 60 [])] [([1000], (.row false (some 2) x4))] K = f68_A R_f69 k X (fun u => K (f68_out u)) x0 x1 x2 x3 x4 := (f68_ev' R_f69 hR_f69 k K x0 x1 x2 x3 x4).trans (by rw [f68_L1_it R_f69 hR_f69 k K]; rfl)
theorem f68_okA (R_f69 : f69_R) (hR_f69 : AnsOk Try.prog 69 (f69_cOf R_f69)) (k : Nat) : AnsOk Try.prog 68 (f68_cOf (f68_A R_f69 k)) := by
  intro X xs ns K x h
  unfold f68_cOf at h ⊢
  split at h
  · exact ans_main S (f68_Cok R_f69 hR_f69) Try.func68 (ent_of Try.func68 (by kernel_rfl) rfl) rfl (fun X K => f68_ev R_f69 hR_f69 k K _ _ _ _ _) h
  · cases h
/-- "slices.rotateCmpFunc[outpost/api.Opt]" -/
def f68 {X : Type} (k : Nat) (K : (List CV) → Option X) (x0 : Nat) (x1 : Int) (x2 : Int) (x3 : Int) (x4 : List CV) : Option X := f68_A (fun X => @f69 X k) k X K x0 x1 x2 x3 x4
theorem f68_ok (k : Nat) : AnsOk Try.prog 68 (f68_cOf (fun X => @f68 X k)) := f68_okA (fun X => @f69 X k) (f69_ok k) k
abbrev f67_R : Type 1 := (X : Type) → ((List CV) → Option X) → Nat → Int → Int → Int → (List CV) → Option X
def f67_out (u : (List CV)) : Out := ⟨(.tup []), [([1000], (.row false (some 2) u))]⟩
def f67_cOf (R : f67_R) : FnC := fun X xs ns K => match xs, ns with
  | [(.osl [1000] (some 2) 0 x0), (.v (CV.int .i64 x1)), (.v (CV.int .i64 x2)), (.v (CV.int .i64 x3)), (.fn 60 [])], [([1000], (.row false (some 2) x4))] => R X (fun u => K (f67_out u)) x0 x1 x2 x3 x4
  | _, _ => none
def f67_plan : Nat → Option (List Nat × List Wk)
  | 0 => some ([0, 1, 2, 3, 4], [])
  | 1 => some ([0, 1, 2, 3, 4], [])
  | 2 => some ([0, 1, 3, 4, 10], [])
  | 3 => some ([0, 1, 4, 10, 11], [])
  | 4 => some ([0, 1, 4, 10, 11], [])
  | 5 => some ([0, 1, 4, 10, 11, 12], [])
  | 6 => some ([0, 1, 4, 11, 12], [])
  | 7 => some ([0, 1, 4, 10, 12], [])
  | 8 => some ([0, 1, 10], [])
  | 9 => some ([0, 10, 13], [])
  | 10 => some ([0, 10, 13], [])
  | 11 => some ([0, 10, 13], [])
  | 12 => some ([0, 1, 2, 3, 4], [])
  | 13 => some ([0, 1, 2, 4], [])
  | 14 => some ([0, 2, 4, 14], [])
  | 15 => some ([0, 2, 4, 14, 15], [])
  | 16 => some ([0, 2, 4, 14, 15], [])
  | 17 => some ([0, 2, 4, 14, 15, 16], [])
  | 18 => some ([0, 2, 4, 15, 16], [])
  | 19 => some ([0, 2, 4, 14, 16], [])
  | 20 => some ([0, 2, 14], [])
  | 21 => some ([0, 14, 17], [])
  | 22 => some ([0, 14, 17], [])
  | 23 => some ([0, 14, 17], [])
  | 24 => some ([0, 1, 2, 3, 4], [])
  | 25 => some ([0, 1, 2, 3, 4, 18], [])
  | 26 => some ([0, 1, 2, 3, 4, 18, 19], [])
  | 27 => some ([0, 1, 2, 3, 4, 18, 19], [])
  | 28 => some ([0, 1, 2, 3, 4, 18, 19], [])
  | 29 => some ([0, 1, 2, 3, 4, 18, 19, 20], [])
  | 30 => some ([0, 1, 2, 3, 4, 18, 19], [])
  | 31 => some ([0, 1, 2, 3, 4, 18, 19, 20], [])
  | 32 => some ([0, 1, 2, 3, 4, 18, 19, 20, 21], [])
  | 33 => some ([0, 1, 2, 3, 4, 18, 19, 20, 21, 22], [])
  | 34 => some ([0, 1, 2, 3, 4, 18, 19, 20, 21, 22], [])
  | 35 => some ([0, 1, 2, 3, 4, 18, 19, 20, 21, 22, 23], [])
  | 36 => some ([0, 1, 2, 3, 4, 18, 19, 21, 22, 23], [])
  | 37 => some ([0, 1, 2, 3, 4, 18, 19, 20, 22, 23], [])
  | 38 => some ([0, 1, 2, 3, 4, 18, 19, 20], [])
  | 39 => some ([0, 1, 2, 3, 4, 18, 20, 24], [])
  | 40 => some ([0, 1, 2, 3, 4, 18, 20, 24], [])
  | 41 => some ([0, 1, 3, 4, 18, 20, 24], [])
  | 42 => some ([0, 1, 3, 4, 18, 20, 24], [])
  | 43 => some ([0, 3, 4, 18, 24], [])
  | 44 => some ([0, 3, 4, 18, 24], [])
  | _ => none
def f67_C (R_f60 : f60_R) (R_f68 : f68_R) (R_f67 : f67_R) : Fns := (orC 60 (f60_cOf R_f60) (orC 67 (f67_cOf R_f67) (orC 68 (f68_cOf R_f68) noC)))
theorem f67_Cok (R_f60 : f60_R) (R_f68 : f68_R) (R_f67 : f67_R) (hR_f60 : AnsOk Try.prog 60 (f60_cOf R_f60)) (hR_f68 : AnsOk Try.prog 68 (f68_cOf R_f68)) (hR_f67 : AnsOk Try.prog 67 (f67_cOf R_f67)) : CsOk Try.prog (f67_C R_f60 R_f68 R_f67) := (orC_ok hR_f60 (orC_ok hR_f67 (orC_ok hR_f68 noC_ok)))
def f67_cx (R_f60 : f60_R) (R_f68 : f68_R) (R_f67 : f67_R) (hR_f60 : AnsOk Try.prog 60 (f60_cOf R_f60)) (hR_f68 : AnsOk Try.prog 68 (f68_cOf R_f68)) (hR_f67 : AnsOk Try.prog 67 (f67_cOf R_f67)) : Cx := mkCx (tabOf rows) (f67_C R_f60 R_f68 R_f67) md (cmpIn cmps) f67_plan (f67_Cok R_f60 R_f68 R_f67 hR_f60 hR_f68 hR_f67)
def f67_S1 (v : Nat × Int × Int × Int × (List CV)) : St := ⟨[(.osl [1000] (some 2) 0 v.1), (.v (CV.int .i64 v.2.1)), .undef, .undef, (.fn 60 []), .undef, .undef, .undef, .undef, .undef, (.v (CV.int .i64 v.2.2.1)), (.v (CV.int .i64 v.2.2.2.1)), .undef, .undef, .undef, .undef, .undef, .undef, .undef, .undef, .undef, .undef, .undef, .undef, .undef, .undef, .undef, .undef, .undef, .undef, .undef, .undef, .undef, .undef, .undef, .undef, .undef, .undef, .undef, .undef, .undef, .undef, .undef, .undef, .undef, .undef, .undef, .undef, .undef, .undef, .undef, .undef, .undef, .undef, .undef, .undef, .undef, .undef, .undef, .undef, .undef, .undef, .undef, .undef, .undef, .undef, .undef, .undef, .undef, .undef, .undef, .undef, .undef, .undef, .undef, .undef, .undef, .undef, .undef, .undef, .undef, .undef, .undef, .undef, .undef, .undef, .undef, .undef, .undef, .undef, .undef, .undef, .undef, .undef, .undef, .undef, .undef, .undef, .undef, .undef, .undef, .undef, .undef, .undef, .undef, .undef, .undef, .undef, .undef, .undef, .undef, .undef, .undef, .undef, .undef, .undef, .undef, .undef, .undef, .undef, .undef, .undef, .undef, .undef, .undef, .undef, .undef, .undef, .undef, .undef, .undef, .undef, .undef, .undef, .undef, .undef, .undef, .undef, .undef, .undef, .undef, .undef, .undef, .undef, .undef, .undef, .undef, .undef, .undef, .undef, .undef, .undef, .undef, .undef, .undef, .undef, .undef, .undef, .undef, .undef, .undef, .undef, .undef, .undef, .undef, .undef, .undef, .undef, .undef, .undef, .undef, .undef, .undef, .undef, .undef, .undef, .undef, .undef, .undef, .undef, .undef, .undef, .undef, .undef, .undef, .undef, .undef, .undef, .undef, .undef, .undef, .undef, .undef, .undef, .undef, .undef, .undef, .undef, .undef, .undef, .undef, .undef, .undef, .undef, .undef, .undef, .undef, .undef, .undef, .undef, .undef, .undef, .undef, .undef, .undef, .undef, .undef, .undef, .undef, .undef], [([1000], (.row false (some 2) v.2.2.2.2))]⟩
def f67_S2 (v : Nat × Int × Int × (List CV)) : St := ⟨[(.osl [1000] (some 2) 0 v.1), .undef, .undef, .undef, .undef, .undef, .undef, .undef, .undef, .undef, (.v (CV.int .i64 v.2.1)), .undef, .undef, (.v (CV.int .i64 v.2.2.1)), .undef, .undef, .undef, .undef, .undef, .undef, .undef, .undef, .undef, .undef, .undef, .undef, .undef, .undef, .undef, .undef, .undef, .undef, .undef, .undef, .undef, .undef, .undef, .undef, .undef, .undef, .undef, .undef, .undef, .undef, .undef, .undef, .undef, .undef, .undef, .undef, .undef, .undef, .undef, .undef, .undef, .undef, .undef, .undef, .undef, .undef, .undef, .undef, .undef, .undef, .undef, .undef, .undef, .undef, .undef, .undef, .undef, .undef, .undef, .undef, .undef, .undef, .undef, .undef, .undef, .undef, .undef, .undef, .undef, .undef, .undef, .undef, .undef, .undef, .undef, .undef, .undef, .undef, .undef, .undef, .undef, .undef, .undef, .undef, .undef, .undef, .undef, .undef, .undef, .undef, .undef, .undef, .undef, .undef, .undef, .undef, .undef, .undef, .undef, .undef, .undef, .undef, .undef, .undef, .undef, .undef, .undef, .undef, .undef, .undef, .undef, .undef, .undef, .undef, .undef, .undef, .undef, .undef, .undef, .undef, .undef, .undef, .undef, .undef, .undef, .undef, .undef, .undef, .undef, .undef, .undef, .undef, .undef, .undef, .undef, .undef, .undef, .undef, .undef, .undef, .undef, .undef, .undef, .undef, .undef, .undef, .undef, .undef, .undef, .undef, .undef, .undef, .undef, .undef, .undef, .undef, .undef, .undef, .undef, .undef, .undef, .undef, .undef, .undef, .undef, .undef, .undef, .undef, .undef, .undef, .undef, .undef, .undef, .undef, .undef, .undef, .undef, .undef, .undef, .undef, .undef, .undef, .undef, .undef, .undef, .undef, .undef, .undef, .undef, .undef, .undef, .undef, .undef, .undef, .undef, .undef, .undef, .undef, .undef, .undef, .undef, .undef, .undef, .undef, .undef, .undef], [([1000], (.row false (some 2) v.2.2.2))]⟩
def f67_S3 (v : Nat × Int × Int × Int × (List CV)) : St := ⟨[(.osl [1000] (some 2) 0 v.1), .undef, (.v (CV.int .i64 v.2.1)), .undef, (.fn 60 []), .undef, .undef, .undef, .undef, .undef, .undef, .undef, .undef, .undef, (.v (CV.int .i64 v.2.2.1)), (.v (CV.int .i64 v.2.2.2.1)), .undef, .undef, .undef, .undef, .undef, .undef, .undef, .undef, .undef, .undef, .undef, .undef, .undef, .undef, .undef, .undef, .undef, .undef, .undef, .undef, .undef, .undef, .undef, .undef, .undef, .undef, .undef, .undef, .undef, .undef, .undef, .undef, .undef, .undef, .undef, .undef, .undef, .undef, .undef, .undef, .undef, .undef, .undef, .undef, .undef, .undef, .undef, .undef, .undef, .undef, .undef, .undef, .undef, .undef, .undef, .undef, .undef, .undef, .undef, .undef, .undef, .undef, .undef, .undef, .undef, .undef, .undef, .undef, .undef, .undef, .undef, .undef, .undef, .undef, .undef, .undef, .undef, .undef, .undef, .undef, .undef, .undef, .undef, .undef, .undef, .undef, .undef, .undef, .undef, .undef, .undef, .undef, .undef, .undef, .undef, .undef, .undef, .undef, .undef, .undef, .undef, .undef, .undef, .undef, .undef, .undef, .undef, .undef, .undef, .undef, .undef, .undef, .undef, .undef, .undef, .undef, .undef, .undef, .undef, .undef, .undef, .undef, .undef, .undef, .undef, .undef, .undef, .undef, .undef, .undef, .undef, .undef, .undef, .undef, .undef, .undef, .undef, .undef, .undef, .undef, .undef, .undef, .undef, .undef, .undef, .undef, .undef, .undef, .undef, .undef, .undef, .undef, .undef, .undef, .undef, .undef, .undef, .undef, .undef, .undef, .undef, .undef, .undef, .undef, .undef, .undef, .undef, .undef, .undef, .undef, .undef, .undef, .undef, .undef, .undef, .undef, .undef, .undef, .undef, .undef, .undef, .undef, .undef, .undef, .undef, .undef, .undef, .undef, .undef, .undef, .undef, .undef, .undef, .undef, .undef, .undef, .undef, .undef, .undef, .undef, .undef, .undef, .undef, .undef], [([1000], (.row false (some 2) v.2.2.2.2))]⟩
def f67_S4 (v : Nat × Int × Int × (List CV)) : St := ⟨[(.osl [1000] (some 2) 0 v.1), .undef, .undef, .undef, .undef, .undef, .undef, .undef, .undef, .undef, .undef, .undef, .undef, .undef, (.v (CV.int .i64 v.2.1)), .undef, .undef, (.v (CV.int .i64 v.2.2.1)), .undef, .undef, .undef, .undef, .undef, .undef, .undef, .undef, .undef, .undef, .undef, .undef, .undef, .undef, .undef, .undef, .undef, .undef, .undef, .undef, .undef, .undef, .undef, .undef, .undef, .undef, .undef, .undef, .undef, .undef, .undef, .undef, .undef, .undef, .undef, .undef, .undef, .undef, .undef, .undef, .undef, .undef, .undef, .undef, .undef, .undef, .undef, .undef, .undef, .undef, .undef, .undef, .undef, .undef, .undef, .undef, .undef, .undef, .undef, .undef, .undef, .undef, .undef, .undef, .undef, .undef, .undef, .undef, .undef, .undef, .undef, .undef, .undef, .undef, .undef, .undef, .undef, .undef, .undef, .undef, .undef, .undef, .undef, .undef, .undef, .undef, .undef, .undef, .undef, .undef, .undef, .undef, .undef, .undef, .undef, .undef, .undef, .undef, .undef, .undef, .undef, .undef, .undef, .undef, .undef, .undef, .undef, .undef, .undef, .undef, .undef, .undef, .undef, .undef, .undef, .undef, .undef, .undef, .undef, .undef, .undef, .undef, .undef, .undef, .undef, .undef, .undef, .undef, .undef, .undef, .undef, .undef, .undef, .undef, .undef, .undef, .undef, .undef, .undef, .undef, .undef, .undef, .undef, .undef, .undef, .undef, .undef, .undef, .undef, .undef, .undef, .undef, .undef, .undef, .undef, .undef, .undef, .undef, .undef, .undef, .undef, .undef, .undef, .undef, .undef, .undef, .undef, .undef, .undef, .undef, .undef, .undef, .undef, .undef, .undef, .undef, .undef, .undef, .undef, .undef, .undef, .undef, .undef, .undef, .undef, .undef, .undef, .undef, .undef, .undef, .undef, .undef, .undef, .undef, .undef, .undef, .undef, .undef, .undef, .undef, .undef, .undef], [([1000], (.row false (some 2) v.2.2.2))]⟩
def f67_S5 (v : Nat × Int × Int × Int × Int × Int × Int × Int × Int × (List CV)) : St := ⟨[(.osl [1000] (some 2) 0 v.1), (.v (CV.int .i64 v.2.1)), (.v (CV.int .i64 v.2.2.1)), (.v (CV.int .i64 v.2.2.2.1)), (.fn 60 []), .undef, .undef, .undef, .undef, .undef, .undef, .undef, .undef, .undef, .undef, .undef, .undef, .undef, (.v (CV.int .i64 v.2.2.2.2.1)), (.v (CV.int .i64 v.2.2.2.2.2.1)), (.v (CV.int .i64 v.2.2.2.2.2.2.1)), (.v (CV.int .i64 v.2.2.2.2.2.2.2.1)), (.v (CV.int .i64 v.2.2.2.2.2.2.2.2.1)), .undef, .undef, .undef, .undef, .undef, .undef, .undef, .undef, .undef, .undef, .undef, .undef, .undef, .undef, .undef, .undef, .undef, .undef, .undef, .undef, .undef, .undef, .undef, .undef, .undef, .undef, .undef, .undef, .undef, .undef, .undef, .undef, .undef, .undef, .undef, .undef, .undef, .undef, .undef, .undef, .undef, .undef, .undef, .undef, .undef, .undef, .undef, .undef, .undef, .undef, .undef, .undef, .undef, .undef, .undef, .undef, .undef, .undef, .undef, .undef, .undef, .undef, .undef, .undef, .undef, .undef, .undef, .undef, .undef, .undef, .undef, .undef, .undef, .undef, .undef, .undef, .undef, .undef, .undef, .undef, .undef, .undef, .undef, .undef, .undef, .undef, .undef, .undef, .undef, .undef, .undef, .undef, .undef, .undef, .undef, .undef, .undef, .undef, .undef, .undef, .undef, .undef, .undef, .undef, .undef, .undef, .undef, .undef, .undef, .undef, .undef, .undef, .undef, .undef, .undef, .undef, .undef, .undef, .undef, .undef, .undef, .undef, .undef, .undef, .undef, .undef, .undef, .undef, .undef, .undef, .undef, .undef, .undef, .undef, .undef, .undef, .undef, .undef, .undef, .undef, .undef, .undef, .undef, .undef, .undef, .undef, .undef, .undef, .undef, .undef, .undef, .undef, .undef, .undef, .undef, .undef, .undef, .undef, .undef, .undef, .undef, .undef, .undef, .undef, .undef, .undef, .undef, .undef, .undef, .undef, .undef, .undef, .undef, .undef, .undef, .undef, .undef, .undef, .undef, .undef, .undef, .undef, .undef, .undef, .undef, .undef, .undef, .undef, .undef, .undef, .undef, .undef, .undef, .undef, .undef, .undef, .undef], [([1000], (.row false (some 2) v.2.2.2.2.2.2.2.2.2))]⟩
def f67_J1 {X : Type} (R_f60 : f60_R) (R_f68 : f68_R) (R_f67 : f67_R) (k : Nat) (K : (List CV) → Option X) (v9_33 : Nat × Int × Int × Int × Int × Int × Int × Int × Int × (List CV)) (v44 : (List CV)) : Option X :=
(bif (decide (v9_33.2.2.2.2.1 < (IntKind.wrap .i64 (v9_33.2.2.2.2.2.1 - v9_33.2.2.2.2.2.2.1)))) then
(bif (decide ((IntKind.wrap .i64 (v9_33.2.2.2.2.2.1 - v9_33.2.2.2.2.2.2.1)) < v9_33.2.2.2.1)) then
R_f67 _ (fun u45 =>
K (u45)) (v9_33.1) (v9_33.2.2.2.2.1) ((IntKind.wrap .i64 (v9_33.2.2.2.2.2.1 - v9_33.2.2.2.2.2.2.1))) (v9_33.2.2.2.1) (v44)
else
K (v44))
else
K (v44))
def f67_J2 {X : Type} (R_f60 : f60_R) (R_f68 : f68_R) (R_f67 : f67_R) (k : Nat) (K : (List CV) → Option X) (v9_33 : Nat × Int × Int × Int × Int × Int × Int × Int × Int × (List CV)) (v42 : (List CV)) : Option X :=
(bif (decide (v9_33.2.1 < v9_33.2.2.2.2.2.2.1)) then
(bif (decide (v9_33.2.2.2.2.2.2.1 < v9_33.2.2.2.2.1)) then
R_f67 _ (fun u46 =>
f67_J1 R_f60 R_f68 R_f67 k K v9_33 (u46)) (v9_33.1) (v9_33.2.1) (v9_33.2.2.2.2.2.2.1) (v9_33.2.2.2.2.1) (v42)
else
f67_J1 R_f60 R_f68 R_f67 k K v9_33 (v42))
else
f67_J1 R_f60 R_f68 R_f67 k K v9_33 (v42))
def f67_J3 {X : Type} (R_f60 : f60_R) (R_f68 : f68_R) (R_f67 : f67_R) (k : Nat) (K : (List CV) → Option X) (loop5 : Nat × Int × Int × Int × Int × Int × Int × Int × Int × (List CV) → Option X) (x0 : Nat) (x1 : Int) (x2 : Int) (x3 : Int) (x4 : List CV) (v33 : Int × Int × Int × Int) : Option X :=
loop5 (x0, x1, x2, x3, v33.1, v33.2.1, v33.2.2.1, v33.2.2.2, (IntKind.wrap .i64 (v33.2.1 - 1)), x4)
def f67_T5 {X : Type} (R_f60 : f60_R) (R_f68 : f68_R) (R_f67 : f67_R) (k : Nat) (K : (List CV) → Option X)   (rec5 : Nat × Int × Int × Int × Int × Int × Int × Int × Int × (List CV) → Option X) (v9_33 : Nat × Int × Int × Int × Int × Int × Int × Int × Int × (List CV)) : Option X :=
(bif (decide (v9_33.2.2.2.2.2.2.1 < v9_33.2.2.2.2.2.2.2.1)) then
grd (decide (0 ≤ (IntKind.wrap .i64 (v9_33.2.2.2.2.2.2.2.2.1 - (IntKind.wrap .i64 (Int.fdiv (IntKind.wrap .u64 (IntKind.wrap .i64 (v9_33.2.2.2.2.2.2.1 + v9_33.2.2.2.2.2.2.2.1))) (2 ^ 1))))))) <|
grd (decide ((IntKind.wrap .i64 (v9_33.2.2.2.2.2.2.2.2.1 - (IntKind.wrap .i64 (Int.fdiv (IntKind.wrap .u64 (IntKind.wrap .i64 (v9_33.2.2.2.2.2.2.1 + v9_33.2.2.2.2.2.2.2.1))) (2 ^ 1))))) < (Nat.cast (v9_33.1) : Int))) <|
Option.bind (v9_33.2.2.2.2.2.2.2.2.2)[(0 + (Int.toNat (IntKind.wrap .i64 (v9_33.2.2.2.2.2.2.2.2.1 - (IntKind.wrap .i64 (Int.fdiv (IntKind.wrap .u64 (IntKind.wrap .i64 (v9_33.2.2.2.2.2.2.1 + v9_33.2.2.2.2.2.2.2.1))) (2 ^ 1)))))))]? fun e38 =>
grd (decide (0 ≤ (IntKind.wrap .i64 (Int.fdiv (IntKind.wrap .u64 (IntKind.wrap .i64 (v9_33.2.2.2.2.2.2.1 + v9_33.2.2.2.2.2.2.2.1))) (2 ^ 1))))) <|
grd (decide ((IntKind.wrap .i64 (Int.fdiv (IntKind.wrap .u64 (IntKind.wrap .i64 (v9_33.2.2.2.2.2.2.1 + v9_33.2.2.2.2.2.2.2.1))) (2 ^ 1))) < (Nat.cast (v9_33.1) : Int))) <|
Option.bind (v9_33.2.2.2.2.2.2.2.2.2)[(0 + (Int.toNat (IntKind.wrap .i64 (Int.fdiv (IntKind.wrap .u64 (IntKind.wrap .i64 (v9_33.2.2.2.2.2.2.1 + v9_33.2.2.2.2.2.2.2.1))) (2 ^ 1)))))]? fun e39 =>
R_f60 _ (fun u40 =>
(bif (!(decide (u40 < 0))) then
rec5 (v9_33.1, v9_33.2.1, v9_33.2.2.1, v9_33.2.2.2.1, v9_33.2.2.2.2.1, v9_33.2.2.2.2.2.1, (IntKind.wrap .i64 ((IntKind.wrap .i64 (Int.fdiv (IntKind.wrap .u64 (IntKind.wrap .i64 (v9_33.2.2.2.2.2.2.1 + v9_33.2.2.2.2.2.2.2.1))) (2 ^ 1))) + 1)), v9_33.2.2.2.2.2.2.2.1, v9_33.2.2.2.2.2.2.2.2.1, v9_33.2.2.2.2.2.2.2.2.2)
else
rec5 (v9_33.1, v9_33.2.1, v9_33.2.2.1, v9_33.2.2.2.1, v9_33.2.2.2.2.1, v9_33.2.2.2.2.2.1, v9_33.2.2.2.2.2.2.1, (IntKind.wrap .i64 (Int.fdiv (IntKind.wrap .u64 (IntKind.wrap .i64 (v9_33.2.2.2.2.2.2.1 + v9_33.2.2.2.2.2.2.2.1))) (2 ^ 1))), v9_33.2.2.2.2.2.2.2.2.1, v9_33.2.2.2.2.2.2.2.2.2))) (e38) (e39)
else
(bif (decide (v9_33.2.2.2.2.2.2.1 < v9_33.2.2.1)) then
(bif (decide (v9_33.2.2.1 < (IntKind.wrap .i64 (v9_33.2.2.2.2.2.1 - v9_33.2.2.2.2.2.2.1)))) then
R_f68 _ (fun u47 =>
f67_J2 R_f60 R_f68 R_f67 k K v9_33 (u47)) (v9_33.1) (v9_33.2.2.2.2.2.2.1) (v9_33.2.2.1) ((IntKind.wrap .i64 (v9_33.2.2.2.2.2.1 - v9_33.2.2.2.2.2.2.1))) (v9_33.2.2.2.2.2.2.2.2.2)
else
f67_J2 R_f60 R_f68 R_f67 k K v9_33 (v9_33.2.2.2.2.2.2.2.2.2))
else
f67_J2 R_f60 R_f68 R_f67 k K v9_33 (v9_33.2.2.2.2.2.2.2.2.2)))
def f67_L5 {X : Type} (R_f60 : f60_R) (R_f68 : f68_R) (R_f67 : f67_R) (k : Nat) (K : (List CV) → Option X)  (rec5 : Nat × Int × Int × Int × Int × Int × Int × Int × Int × (List CV) → Option X) (v : Nat × Int × Int × Int × Int × Int × Int × Int × Int × (List CV)) : Option X := f67_T5 R_f60 R_f68 R_f67 k K   rec5 v
set_option maxRecDepth 100000 in
theorem f67_L5_ev {X : Type} (R_f60 : f60_R) (R_f68 : f68_R) (R_f67 : f67_R) (hR_f60 : AnsOk Try.prog 60 (f60_cOf R_f60)) (hR_f68 : AnsOk Try.prog 68 (f68_cOf R_f68)) (hR_f67 : AnsOk Try.prog 67 (f67_cOf R_f67)) (k : Nat) (K : Out → Option X)  (r5 : St → Option X) (v : Nat × Int × Int × Int × Int × Int × Int × Int × Int × (List CV)) : loopB (f67_cx R_f60 R_f68 R_f67 hR_f60 hR_f68 hR_f67) k [.r, .r, .r, .r, .r, .r, .r, .l, .b] (Try.f67.body.getD .skip) (retK (f67_cx R_f60 R_f68 R_f67 hR_f60 hR_f68 hR_f67) [] Try.f67.results.toList K) [] r5 (f67_S5 v) = f67_T5 R_f60 R_f68 R_f67 k (fun u => K (f67_out u))   (fun v => r5 (f67_S5 v)) v := by kernel_rfl
theorem f67_L5_it {X : Type} (R_f60 : f60_R) (R_f68 : f68_R) (R_f67 : f67_R) (hR_f60 : AnsOk Try.prog 60 (f60_cOf R_f60)) (hR_f68 : AnsOk Try.prog 68 (f68_cOf R_f68)) (hR_f67 : AnsOk Try.prog 67 (f67_cOf R_f67)) (k : Nat) (K : Out → Option X)  : (fun v => iter (loopB (f67_cx R_f60 R_f68 R_f67 hR_f60 hR_f68 hR_f67) k [.r, .r, .r, .r, .r, .r, .r, .l, .b] (Try.f67.body.getD .skip) (retK (f67_cx R_f60 R_f68 R_f67 hR_f60 hR_f68 hR_f67) [] Try.f67.results.toList K) []) k (f67_S5 v)) = iterV (f67_L5 R_f60 R_f68 R_f67 k (fun u => K (f67_out u)) ) k :=
  iter_map (fun r5 v => (f67_L5_ev R_f60 R_f68 R_f67 hR_f60 hR_f68 hR_f67 k K  r5 v).trans rfl) k
def f67_T4 {X : Type} (R_f60 : f60_R) (R_f68 : f68_R) (R_f67 : f67_R) (k : Nat) (K : (List CV) → Option X)   (rec4 : Nat × Int × Int × (List CV) → Option X) (v10_23 : Nat × Int × Int × (List CV)) : Option X :=
(bif (decide (v10_23.2.2.1 > v10_23.2.1)) then
grd (decide (0 ≤ (IntKind.wrap .i64 (v10_23.2.2.1 - 1)))) <|
grd (decide ((IntKind.wrap .i64 (v10_23.2.2.1 - 1)) < (Nat.cast (v10_23.1) : Int))) <|
Option.bind (v10_23.2.2.2)[(0 + (Int.toNat (IntKind.wrap .i64 (v10_23.2.2.1 - 1))))]? fun e31 =>
grd (decide (0 ≤ v10_23.2.2.1)) <|
grd (decide (v10_23.2.2.1 < (Nat.cast (v10_23.1) : Int))) <|
Option.bind (v10_23.2.2.2)[(0 + (Int.toNat v10_23.2.2.1))]? fun e32 =>
grd (decide (0 ≤ v10_23.2.2.1)) <|
grd (decide (v10_23.2.2.1 < (Nat.cast (v10_23.1) : Int))) <|
grd (Nat.beq (CV.ncells e31) 2 && CV.isAgg e31) <|
grd (decide ((0 + (Int.toNat v10_23.2.2.1)) < (List.length v10_23.2.2.2))) <|
grd (decide (0 ≤ (IntKind.wrap .i64 (v10_23.2.2.1 - 1)))) <|
grd (decide ((IntKind.wrap .i64 (v10_23.2.2.1 - 1)) < (Nat.cast (v10_23.1) : Int))) <|
grd (Nat.beq (CV.ncells e32) 2 && CV.isAgg e32) <|
grd (decide ((0 + (Int.toNat (IntKind.wrap .i64 (v10_23.2.2.1 - 1)))) < (List.length (List.set v10_23.2.2.2 (0 + (Int.toNat v10_23.2.2.1)) e31)))) <|
rec4 (v10_23.1, v10_23.2.1, (IntKind.wrap .i64 (v10_23.2.2.1 - 1)), (List.set (List.set v10_23.2.2.2 (0 + (Int.toNat v10_23.2.2.1)) e31) (0 + (Int.toNat (IntKind.wrap .i64 (v10_23.2.2.1 - 1)))) e32))
else
K (v10_23.2.2.2))
def f67_L4 {X : Type} (R_f60 : f60_R) (R_f68 : f68_R) (R_f67 : f67_R) (k : Nat) (K : (List CV) → Option X)  (rec4 : Nat × Int × Int × (List CV) → Option X) (v : Nat × Int × Int × (List CV)) : Option X := f67_T4 R_f60 R_f68 R_f67 k K   rec4 v
set_option maxRecDepth 100000 in
theorem f67_L4_ev {X : Type} (R_f60 : f60_R) (R_f68 : f68_R) (R_f67 : f67_R) (hR_f60 : AnsOk Try.prog 60 (f60_cOf R_f60)) (hR_f68 : AnsOk Try.prog 68 (f68_cOf R_f68)) (hR_f67 : AnsOk Try.prog 67 (f67_cOf R_f67)) (k : Nat) (K : Out → Option X)  (r4 : St → Option X) (v : Nat × Int × Int × (List CV)) : loopB (f67_cx R_f60 R_f68 R_f67 hR_f60 hR_f68 hR_f67) k [.r, .l, .r, .t, .r, .r, .r, .l, .r, .b] (Try.f67.body.getD .skip) (retK (f67_cx R_f60 R_f68 R_f67 hR_f60 hR_f68 hR_f67) [] Try.f67.results.toList K) [] r4 (f67_S4 v) = f67_T4 R_f60 R_f68 R_f67 k (fun u => K (f67_out u))   (fun v => r4 (f67_S4 v)) v := by kernel_rfl
theorem f67_L4_it {X : Type} (R_f60 : f60_R) (R_f68 : f68_R) (R_f67 : f67_R) (hR_f60 : AnsOk Try.prog 60 (f60_cOf R_f60)) (hR_f68 : AnsOk Try.prog 68 (f68_cOf R_f68)) (hR_f67 : AnsOk Try.prog 67 (f67_cOf R_f67)) (k : Nat) (K : Out → Option X)  : (fun v => iter (loopB (f67_cx R_f60 R_f68 R_f67 hR_f60 hR_f68 hR_f67) k [.r, .l, .r, .t, .r, .r, .r, .l, .r, .b] (Try.f67.body.getD .skip) (retK (f67_cx R_f60 R_f68 R_f67 hR_f60 hR_f68 hR_f67) [] Try.f67.results.toList K) []) k (f67_S4 v)) = iterV (f67_L4 R_f60 R_f68 R_f67 k (fun u => K (f67_out u)) ) k :=
  iter_map (fun r4 v => (f67_L4_ev R_f60 R_f68 R_f67 hR_f60 hR_f68 hR_f67 k K  r4 v).trans rfl) k
def f67_T3 {X : Type} (R_f60 : f60_R) (R_f68 : f68_R) (R_f67 : f67_R) (k : Nat) (K : (List CV) → Option X)  (loop4 : Nat × Int × Int × (List CV) → Option X) (rec3 : Nat × Int × Int × Int × (List CV) → Option X) (v8_16 : Nat × Int × Int × Int × (List CV)) : Option X :=
(bif (decide (v8_16.2.2.1 < v8_16.2.2.2.1)) then
grd (decide (0 ≤ v8_16.2.1)) <|
grd (decide (v8_16.2.1 < (Nat.cast (v8_16.1) : Int))) <|
Option.bind (v8_16.2.2.2.2)[(0 + (Int.toNat v8_16.2.1))]? fun e21 =>
grd (decide (0 ≤ (IntKind.wrap .i64 (Int.fdiv (IntKind.wrap .u64 (IntKind.wrap .i64 (v8_16.2.2.1 + v8_16.2.2.2.1))) (2 ^ 1))))) <|
grd (decide ((IntKind.wrap .i64 (Int.fdiv (IntKind.wrap .u64 (IntKind.wrap .i64 (v8_16.2.2.1 + v8_16.2.2.2.1))) (2 ^ 1))) < (Nat.cast (v8_16.1) : Int))) <|
Option.bind (v8_16.2.2.2.2)[(0 + (Int.toNat (IntKind.wrap .i64 (Int.fdiv (IntKind.wrap .u64 (IntKind.wrap .i64 (v8_16.2.2.1 + v8_16.2.2.2.1))) (2 ^ 1)))))]? fun e22 =>
R_f60 _ (fun u23 =>
(bif (!(decide (u23 < 0))) then
rec3 (v8_16.1, v8_16.2.1, (IntKind.wrap .i64 ((IntKind.wrap .i64 (Int.fdiv (IntKind.wrap .u64 (IntKind.wrap .i64 (v8_16.2.2.1 + v8_16.2.2.2.1))) (2 ^ 1))) + 1)), v8_16.2.2.2.1, v8_16.2.2.2.2)
else
rec3 (v8_16.1, v8_16.2.1, v8_16.2.2.1, (IntKind.wrap .i64 (Int.fdiv (IntKind.wrap .u64 (IntKind.wrap .i64 (v8_16.2.2.1 + v8_16.2.2.2.1))) (2 ^ 1))), v8_16.2.2.2.2))) (e21) (e22)
else
loop4 (v8_16.1, v8_16.2.2.1, v8_16.2.1, v8_16.2.2.2.2))
def f67_L3 {X : Type} (R_f60 : f60_R) (R_f68 : f68_R) (R_f67 : f67_R) (k : Nat) (K : (List CV) → Option X)  (rec3 : Nat × Int × Int × Int × (List CV) → Option X) (v : Nat × Int × Int × Int × (List CV)) : Option X := f67_T3 R_f60 R_f68 R_f67 k K  (iterV (f67_L4 R_f60 R_f68 R_f67 k K ) k) rec3 v
set_option maxRecDepth 100000 in
theorem f67_L3_ev {X : Type} (R_f60 : f60_R) (R_f68 : f68_R) (R_f67 : f67_R) (hR_f60 : AnsOk Try.prog 60 (f60_cOf R_f60)) (hR_f68 : AnsOk Try.prog 68 (f68_cOf R_f68)) (hR_f67 : AnsOk Try.prog 67 (f67_cOf R_f67)) (k : Nat) (K : Out → Option X)  (r3 : St → Option X) (v : Nat × Int × Int × Int × (List CV)) : loopB (f67_cx R_f60 R_f68 R_f67 hR_f60 hR_f68 hR_f67) k [.r, .l, .r, .t, .r, .r, .l, .b] (Try.f67.body.getD .skip) (retK (f67_cx R_f60 R_f68 R_f67 hR_f60 hR_f68 hR_f67) [] Try.f67.results.toList K) [] r3 (f67_S3 v) = f67_T3 R_f60 R_f68 R_f67 k (fun u => K (f67_out u))  (fun v => iter (loopB (f67_cx R_f60 R_f68 R_f67 hR_f60 hR_f68 hR_f67) k [.r, .l, .r, .t, .r, .r, .r, .l, .r, .b] (Try.f67.body.getD .skip) (retK (f67_cx R_f60 R_f68 R_f67 hR_f60 hR_f68 hR_f67) [] Try.f67.results.toList K) []) k (f67_S4 v)) (fun v => r3 (f67_S3 v)) v := by kernel_rfl
theorem f67_L3_it {X : Type} (R_f60 : f60_R) (R_f68 : f68_R) (R_f67 : f67_R) (hR_f60 : AnsOk Try.prog 60 (f60_cOf R_f60)) (hR_f68 : AnsOk Try.prog 68 (f68_cOf R_f68)) (hR_f67 : AnsOk Try.prog 67 (f67_cOf R_f67)) (k : Nat) (K : Out → Option X)  : (fun v => iter (loopB (f67_cx R_f60 R_f68 R_f67 hR_f60 hR_f68 hR_f67) k [.r, .l, .r, .t, .r, .r, .l, .b] (Try.f67.body.getD .skip) (retK (f67_cx R_f60 R_f68 R_f67 hR_f60 hR_f68 hR_f67) [] Try.f67.results.toList K) []) k (f67_S3 v)) = iterV (f67_L3 R_f60 R_f68 R_f67 k (fun u => K (f67_out u)) ) k :=
  iter_map (fun r3 v => (f67_L3_ev R_f60 R_f68 R_f67 hR_f60 hR_f68 hR_f67 k K  r3 v).trans (by rw [f67_L4_it R_f60 R_f68 R_f67 hR_f60 hR_f68 hR_f67 k K ]; rfl)) k
def f67_T2 {X : Type} (R_f60 : f60_R) (R_f68 : f68_R) (R_f67 : f67_R) (k : Nat) (K : (List CV) → Option X)   (rec2 : Nat × Int × Int × (List CV) → Option X) (v9_7 : Nat × Int × Int × (List CV)) : Option X :=
(bif (decide (v9_7.2.2.1 < (IntKind.wrap .i64 (v9_7.2.1 - 1)))) then
grd (decide (0 ≤ (IntKind.wrap .i64 (v9_7.2.2.1 + 1)))) <|
grd (decide ((IntKind.wrap .i64 (v9_7.2.2.1 + 1)) < (Nat.cast (v9_7.1) : Int))) <|
Option.bind (v9_7.2.2.2)[(0 + (Int.toNat (IntKind.wrap .i64 (v9_7.2.2.1 + 1))))]? fun e15 =>
grd (decide (0 ≤ v9_7.2.2.1)) <|
grd (decide (v9_7.2.2.1 < (Nat.cast (v9_7.1) : Int))) <|
Option.bind (v9_7.2.2.2)[(0 + (Int.toNat v9_7.2.2.1))]? fun e16 =>
grd (decide (0 ≤ v9_7.2.2.1)) <|
grd (decide (v9_7.2.2.1 < (Nat.cast (v9_7.1) : Int))) <|
grd (Nat.beq (CV.ncells e15) 2 && CV.isAgg e15) <|
grd (decide ((0 + (Int.toNat v9_7.2.2.1)) < (List.length v9_7.2.2.2))) <|
grd (decide (0 ≤ (IntKind.wrap .i64 (v9_7.2.2.1 + 1)))) <|
grd (decide ((IntKind.wrap .i64 (v9_7.2.2.1 + 1)) < (Nat.cast (v9_7.1) : Int))) <|
grd (Nat.beq (CV.ncells e16) 2 && CV.isAgg e16) <|
grd (decide ((0 + (Int.toNat (IntKind.wrap .i64 (v9_7.2.2.1 + 1)))) < (List.length (List.set v9_7.2.2.2 (0 + (Int.toNat v9_7.2.2.1)) e15)))) <|
rec2 (v9_7.1, v9_7.2.1, (IntKind.wrap .i64 (v9_7.2.2.1 + 1)), (List.set (List.set v9_7.2.2.2 (0 + (Int.toNat v9_7.2.2.1)) e15) (0 + (Int.toNat (IntKind.wrap .i64 (v9_7.2.2.1 + 1)))) e16))
else
K (v9_7.2.2.2))
def f67_L2 {X : Type} (R_f60 : f60_R) (R_f68 : f68_R) (R_f67 : f67_R) (k : Nat) (K : (List CV) → Option X)  (rec2 : Nat × Int × Int × (List CV) → Option X) (v : Nat × Int × Int × (List CV)) : Option X := f67_T2 R_f60 R_f68 R_f67 k K   rec2 v
set_option maxRecDepth 100000 in
theorem f67_L2_ev {X : Type} (R_f60 : f60_R) (R_f68 : f68_R) (R_f67 : f67_R) (hR_f60 : AnsOk Try.prog 60 (f60_cOf R_f60)) (hR_f68 : AnsOk Try.prog 68 (f68_cOf R_f68)) (hR_f67 : AnsOk Try.prog 67 (f67_cOf R_f67)) (k : Nat) (K : Out → Option X)  (r2 : St → Option X) (v : Nat × Int × Int × (List CV)) : loopB (f67_cx R_f60 R_f68 R_f67 hR_f60 hR_f68 hR_f67) k [.l, .r, .t, .r, .r, .r, .l, .r, .b] (Try.f67.body.getD .skip) (retK (f67_cx R_f60 R_f68 R_f67 hR_f60 hR_f68 hR_f67) [] Try.f67.results.toList K) [] r2 (f67_S2 v) = f67_T2 R_f60 R_f68 R_f67 k (fun u => K (f67_out u))   (fun v => r2 (f67_S2 v)) v := by kernel_rfl
theorem f67_L2_it {X : Type} (R_f60 : f60_R) (R_f68 : f68_R) (R_f67 : f67_R) (hR_f60 : AnsOk Try.prog 60 (f60_cOf R_f60)) (hR_f68 : AnsOk Try.prog 68 (f68_cOf R_f68)) (hR_f67 : AnsOk Try.prog 67 (f67_cOf R_f67)) (k : Nat) (K : Out → Option X)  : (fun v => iter (loopB (f67_cx R_f60 R_f68 R_f67 hR_f60 hR_f68 hR_f67) k [.l, .r, .t, .r, .r, .r, .l, .r, .b] (Try.f67.body.getD .skip) (retK (f67_cx R_f60 R_f68 R_f67 hR_f60 hR_f68 hR_f67) [] Try.f67.results.toList K) []) k (f67_S2 v)) = iterV (f67_L2 R_f60 R_f68 R_f67 k (fun u => K (f67_out u)) ) k :=
  iter_map (fun r2 v => (f67_L2_ev R_f60 R_f68 R_f67 hR_f60 hR_f68 hR_f67 k K  r2 v).trans rfl) k
def f67_T1 {X : Type} (R_f60 : f60_R) (R_f68 : f68_R) (R_f67 : f67_R) (k : Nat) (K : (List CV) → Option X)  (loop2 : Nat × Int × Int × (List CV) → Option X) (rec1 : Nat × Int × Int × Int × (List CV) → Option X) (v7_0 : Nat × Int × Int × Int × (List CV)) : Option X :=
(bif (decide (v7_0.2.2.1 < v7_0.2.2.2.1)) then
grd (decide (0 ≤ (IntKind.wrap .i64 (Int.fdiv (IntKind.wrap .u64 (IntKind.wrap .i64 (v7_0.2.2.1 + v7_0.2.2.2.1))) (2 ^ 1))))) <|
grd (decide ((IntKind.wrap .i64 (Int.fdiv (IntKind.wrap .u64 (IntKind.wrap .i64 (v7_0.2.2.1 + v7_0.2.2.2.1))) (2 ^ 1))) < (Nat.cast (v7_0.1) : Int))) <|
Option.bind (v7_0.2.2.2.2)[(0 + (Int.toNat (IntKind.wrap .i64 (Int.fdiv (IntKind.wrap .u64 (IntKind.wrap .i64 (v7_0.2.2.1 + v7_0.2.2.2.1))) (2 ^ 1)))))]? fun e5 =>
grd (decide (0 ≤ v7_0.2.1)) <|
grd (decide (v7_0.2.1 < (Nat.cast (v7_0.1) : Int))) <|
Option.bind (v7_0.2.2.2.2)[(0 + (Int.toNat v7_0.2.1))]? fun e6 =>
R_f60 _ (fun u7 =>
(bif (decide (u7 < 0)) then
rec1 (v7_0.1, v7_0.2.1, (IntKind.wrap .i64 ((IntKind.wrap .i64 (Int.fdiv (IntKind.wrap .u64 (IntKind.wrap .i64 (v7_0.2.2.1 + v7_0.2.2.2.1))) (2 ^ 1))) + 1)), v7_0.2.2.2.1, v7_0.2.2.2.2)
else
rec1 (v7_0.1, v7_0.2.1, v7_0.2.2.1, (IntKind.wrap .i64 (Int.fdiv (IntKind.wrap .u64 (IntKind.wrap .i64 (v7_0.2.2.1 + v7_0.2.2.2.1))) (2 ^ 1))), v7_0.2.2.2.2))) (e5) (e6)
else
loop2 (v7_0.1, v7_0.2.2.1, v7_0.2.1, v7_0.2.2.2.2))
def f67_L1 {X : Type} (R_f60 : f60_R) (R_f68 : f68_R) (R_f67 : f67_R) (k : Nat) (K : (List CV) → Option X)  (rec1 : Nat × Int × Int × Int × (List CV) → Option X) (v : Nat × Int × Int × Int × (List CV)) : Option X := f67_T1 R_f60 R_f68 R_f67 k K  (iterV (f67_L2 R_f60 R_f68 R_f67 k K ) k) rec1 v
set_option maxRecDepth 100000 in
theorem f67_L1_ev {X : Type} (R_f60 : f60_R) (R_f68 : f68_R) (R_f67 : f67_R) (hR_f60 : AnsOk Try.prog 60 (f60_cOf R_f60)) (hR_f68 : AnsOk Try.prog 68 (f68_cOf R_f68)) (hR_f67 : AnsOk Try.prog 67 (f67_cOf R_f67)) (k : Nat) (K : Out → Option X)  (r1 : St → Option X) (v : Nat × Int × Int × Int × (List CV)) : loopB (f67_cx R_f60 R_f68 R_f67 hR_f60 hR_f68 hR_f67) k [.l, .r, .t, .r, .r, .l, .b] (Try.f67.body.getD .skip) (retK (f67_cx R_f60 R_f68 R_f67 hR_f60 hR_f68 hR_f67) [] Try.f67.results.toList K) [] r1 (f67_S1 v) = f67_T1 R_f60 R_f68 R_f67 k (fun u => K (f67_out u))  (fun v => iter (loopB (f67_cx R_f60 R_f68 R_f67 hR_f60 hR_f68 hR_f67) k [.l, .r, .t, .r, .r, .r, .l, .r, .b] (Try.f67.body.getD .skip) (retK (f67_cx R_f60 R_f68 R_f67 hR_f60 hR_f68 hR_f67) [] Try.f67.results.toList K) []) k (f67_S2 v)) (fun v => r1 (f67_S1 v)) v := by kernel_rfl
theorem f67_L1_it {X : Type} (R_f60 : f60_R) (R_f68 : f68_R) (R_f67 : f67_R) (hR_f60 : AnsOk Try.prog 60 (f60_cOf R_f60)) (hR_f68 : AnsOk Try.prog 68 (f68_cOf R_f68)) (hR_f67 : AnsOk Try.prog 67 (f67_cOf R_f67)) (k : Nat) (K : Out → Option X)  : (fun v => iter (loopB (f67_cx R_f60 R_f68 R_f67 hR_f60 hR_f68 hR_f67) k [.l, .r, .t, .r, .r, .l, .b] (Try.f67.body.getD .skip) (retK (f67_cx R_f60 R_f68 R_f67 hR_f60 hR_f68 hR_f67) [] Try.f67.results.toList K) []) k (f67_S1 v)) = iterV (f67_L1 R_f60 R_f68 R_f67 k (fun u => K (f67_out u)) ) k :=
  iter_map (fun r1 v => (f67_L1_ev R_f60 R_f68 R_f67 hR_f60 hR_f68 hR_f67 k K  r1 v).trans (by rw [f67_L2_it R_f60 R_f68 R_f67 hR_f60 hR_f68 hR_f67 k K ]; rfl)) k
def f67_T {X : Type} (R_f60 : f60_R) (R_f68 : f68_R) (R_f67 : f67_R) (k : Nat) (K : (List CV) → Option X) (loop1 : Nat × Int × Int × Int × (List CV) → Option X) (loop3 : Nat × Int × Int × Int × (List CV) → Option X) (loop5 : Nat × Int × Int × Int × Int × Int × Int × Int × Int × (List CV) → Option X) (x0 : Nat) (x1 : Int) (x2 : Int) (x3 : Int) (x4 : List CV) : Option X :=
(bif ((IntKind.wrap .i64 (x2 - x1)) == 1) then
loop1 (x0, x1, x2, x3, x4)
else
(bif ((IntKind.wrap .i64 (x3 - x2)) == 1) then
loop3 (x0, x2, x1, x2, x4)
else
(bif (decide (x2 > (IntKind.wrap .i64 (Int.fdiv (IntKind.wrap .u64 (IntKind.wrap .i64 (x1 + x3))) (2 ^ 1))))) then
f67_J3 R_f60 R_f68 R_f67 k K loop5 x0 x1 x2 x3 x4 ((IntKind.wrap .i64 (Int.fdiv (IntKind.wrap .u64 (IntKind.wrap .i64 (x1 + x3))) (2 ^ 1))), (IntKind.wrap .i64 ((IntKind.wrap .i64 (Int.fdiv (IntKind.wrap .u64 (IntKind.wrap .i64 (x1 + x3))) (2 ^ 1))) + x2)), (IntKind.wrap .i64 ((IntKind.wrap .i64 ((IntKind.wrap .i64 (Int.fdiv (IntKind.wrap .u64 (IntKind.wrap .i64 (x1 + x3))) (2 ^ 1))) + x2)) - x3)), (IntKind.wrap .i64 (Int.fdiv (IntKind.wrap .u64 (IntKind.wrap .i64 (x1 + x3))) (2 ^ 1))))
else
f67_J3 R_f60 R_f68 R_f67 k K loop5 x0 x1 x2 x3 x4 ((IntKind.wrap .i64 (Int.fdiv (IntKind.wrap .u64 (IntKind.wrap .i64 (x1 + x3))) (2 ^ 1))), (IntKind.wrap .i64 ((IntKind.wrap .i64 (Int.fdiv (IntKind.wrap .u64 (IntKind.wrap .i64 (x1 + x3))) (2 ^ 1))) + x2)), x1, x2))))
/-- "slices.symMergeCmpFunc[outpost/api.Opt]" -/
def f67_A (R_f60 : f60_R) (R_f68 : f68_R) (R_f67 : f67_R) (k : Nat) : f67_R := fun X K x0 x1 x2 x3 x4 => f67_T R_f60 R_f68 R_f67 k K (iterV (f67_L1 R_f60 R_f68 R_f67 k K) k) (iterV (f67_L3 R_f60 R_f68 R_f67 k K) k) (iterV (f67_L5 R_f60 R_f68 R_f67 k K) k) x0 x1 x2 x3 x4
set_option maxRecDepth 100000 in
theorem f67_ev' {X : Type} (R_f60 : f60_R) (R_f68 : f68_R) (R_f67 : f67_R) (hR_f60 : AnsOk Try.prog 60 (f60_cOf R_f60)) (hR_f68 : AnsOk Try.prog 68 (f68_cOf R_f68)) (hR_f67 : AnsOk Try.prog 67 (f67_cOf R_f67)) (k : Nat) (K : Out → Option X) (x0 : Nat) (x1 : Int) (x2 : Int) (x3 : Int) (x4 : List CV) : evFn (f67_cx R_f60 R_f68 R_f67 hR_f60 hR_f68 hR_f67) [] k Try.f67.ntmps Try.f67.results.toList (Try.f67.body.getD .skip) [(.osl [1000] (some 2) 0 x0), (.v (CV.int .i64 x1)), (.v (CV.int .i64 x2)), (.v (CV.int .i64 x3)), (.fn 60 [])] [([1000], (.row false (some 2) x4))] K = f67_T R_f60 R_f68 R_f67 k (fun u => K (f67_out u)) (fun v => iter (loopB (f67_cx R_f60 R_f68 R_f67 hR_f60 hR_f68 hR_f67) k [.l, .r, .t, .r, .r, .l, .b] (Try.f67.body.getD .skip) (retK (f67_cx R_f60 R_f68 R_f67 hR_f60 hR_f68 hR_f67) [] Try.f67.results.toList K) []) k (f67_S1 v)) (fun v => iter (loopB (f67_cx R_f60 R_f68 R_f67 hR_f60 hR_f68 hR_f67) k [.r, .l, .r, .t, .r, .r, .l, .b] (Try.f67.body.getD .skip) (retK (f67_cx R_f60 R_f68 R_f67 hR_f60 hR_f68 hR_f67) [] Try.f67.results.toList K) []) k (f67_S3 v)) (fun v => iter (loopB (f67_cx R_f60 R_f68 R_f67 hR_f60 hR_f68 hR_f67) k [.r, .r, .r, .r, .r, .r, .r, .l, .b] (Try.f67.body.getD .skip) (retK (f67_cx R_f60 R_f68 R_f67 hR_f60 hR_f68 hR_f67) [] Try.f67.results.toList K) []) k (f67_S5 v)) x0 x1 x2 x3 x4 := by kernel_rfl
theorem f67_ev {X : Type} (R_f60 : f60_R) (R_f68 : f68_R) (R_f67 : f67_R) (hR_f60 : AnsOk Try.prog 60 (f60_cOf R_f60)) (hR_f68 : AnsOk Try.prog 68 (f68_cOf R_f68)) (hR_f67 : AnsOk Try.prog 67 (f67_cOf R_f67)) (k : Nat) (K : Out → Option X) (x0 : Nat) (x1 : Int) (x2 : Int) (x3 : Int) (x4 : List CV) : evFn (f67_cx R_f60 R_f68 R_f67 hR_f60 hR_f68 hR_f67) [] k Try.f67.ntmps Try.f67.results.toList (Try.f67.body.getD .skip) [(.osl [1000] (some 2) 0 x0), (.v (CV.int .i64 x1)), (.v (CV.int .i64 x2)), (.v (CV.int .i64 x3)), (.fn 60 [])] [([1000], (.row false (some 2) x4))] K = f67_A R_f60 R_f68 R_f67 k X (fun u => K (f67_out u)) x0 x1 x2 x3 x4 := (f67_ev' R_f60 R_f68 R_f67 hR_f60 hR_f68 hR_f67 k K x0 x1 x2 x3 x4).trans (by rw [f67_L1_it R_f60 R_f68 R_f67 hR_f60 hR_f68 hR_f67 k K, f67_L3_it R_f60 R_f68 R_f67 hR_f60 hR_f68 hR_f67 k K, f67_L5_it R_f60 R_f68 R_f67 hR_f60 hR_f68 hR_f67 k K]; rfl)
theorem f67_okA (R_f60 : f60_R) (R_f68 : f68_R) (R_f67 : f67_R) (hR_f60 : AnsOk Try.prog 60 (f60_cOf R_f60)) (hR_f68 : AnsOk Try.prog 68 (f68_cOf R_f68)) (hR_f67 : AnsOk Try.prog 67 (f67_cOf R_f67)) (k : Nat) : AnsOk Try.prog 67 (f67_cOf (f67_A R_f60 R_f68 R_f67 k)) := by
  intro X xs ns K x h
  unfold f67_cOf at h ⊢
  split at h
  · exact ans_main S (f67_Cok R_f60 R_f68 R_f67 hR_f60 hR_f68 hR_f67) Try.func67 (ent_of Try.func67 (by kernel_rfl) rfl) rfl (fun X K => f67_ev R_f60 R_f68 R_f67 hR_f60 hR_f68 hR_f67 k K _ _ _ _ _) h
  · cases h
def f67_r : Nat → f67_R
  | 0 => fun _ _ _ _ _ _ _ => none
  | k + 1 => f67_A (fun X => @f60 X k) (fun X => @f68 X k) (f67_r k) k
theorem f67_okr : ∀ k, AnsOk Try.prog 67 (f67_cOf (f67_r k))
  | 0 => by
    intro X xs ns K x h
    unfold f67_cOf at h
    split at h <;> cases h
  | k + 1 => f67_okA (fun X => @f60 X k) (fun X => @f68 X k) (f67_r k) (f60_ok k) (f68_ok k) (f67_okr k) k
def f67 {X : Type} (k : Nat) (K : (List CV) → Option X) (x0 : Nat) (x1 : Int) (x2 : Int) (x3 : Int) (x4 : List CV) : Option X := f67_r k X K x0 x1 x2 x3 x4
theorem f67_ok (k : Nat) : AnsOk Try.prog 67 (f67_cOf (fun X => @f67 X k)) := f67_okr k
abbrev f64_R : Type 1 := (X : Type) → ((List CV) → Option X) → Nat → Int → (List CV) → Option X
def f64_out (u : (List CV)) : Out := ⟨(.tup []), [([1000], (.row false (some 2) u))]⟩
def f64_cOf (R : f64_R) : FnC := fun X xs ns K => match xs, ns with
  | [(.osl [1000] (some 2) 0 x0), (.v (CV.int .i64 x1)), (.fn 60 [])], [([1000], (.row false (some 2) x2))] => R X (fun u => K (f64_out u)) x0 x1 x2
  | _, _ => none
def f64_plan : Nat → Option (List Nat × List Wk)
  | 0 => some ([0, 1, 2], [])
  | 1 => some ([0, 1, 2, 6], [])
  | 2 => some ([0, 1, 2, 6, 7, 8], [])
  | 3 => some ([0, 1, 2, 6, 7, 8], [])
  | 4 => some ([0, 1, 2, 6, 8], [])
  | 5 => some ([0, 1, 2, 6, 7, 8], [])
  | 6 => some ([0, 1, 2, 6, 7], [])
  | 7 => some ([0, 1, 2, 6], [])
  | 8 => some ([0, 1, 2, 6], [])
  | 9 => some ([0, 1, 2, 6, 7, 8], [])
  | 10 => some ([0, 1, 2, 6, 7, 8], [])
  | 11 => some ([0, 1, 2, 6, 8], [])
  | 12 => some ([0, 1, 2, 6, 7, 8], [])
  | 13 => some ([0, 1, 2, 6, 7], [])
  | 14 => some ([0, 1, 2, 6, 7, 9], [])
  | 15 => some ([0, 1, 2, 6, 7, 9], [])
  | 16 => some ([0, 1, 2, 6], [])
  | _ => none
def f64_C (R_f66 : f66_R) (R_f67 : f67_R) : Fns := (orC 66 (f66_cOf R_f66) (orC 67 (f67_cOf R_f67) noC))
theorem f64_Cok (R_f66 : f66_R) (R_f67 : f67_R) (hR_f66 : AnsOk Try.prog 66 (f66_cOf R_f66)) (hR_f67 : AnsOk Try.prog 67 (f67_cOf R_f67)) : CsOk Try.prog (f64_C R_f66 R_f67) := (orC_ok hR_f66 (orC_ok hR_f67 noC_ok))
def f64_cx (R_f66 : f66_R) (R_f67 : f67_R) (hR_f66 : AnsOk Try.prog 66 (f66_cOf R_f66)) (hR_f67 : AnsOk Try.prog 67 (f67_cOf R_f67)) : Cx := mkCx (tabOf rows) (f64_C R_f66 R_f67) md (cmpIn cmps) f64_plan (f64_Cok R_f66 R_f67 hR_f66 hR_f67)
def f64_S1 (v : Nat × Int × Int × Int × (List CV)) : St := ⟨[(.osl [1000] (some 2) 0 v.1), (.v (CV.int .i64 v.2.1)), (.fn 60 []), .undef, .undef, .undef, (.v (CV.int .i64 20)), (.v (CV.int .i64 v.2.2.1)), (.v (CV.int .i64 v.2.2.2.1)), .undef, .undef, .undef, .undef, .undef, .undef, .undef, .undef, .undef, .undef, .undef, .undef, .undef, .undef, .undef, .undef, .undef, .undef, .undef, .undef, .undef, .undef, .undef, .undef, .undef, .undef, .undef, .undef, .undef, .undef, .undef, .undef, .undef, .undef, .undef, .undef, .undef, .undef, .undef, .undef, .undef, .undef, .undef, .undef, .undef, .undef, .undef, .undef, .undef, .undef, .undef, .undef, .undef, .undef], [([1000], (.row false (some 2) v.2.2.2.2))]⟩
def f64_S2 (v : Nat × Int × Int × (List CV)) : St := ⟨[(.osl [1000] (some 2) 0 v.1), (.v (CV.int .i64 v.2.1)), (.fn 60 []), .undef, .undef, .undef, (.v (CV.int .i64 v.2.2.1)), .undef, .undef, .undef, .undef, .undef, .undef, .undef, .undef, .undef, .undef, .undef, .undef, .undef, .undef, .undef, .undef, .undef, .undef, .undef, .undef, .undef, .undef, .undef, .undef, .undef, .undef, .undef, .undef, .undef, .undef, .undef, .undef, .undef, .undef, .undef, .undef, .undef, .undef, .undef, .undef, .undef, .undef, .undef, .undef, .undef, .undef, .undef, .undef, .undef, .undef, .undef, .undef, .undef, .undef, .undef, .undef], [([1000], (.row false (some 2) v.2.2.2))]⟩
def f64_S3 (v : Nat × Int × Int × Int × Int × (List CV)) : St := ⟨[(.osl [1000] (some 2) 0 v.1), (.v (CV.int .i64 v.2.1)), (.fn 60 []), .undef, .undef, .undef, (.v (CV.int .i64 v.2.2.1)), (.v (CV.int .i64 v.2.2.2.1)), (.v (CV.int .i64 v.2.2.2.2.1)), .undef, .undef, .undef, .undef, .undef, .undef, .undef, .undef, .undef, .undef, .undef, .undef, .undef, .undef, .undef, .undef, .undef, .undef, .undef, .undef, .undef, .undef, .undef, .undef, .undef, .undef, .undef, .undef, .undef, .undef, .undef, .undef, .undef, .undef, .undef, .undef, .undef, .undef, .undef, .undef, .undef, .undef, .undef, .undef, .undef, .undef, .undef, .undef, .undef, .undef, .undef, .undef, .undef, .undef], [([1000], (.row false (some 2) v.2.2.2.2.2))]⟩
def f64_J1 {X : Type} (R_f66 : f66_R) (R_f67 : f67_R) (k : Nat) (K : (List CV) → Option X) (rec2 : Nat × Int × Int × (List CV) → Option X) (v11_10 : Nat × Int × Int × Int × Int × (List CV)) (v15 : (List CV)) : Option X :=
rec2 (v11_10.1, v11_10.2.1, (IntKind.wrap .i64 (v11_10.2.2.1 * 2)), v15)
def f64_T3 {X : Type} (R_f66 : f66_R) (R_f67 : f67_R) (k : Nat) (K : (List CV) → Option X) (rec2 : Nat × Int × Int × (List CV) → Option X)  (rec3 : Nat × Int × Int × Int × Int × (List CV) → Option X) (v11_10 : Nat × Int × Int × Int × Int × (List CV)) : Option X :=
(bif (decide (v11_10.2.2.2.2.1 ≤ v11_10.2.1)) then
R_f67 _ (fun u13 =>
rec3 (v11_10.1, v11_10.2.1, v11_10.2.2.1, v11_10.2.2.2.2.1, (IntKind.wrap .i64 (v11_10.2.2.2.2.1 + (IntKind.wrap .i64 (2 * v11_10.2.2.1)))), u13)) (v11_10.1) (v11_10.2.2.2.1) ((IntKind.wrap .i64 (v11_10.2.2.2.1 + v11_10.2.2.1))) (v11_10.2.2.2.2.1) (v11_10.2.2.2.2.2)
else
(bif (decide ((IntKind.wrap .i64 (v11_10.2.2.2.1 + v11_10.2.2.1)) < v11_10.2.1)) then
R_f67 _ (fun u16 =>
f64_J1 R_f66 R_f67 k K rec2 v11_10 (u16)) (v11_10.1) (v11_10.2.2.2.1) ((IntKind.wrap .i64 (v11_10.2.2.2.1 + v11_10.2.2.1))) (v11_10.2.1) (v11_10.2.2.2.2.2)
else
f64_J1 R_f66 R_f67 k K rec2 v11_10 (v11_10.2.2.2.2.2)))
def f64_L3 {X : Type} (R_f66 : f66_R) (R_f67 : f67_R) (k : Nat) (K : (List CV) → Option X) (rec2 : Nat × Int × Int × (List CV) → Option X) (rec3 : Nat × Int × Int × Int × Int × (List CV) → Option X) (v : Nat × Int × Int × Int × Int × (List CV)) : Option X := f64_T3 R_f66 R_f67 k K rec2  rec3 v
set_option maxRecDepth 100000 in
theorem f64_L3_ev {X : Type} (R_f66 : f66_R) (R_f67 : f67_R) (hR_f66 : AnsOk Try.prog 66 (f66_cOf R_f66)) (hR_f67 : AnsOk Try.prog 67 (f67_cOf R_f67)) (k : Nat) (K : Out → Option X) (r2 : St → Option X) (r3 : St → Option X) (v : Nat × Int × Int × Int × Int × (List CV)) : loopB (f64_cx R_f66 R_f67 hR_f66 hR_f67) k [.r, .r, .r, .r, .b, .o, .r, .b, .r, .l, .b] (Try.f64.body.getD .skip) (retK (f64_cx R_f66 R_f67 hR_f66 hR_f67) [] Try.f64.results.toList K) [r2] r3 (f64_S3 v) = f64_T3 R_f66 R_f67 k (fun u => K (f64_out u)) (fun v => r2 (f64_S2 v))  (fun v => r3 (f64_S3 v)) v := by kernel_rfl
theorem f64_L3_it {X : Type} (R_f66 : f66_R) (R_f67 : f67_R) (hR_f66 : AnsOk Try.prog 66 (f66_cOf R_f66)) (hR_f67 : AnsOk Try.prog 67 (f67_cOf R_f67)) (k : Nat) (K : Out → Option X) (r2 : St → Option X) : (fun v => iter (loopB (f64_cx R_f66 R_f67 hR_f66 hR_f67) k [.r, .r, .r, .r, .b, .o, .r, .b, .r, .l, .b] (Try.f64.body.getD .skip) (retK (f64_cx R_f66 R_f67 hR_f66 hR_f67) [] Try.f64.results.toList K) [r2]) k (f64_S3 v)) = iterV (f64_L3 R_f66 R_f67 k (fun u => K (f64_out u)) (fun v => r2 (f64_S2 v))) k :=
  iter_map (fun r3 v => (f64_L3_ev R_f66 R_f67 hR_f66 hR_f67 k K r2 r3 v).trans rfl) k
def f64_T2 {X : Type} (R_f66 : f66_R) (R_f67 : f67_R) (k : Nat) (K : (List CV) → Option X)  (loop3 : Nat × Int × Int × Int × Int × (List CV) → Option X) (rec2 : Nat × Int × Int × (List CV) → Option X) (v5_4 : Nat × Int × Int × (List CV)) : Option X :=
(bif (decide (v5_4.2.2.1 < v5_4.2.1)) then
loop3 (v5_4.1, v5_4.2.1, v5_4.2.2.1, 0, (IntKind.wrap .i64 (2 * v5_4.2.2.1)), v5_4.2.2.2)
else
K (v5_4.2.2.2))
def f64_L2 {X : Type} (R_f66 : f66_R) (R_f67 : f67_R) (k : Nat) (K : (List CV) → Option X)  (rec2 : Nat × Int × Int × (List CV) → Option X) (v : Nat × Int × Int × (List CV)) : Option X := f64_T2 R_f66 R_f67 k K  (iterV (f64_L3 R_f66 R_f67 k K rec2) k) rec2 v
set_option maxRecDepth 100000 in
theorem f64_L2_ev {X : Type} (R_f66 : f66_R) (R_f67 : f67_R) (hR_f66 : AnsOk Try.prog 66 (f66_cOf R_f66)) (hR_f67 : AnsOk Try.prog 67 (f67_cOf R_f67)) (k : Nat) (K : Out → Option X)  (r2 : St → Option X) (v : Nat × Int × Int × (List CV)) : loopB (f64_cx R_f66 R_f67 hR_f66 hR_f67) k [.r, .r, .r, .r, .b] (Try.f64.body.getD .skip) (retK (f64_cx R_f66 R_f67 hR_f66 hR_f67) [] Try.f64.results.toList K) [] r2 (f64_S2 v) = f64_T2 R_f66 R_f67 k (fun u => K (f64_out u))  (fun v => iter (loopB (f64_cx R_f66 R_f67 hR_f66 hR_f67) k [.r, .r, .r, .r, .b, .o, .r, .b, .r, .l, .b] (Try.f64.body.getD .skip) (retK (f64_cx R_f66 R_f67 hR_f66 hR_f67) [] Try.f64.results.toList K) [r2]) k (f64_S3 v)) (fun v => r2 (f64_S2 v)) v := by kernel_rfl
theorem f64_L2_it {X : Type} (R_f66 : f66_R) (R_f67 : f67_R) (hR_f66 : AnsOk Try.prog 66 (f66_cOf R_f66)) (hR_f67 : AnsOk Try.prog 67 (f67_cOf R_f67)) (k : Nat) (K : Out → Option X)  : (fun v => iter (loopB (f64_cx R_f66 R_f67 hR_f66 hR_f67) k [.r, .r, .r, .r, .b] (Try.f64.body.getD .skip) (retK (f64_cx R_f66 R_f67 hR_f66 hR_f67) [] Try.f64.results.toList K) []) k (f64_S2 v)) = iterV (f64_L2 R_f66 R_f67 k (fun u => K (f64_out u)) ) k :=
  iter_map (fun r2 v => (f64_L2_ev R_f66 R_f67 hR_f66 hR_f67 k K  r2 v).trans (by rw [f64_L3_it R_f66 R_f67 hR_f66 hR_f67 k K r2]; rfl)) k
def f64_T1 {X : Type} (R_f66 : f66_R) (R_f67 : f67_R) (k : Nat) (K : (List CV) → Option X)  (loop2 : Nat × Int × Int × (List CV) → Option X) (rec1 : Nat × Int × Int × Int × (List CV) → Option X) (v4_0 : Nat × Int × Int × Int × (List CV)) : Option X :=
(bif (decide (v4_0.2.2.2.1 ≤ v4_0.2.1)) then
R_f66 _ (fun u3 =>
rec1 (v4_0.1, v4_0.2.1, v4_0.2.2.2.1, (IntKind.wrap .i64 (v4_0.2.2.2.1 + 20)), u3)) (v4_0.1) (v4_0.2.2.1) (v4_0.2.2.2.1) (v4_0.2.2.2.2)
else
R_f66 _ (fun u4 =>
loop2 (v4_0.1, v4_0.2.1, 20, u4)) (v4_0.1) (v4_0.2.2.1) (v4_0.2.1) (v4_0.2.2.2.2))
def f64_L1 {X : Type} (R_f66 : f66_R) (R_f67 : f67_R) (k : Nat) (K : (List CV) → Option X)  (rec1 : Nat × Int × Int × Int × (List CV) → Option X) (v : Nat × Int × Int × Int × (List CV)) : Option X := f64_T1 R_f66 R_f67 k K  (iterV (f64_L2 R_f66 R_f67 k K ) k) rec1 v
set_option maxRecDepth 100000 in
theorem f64_L1_ev {X : Type} (R_f66 : f66_R) (R_f67 : f67_R) (hR_f66 : AnsOk Try.prog 66 (f66_cOf R_f66)) (hR_f67 : AnsOk Try.prog 67 (f67_cOf R_f67)) (k : Nat) (K : Out → Option X)  (r1 : St → Option X) (v : Nat × Int × Int × Int × (List CV)) : loopB (f64_cx R_f66 R_f67 hR_f66 hR_f67) k [.r, .r, .l, .b] (Try.f64.body.getD .skip) (retK (f64_cx R_f66 R_f67 hR_f66 hR_f67) [] Try.f64.results.toList K) [] r1 (f64_S1 v) = f64_T1 R_f66 R_f67 k (fun u => K (f64_out u))  (fun v => iter (loopB (f64_cx R_f66 R_f67 hR_f66 hR_f67) k [.r, .r, .r, .r, .b] (Try.f64.body.getD .skip) (retK (f64_cx R_f66 R_f67 hR_f66 hR_f67) [] Try.f64.results.toList K) []) k (f64_S2 v)) (fun v => r1 (f64_S1 v)) v := by kernel_rfl
theorem f64_L1_it {X : Type} (R_f66 : f66_R) (R_f67 : f67_R) (hR_f66 : AnsOk Try.prog 66 (f66_cOf R_f66)) (hR_f67 : AnsOk Try.prog 67 (f67_cOf R_f67)) (k : Nat) (K : Out → Option X)  : (fun v => iter (loopB (f64_cx R_f66 R_f67 hR_f66 hR_f67) k [.r, .r, .l, .b] (Try.f64.body.getD .skip) (retK (f64_cx R_f66 R_f67 hR_f66 hR_f67) [] Try.f64.results.toList K) []) k (f64_S1 v)) = iterV (f64_L1 R_f66 R_f67 k (fun u => K (f64_out u)) ) k :=
  iter_map (fun r1 v => (f64_L1_ev R_f66 R_f67 hR_f66 hR_f67 k K  r1 v).trans (by rw [f64_L2_it R_f66 R_f67 hR_f66 hR_f67 k K ]; rfl)) k
def f64_T {X : Type} (R_f66 : f66_R) (R_f67 : f67_R) (k : Nat) (K : (List CV) → Option X) (loop1 : Nat × Int × Int × Int × (List CV) → Option X) (x0 : Nat) (x1 : Int) (x2 : List CV) : Option X :=
loop1 (x0, x1, 0, 20, x2)
/-- "slices.stableCmpFunc[outpost/api.Opt]" -/
def f64_A (R_f66 : f66_R) (R_f67 : f67_R) (k : Nat) : f64_R := fun X K x0 x1 x2 => f64_T R_f66 R_f67 k K (iterV (f64_L1 R_f66 R_f67 k K) k) x0 x1 x2
set_option maxRecDepth 100000 in
theorem f64_ev' {X : Type} (R_f66 : f66_R) (R_f67 : f67_R) (hR_f66 : AnsOk Try.prog 66 (f66_cOf R_f66)) (hR_f67 : AnsOk Try.prog 67 (f67_cOf R_f67)) (k : Nat) (K : Out → Option X) (x0 : Nat) (x1 : Int) (x2 : List CV) : evFn (f64_cx R_f66 R_f67 hR_f66 hR_f67) [] k Try.f64.ntmps Try.f64.results.toList (Try.f64.body.getD .skip) [(.osl [1000] (some 2) 0 x0), (.v (CV.int .i64 x1)), (.fn 60 [])] [([1000], (.row false (some 2) x2))] K = f64_T R_f66 R_f67 k (fun u => K (f64_out u)) (fun v => iter (loopB (f64_cx R_f66 R_f67 hR_f66 hR_f67) k [.r, .r, .l, .b] (Try.f64.body.getD .skip) (retK (f64_cx R_f66 R_f67 hR_f66 hR_f67) [] Try.f64.results.toList K) []) k (f64_S1 v)) x0 x1 x2 := by kernel_rfl
theorem f64_ev {X : Type} (R_f66 : f66_R) (R_f67 : f67_R) (hR_f66 : AnsOk Try.prog 66 (f66_cOf R_f66)) (hR_f67 : AnsOk Try.prog 67 (f67_cOf R_f67)) (k : Nat) (K : Out → Option X) (x0 : Nat) (x1 : Int) (x2 : List CV) : evFn (f64_cx R_f66 R_f67 hR_f66 hR_f67) [] k Try.f64.ntmps Try.f64.results.toList (Try.f64.body.getD .skip) [(.osl [1000] (some 2) 0 x0), (.v (CV.int .i64 x1)), (.fn 60 [])] [([1000], (.row false (some 2) x2))] K = f64_A R_f66 R_f67 k X (fun u => K (f64_out u)) x0 x1 x2 := (f64_ev' R_f66 R_f67 hR_f66 hR_f67 k K x0 x1 x2).trans (by rw [f64_L1_it R_f66 R_f67 hR_f66 hR_f67 k K]; rfl)
theorem f64_okA (R_f66 : f66_R) (R_f67 : f67_R) (hR_f66 : AnsOk Try.prog 66 (f66_cOf R_f66)) (hR_f67 : AnsOk Try.prog 67 (f67_cOf R_f67)) (k : Nat) : AnsOk Try.prog 64 (f64_cOf (f64_A R_f66 R_f67 k)) := by
  intro X xs ns K x h
  unfold f64_cOf at h ⊢
  split at h
  · exact ans_main S (f64_Cok R_f66 R_f67 hR_f66 hR_f67) Try.func64 (ent_of Try.func64 (by kernel_rfl) rfl) rfl (fun X K => f64_ev R_f66 R_f67 hR_f66 hR_f67 k K _ _ _) h
  · cases h
/-- "slices.stableCmpFunc[outpost/api.Opt]" -/
def f64 {X : Type} (k : Nat) (K : (List CV) → Option X) (x0 : Nat) (x1 : Int) (x2 : List CV) : Option X := f64_A (fun X => @f66 X k) (fun X => @f67 X k) k X K x0 x1 x2
theorem f64_ok (k : Nat) : AnsOk Try.prog 64 (f64_cOf (fun X => @f64 X k)) := f64_okA (fun X => @f66 X k) (fun X => @f67 X k) (f66_ok k) (f67_ok k) k
abbrev f59_R : Type 1 := (X : Type) → ((List CV) → Option X) → Nat → (List CV) → Option X
def f59_out (u : (List CV)) : Out := ⟨(.tup []), [([1000], (.row false (some 2) u))]⟩
def f59_cOf (R : f59_R) : FnC := fun X xs ns K => match xs, ns with
  | [(.osl [1000] (some 2) 0 x0), (.fn 60 [])], [([1000], (.row false (some 2) x1))] => R X (fun u => K (f59_out u)) x0 x1
  | _, _ => none
def f59_plan : Nat → Option (List Nat × List Wk)
  | 0 => some ([0, 1], [])
  | _ => none
def f59_C (R_f64 : f64_R) : Fns := (orC 64 (f64_cOf R_f64) noC)
theorem f59_Cok (R_f64 : f64_R) (hR_f64 : AnsOk Try.prog 64 (f64_cOf R_f64)) : CsOk Try.prog (f59_C R_f64) := (orC_ok hR_f64 noC_ok)
def f59_cx (R_f64 : f64_R) (hR_f64 : AnsOk Try.prog 64 (f64_cOf R_f64)) : Cx := mkCx (tabOf rows) (f59_C R_f64) md (cmpIn cmps) f59_plan (f59_Cok R_f64 hR_f64)
def f59_T {X : Type} (R_f64 : f64_R) (k : Nat) (K : (List CV) → Option X)  (x0 : Nat) (x1 : List CV) : Option X :=
R_f64 _ (fun u1 =>
K (u1)) (x0) ((Nat.cast (x0) : Int)) (x1)
/-- "slices.SortStableFunc[[]outpost/api.Opt,outpost/api.Opt]" -/
def f59_A (R_f64 : f64_R) (k : Nat) : f59_R := fun X K x0 x1 => f59_T R_f64 k K  x0 x1
set_option maxRecDepth 100000 in
theorem f59_ev' {X : Type} (R_f64 : f64_R) (hR_f64 : AnsOk Try.prog 64 (f64_cOf R_f64)) (k : Nat) (K : Out → Option X) (x0 : Nat) (x1 : List CV) : evFn (f59_cx R_f64 hR_f64) [] k Try.f59.ntmps Try.f59.results.toList (Try.f59.body.getD .skip) [(.osl [1000] (some 2) 0 x0), (.fn 60 [])] [([1000], (.row false (some 2) x1))] K = f59_T R_f64 k (fun u => K (f59_out u)) x0 x1 := by kernel_rfl
theorem f59_ev {X : Type} (R_f64 : f64_R) (hR_f64 : AnsOk Try.prog 64 (f64_cOf R_f64)) (k : Nat) (K : Out → Option X) (x0 : Nat) (x1 : List CV) : evFn (f59_cx R_f64 hR_f64) [] k Try.f59.ntmps Try.f59.results.toList (Try.f59.body.getD .skip) [(.osl [1000] (some 2) 0 x0), (.fn 60 [])] [([1000], (.row false (some 2) x1))] K = f59_A R_f64 k X (fun u => K (f59_out u)) x0 x1 := (f59_ev' R_f64 hR_f64 k K x0 x1).trans rfl
theorem f59_okA (R_f64 : f64_R) (hR_f64 : AnsOk Try.prog 64 (f64_cOf R_f64)) (k : Nat) : AnsOk Try.prog 59 (f59_cOf (f59_A R_f64 k)) := by
  intro X xs ns K x h
  unfold f59_cOf at h ⊢
  split at h
  · exact ans_main S (f59_Cok R_f64 hR_f64) Try.func59 (ent_of Try.func59 (by kernel_rfl) rfl) rfl (fun X K => f59_ev R_f64 hR_f64 k K _ _) h
  · cases h
/-- "slices.SortStableFunc[[]outpost/api.Opt,outpost/api.Opt]" -/
def f59 {X : Type} (k : Nat) (K : (List CV) → Option X) (x0 : Nat) (x1 : List CV) : Option X := f59_A (fun X => @f64 X k) k X K x0 x1
theorem f59_ok (k : Nat) : AnsOk Try.prog 59 (f59_cOf (fun X => @f59 X k)) := f59_okA (fun X => @f64 X k) (f64_ok k) k
abbrev f49_R : Type 1 := (X : Type) → (Nat × (List CV) → Option X) → (List CV) → Option X
def f49_out (u : Nat × (List CV)) : Out := ⟨(.osl [2000] (some 2) 0 u.1), [([2000], (.row false (some 2) u.2))]⟩
def f49_cOf (R : f49_R) : FnC := fun X xs ns K => match xs, ns with
  | [(.sl false (some 2) x0)], [] => R X (fun u => K (f49_out u)) x0
  | _, _ => none
def f49_plan : Nat → Option (List Nat × List Wk)
  | 0 => some ([0], [])
  | 1 => some ([0], [])
  | 2 => some ([3], [])
  | 3 => some ([3], [])
  | _ => none
def f49_C (R_f58 : f58_R) (R_f59 : f59_R) : Fns := (orC 58 (f58_cOf R_f58) (orC 59 (f59_cOf R_f59) noC))
theorem f49_Cok (R_f58 : f58_R) (R_f59 : f59_R) (hR_f58 : AnsOk Try.prog 58 (f58_cOf R_f58)) (hR_f59 : AnsOk Try.prog 59 (f59_cOf R_f59)) : CsOk Try.prog (f49_C R_f58 R_f59) := (orC_ok hR_f58 (orC_ok hR_f59 noC_ok))
def f49_cx (R_f58 : f58_R) (R_f59 : f59_R) (hR_f58 : AnsOk Try.prog 58 (f58_cOf R_f58)) (hR_f59 : AnsOk Try.prog 59 (f59_cOf R_f59)) : Cx := mkCx (tabOf rows) (f49_C R_f58 R_f59) md (cmpIn cmps) f49_plan (f49_Cok R_f58 R_f59 hR_f58 hR_f59)
def f49_T {X : Type} (R_f58 : f58_R) (R_f59 : f59_R) (k : Nat) (K : Nat × (List CV) → Option X)  (x0 : List CV) : Option X :=
R_f58 _ (fun u1 =>
R_f59 _ (fun u2 =>
K ((List.length u1), (List.take (0 + (List.length u1)) u2))) ((List.length u1)) (u1)) (x0)
/-- "outpost/opt.byNum" -/
def f49_A (R_f58 : f58_R) (R_f59 : f59_R) (k : Nat) : f49_R := fun X K x0 => f49_T R_f58 R_f59 k K  x0
set_option maxRecDepth 100000 in
theorem f49_ev' {X : Type} (R_f58 : f58_R) (R_f59 : f59_R) (hR_f58 : AnsOk Try.prog 58 (f58_cOf R_f58)) (hR_f59 : AnsOk Try.prog 59 (f59_cOf R_f59)) (k : Nat) (K : Out → Option X) (x0 : List CV) : evFn (f49_cx R_f58 R_f59 hR_f58 hR_f59) [] k Try.f49.ntmps Try.f49.results.toList (Try.f49.body.getD .skip) [(.sl false (some 2) x0)] [] K = f49_T R_f58 R_f59 k (fun u => K (f49_out u)) x0 := by kernel_rfl
theorem f49_ev {X : Type} (R_f58 : f58_R) (R_f59 : f59_R) (hR_f58 : AnsOk Try.prog 58 (f58_cOf R_f58)) (hR_f59 : AnsOk Try.prog 59 (f59_cOf R_f59)) (k : Nat) (K : Out → Option X) (x0 : List CV) : evFn (f49_cx R_f58 R_f59 hR_f58 hR_f59) [] k Try.f49.ntmps Try.f49.results.toList (Try.f49.body.getD .skip) [(.sl false (some 2) x0)] [] K = f49_A R_f58 R_f59 k X (fun u => K (f49_out u)) x0 := (f49_ev' R_f58 R_f59 hR_f58 hR_f59 k K x0).trans rfl
theorem f49_okA (R_f58 : f58_R) (R_f59 : f59_R) (hR_f58 : AnsOk Try.prog 58 (f58_cOf R_f58)) (hR_f59 : AnsOk Try.prog 59 (f59_cOf R_f59)) (k : Nat) : AnsOk Try.prog 49 (f49_cOf (f49_A R_f58 R_f59 k)) := by
  intro X xs ns K x h
  unfold f49_cOf at h ⊢
  split at h
  · exact ans_main S (f49_Cok R_f58 R_f59 hR_f58 hR_f59) Try.func49 (ent_of Try.func49 (by kernel_rfl) rfl) rfl (fun X K => f49_ev R_f58 R_f59 hR_f58 hR_f59 k K _) h
  · cases h
/-- "outpost/opt.byNum" -/
def f49 {X : Type} (k : Nat) (K : Nat × (List CV) → Option X) (x0 : List CV) : Option X := f49_A (fun X => @f58 X k) (fun X => @f59 X k) k X K x0
theorem f49_ok (k : Nat) : AnsOk Try.prog 49 (f49_cOf (fun X => @f49 X k)) := f49_okA (fun X => @f58 X k) (fun X => @f59 X k) (f58_ok k) (f59_ok k) k
abbrev f50_R : Type 1 := (X : Type) → (Int × Nat × (List CV) → Option X) → Int → Option X
def f50_out (u : Int × Nat × (List CV)) : Out := ⟨(.tup [(.v (CV.int .i64 u.1)), (.osl [1, 2000] none 0 u.2.1)]), [([1, 2000], (.row false none u.2.2))]⟩
def f50_cOf (R : f50_R) : FnC := fun X xs ns K => match xs, ns with
  | [(.v (CV.int .i64 x0))], [] => R X (fun u => K (f50_out u)) x0
  | _, _ => none
def f50_plan : Nat → Option (List Nat × List Wk)
  | 0 => some ([0], [])
  | 1 => some ([0], [])
  | 2 => some ([0], [])
  | 3 => some ([0], [])
  | 4 => some ([0], [])
  | 5 => some ([0], [])
  | 6 => some ([0], [])
  | _ => none
def f50_C : Fns := noC
theorem f50_Cok : CsOk Try.prog (f50_C) := noC_ok
def f50_cx : Cx := mkCx (tabOf rows) (f50_C) md (cmpIn cmps) f50_plan (f50_Cok)
def f50_T {X : Type} (k : Nat) (K : Int × Nat × (List CV) → Option X)  (x0 : Int) : Option X :=
(bif (decide (x0 < 13)) then
K (x0, 0, (List.take 0 []))
else
(bif (decide (x0 < 269)) then
K (13, 1, (List.take 1 [(CV.int .u8 (IntKind.wrap .u8 (IntKind.wrap .i64 (x0 - 13))))]))
else
K (14, 2, (List.take 2 [(CV.int .u8 (IntKind.wrap .u8 (Int.fdiv (IntKind.wrap .i64 (x0 - 269)) (2 ^ 8)))), (CV.int .u8 (IntKind.wrap .u8 (IntKind.wrap .i64 (x0 - 269))))]))))
/-- "outpost/opt.nibble" -/
def f50_A (k : Nat) : f50_R := fun X K x0 => f50_T k K  x0
set_option maxRecDepth 100000 in
theorem f50_ev' {X : Type} (k : Nat) (K : Out → Option X) (x0 : Int) : evFn (f50_cx) [⟨0, [1], some [1, 2000]⟩] k Try.f50.ntmps Try.f50.results.toList (Try.f50.body.getD .skip) [(.v (CV.int .i64 x0))] [] K = f50_T k (fun u => K (f50_out u)) x0 := by kernel_rfl
theorem f50_ev {X : Type} (k : Nat) (K : Out → Option X) (x0 : Int) : evFn (f50_cx) [⟨0, [1], some [1, 2000]⟩] k Try.f50.ntmps Try.f50.results.toList (Try.f50.body.getD .skip) [(.v (CV.int .i64 x0))] [] K = f50_A k X (fun u => K (f50_out u)) x0 := (f50_ev' k K x0).trans rfl
theorem f50_okA (k : Nat) : AnsOk Try.prog 50 (f50_cOf (f50_A k)) := by
  intro X xs ns K x h
  unfold f50_cOf at h ⊢
  split at h
  · exact ans_main S (f50_Cok) Try.func50 (ent_of Try.func50 (by kernel_rfl) rfl) rfl (fun X K => f50_ev k K _) h
  · cases h
/-- "outpost/opt.nibble" -/
def f50 {X : Type} (k : Nat) (K : Int × Nat × (List CV) → Option X) (x0 : Int) : Option X := f50_A k X K x0
theorem f50_ok (k : Nat) : AnsOk Try.prog 50 (f50_cOf (fun X => @f50 X k)) := f50_okA k
abbrev f32_R : Type 1 := (X : Type) → (Nat × Int × (List CV) → Option X) → (List CV) → Option X
def f32_out (u : Nat × Int × (List CV)) : Out := ⟨(.tup [(.osl [0, 2000] none 0 u.1), (.v (CV.int .i64 u.2.1))]), [([0, 2000], (.row false none u.2.2))]⟩
def f32_cOf (R : f32_R) : FnC := fun X xs ns K => match xs, ns with
  | [(.sl true (some 2) x0)], [] => R X (fun u => K (f32_out u)) x0
  | _, _ => none
def f32_plan : Nat → Option (List Nat × List Wk)
  | 0 => some ([0], [])
  | 1 => some ([0], [])
  | 2 => some ([0, 4], [])
  | 3 => some ([4], [])
  | 4 => some ([0], [])
  | 5 => some ([0, 5], [])
  | 6 => some ([0, 5, 6], [])
  | 7 => some ([5, 6, 19, 20, 21], [⟨5, [], some [5]⟩])
  | 8 => some ([5, 6, 19, 20, 21], [])
  | 9 => some ([5, 6, 8, 19, 20, 21], [])
  | 10 => some ([5, 8, 9, 10, 19, 20, 21], [])
  | 11 => some ([5, 8, 9, 10, 11, 12, 19, 20, 21], [])
  | 12 => some ([5, 8, 10, 12, 19, 20, 21], [])
  | 13 => some ([5, 8, 12, 19, 20, 21], [])
  | 14 => some ([5, 8, 19, 20, 21], [])
  | 15 => some ([5, 8, 19, 20, 21], [])
  | 16 => some ([5, 6, 19, 20, 21], [])
  | 17 => some ([5], [])
  | _ => none
def f32_C (R_f48 : f48_R) (R_f49 : f49_R) (R_f50 : f50_R) : Fns := (orC 48 (f48_cOf R_f48) (orC 49 (f49_cOf R_f49) (orC 50 (f50_cOf R_f50) noC)))
theorem f32_Cok (R_f48 : f48_R) (R_f49 : f49_R) (R_f50 : f50_R) (hR_f48 : AnsOk Try.prog 48 (f48_cOf R_f48)) (hR_f49 : AnsOk Try.prog 49 (f49_cOf R_f49)) (hR_f50 : AnsOk Try.prog 50 (f50_cOf R_f50)) : CsOk Try.prog (f32_C R_f48 R_f49 R_f50) := (orC_ok hR_f48 (orC_ok hR_f49 (orC_ok hR_f50 noC_ok)))
def f32_cx (R_f48 : f48_R) (R_f49 : f49_R) (R_f50 : f50_R) (hR_f48 : AnsOk Try.prog 48 (f48_cOf R_f48)) (hR_f49 : AnsOk Try.prog 49 (f49_cOf R_f49)) (hR_f50 : AnsOk Try.prog 50 (f50_cOf R_f50)) : Cx := mkCx (tabOf rows) (f32_C R_f48 R_f49 R_f50) md (cmpIn cmps) f32_plan (f32_Cok R_f48 R_f49 R_f50 hR_f48 hR_f49 hR_f50)
def f32_S1 (v : Nat × Int × Nat × Int × Int × (List CV) × (List CV)) : St := ⟨[.undef, .undef, .undef, .undef, .undef, (.osl [5] none 0 v.1), (.v (CV.int .i64 v.2.1)), .undef, .undef, .undef, .undef, .undef, .undef, .undef, .undef, .undef, .undef, .undef, .undef, (.osl [19] (some 2) 0 v.2.2.1), (.v (CV.int .i64 v.2.2.2.1)), (.v (CV.int .i64 v.2.2.2.2.1)), .undef, .undef, .undef, .undef, .undef, .undef, .undef, .undef, .undef, .undef, .undef, .undef, .undef, .undef, .undef, .undef, .undef, .undef, .undef, .undef, .undef, .undef, .undef, .undef, .undef, .undef, .undef, .undef, .undef, .undef, .undef, .undef, .undef, .undef, .undef, .undef, .undef, .undef, .undef, .undef], [([5], (.row false none v.2.2.2.2.2.1)), ([19], (.row false (some 2) v.2.2.2.2.2.2))]⟩
def f32_T1 {X : Type} (R_f48 : f48_R) (R_f49 : f49_R) (R_f50 : f50_R) (k : Nat) (K : Nat × Int × (List CV) → Option X)   (rec1 : Nat × Int × Nat × Int × Int × (List CV) × (List CV) → Option X) (v7_3 : Nat × Int × Nat × Int × Int × (List CV) × (List CV)) : Option X :=
(bif (decide (v7_3.2.2.2.2.1 < v7_3.2.2.2.1)) then
grd (decide (0 ≤ v7_3.2.2.2.2.1)) <|
grd (decide (v7_3.2.2.2.2.1 < (Nat.cast (v7_3.2.2.1) : Int))) <|
Option.bind (v7_3.2.2.2.2.2.2)[(0 + (Int.toNat v7_3.2.2.2.2.1))]? fun e14 =>
grd (CV.isA 2 e14) <|
grd (CV.isI .i64 (CV.cellD 0 e14)) <|
grd (CV.isL none (CV.cellD 1 e14)) <|
R_f50 _ (fun u15 =>
R_f50 _ (fun u16 =>
grd (decide ((v7_3.1 + (List.length (List.take 1 (List.drop 0 [(CV.int .u8 (IntKind.wrap .u8 (bop .or .i64 (IntKind.wrap .i64 (u15.1 * 2 ^ 4)) u16.1)))])))) * 1 ≤ 140737488355328)) <|
grd (decide (((v7_3.1 + (List.length (List.take 1 (List.drop 0 [(CV.int .u8 (IntKind.wrap .u8 (bop .or .i64 (IntKind.wrap .i64 (u15.1 * 2 ^ 4)) u16.1)))])))) + (List.length (List.take u15.2.1 (List.drop 0 u15.2.2)))) * 1 ≤ 140737488355328)) <|
grd (decide ((((v7_3.1 + (List.length (List.take 1 (List.drop 0 [(CV.int .u8 (IntKind.wrap .u8 (bop .or .i64 (IntKind.wrap .i64 (u15.1 * 2 ^ 4)) u16.1)))])))) + (List.length (List.take u15.2.1 (List.drop 0 u15.2.2)))) + (List.length (List.take u16.2.1 (List.drop 0 u16.2.2)))) * 1 ≤ 140737488355328)) <|
grd (decide (((((v7_3.1 + (List.length (List.take 1 (List.drop 0 [(CV.int .u8 (IntKind.wrap .u8 (bop .or .i64 (IntKind.wrap .i64 (u15.1 * 2 ^ 4)) u16.1)))])))) + (List.length (List.take u15.2.1 (List.drop 0 u15.2.2)))) + (List.length (List.take u16.2.1 (List.drop 0 u16.2.2)))) + (List.length (CV.toL (CV.cellD 1 e14)))) * 1 ≤ 140737488355328)) <|
rec1 (((((v7_3.1 + (List.length (List.take 1 (List.drop 0 [(CV.int .u8 (IntKind.wrap .u8 (bop .or .i64 (IntKind.wrap .i64 (u15.1 * 2 ^ 4)) u16.1)))])))) + (List.length (List.take u15.2.1 (List.drop 0 u15.2.2)))) + (List.length (List.take u16.2.1 (List.drop 0 u16.2.2)))) + (List.length (CV.toL (CV.cellD 1 e14)))), (CV.toI (CV.cellD 0 e14)), v7_3.2.2.1, v7_3.2.2.2.1, (IntKind.wrap .i64 (v7_3.2.2.2.2.1 + 1)), ((List.take (((v7_3.1 + (List.length (List.take 1 (List.drop 0 [(CV.int .u8 (IntKind.wrap .u8 (bop .or .i64 (IntKind.wrap .i64 (u15.1 * 2 ^ 4)) u16.1)))])))) + (List.length (List.take u15.2.1 (List.drop 0 u15.2.2)))) + (List.length (List.take u16.2.1 (List.drop 0 u16.2.2)))) ((List.take ((v7_3.1 + (List.length (List.take 1 (List.drop 0 [(CV.int .u8 (IntKind.wrap .u8 (bop .or .i64 (IntKind.wrap .i64 (u15.1 * 2 ^ 4)) u16.1)))])))) + (List.length (List.take u15.2.1 (List.drop 0 u15.2.2)))) ((List.take (v7_3.1 + (List.length (List.take 1 (List.drop 0 [(CV.int .u8 (IntKind.wrap .u8 (bop .or .i64 (IntKind.wrap .i64 (u15.1 * 2 ^ 4)) u16.1)))])))) ((List.take v7_3.1 v7_3.2.2.2.2.2.1) ++ (List.take 1 (List.drop 0 [(CV.int .u8 (IntKind.wrap .u8 (bop .or .i64 (IntKind.wrap .i64 (u15.1 * 2 ^ 4)) u16.1)))])))) ++ (List.take u15.2.1 (List.drop 0 u15.2.2)))) ++ (List.take u16.2.1 (List.drop 0 u16.2.2)))) ++ (CV.toL (CV.cellD 1 e14))), v7_3.2.2.2.2.2.2)) ((Nat.cast ((List.length (CV.toL (CV.cellD 1 e14)))) : Int))) ((IntKind.wrap .i64 ((CV.toI (CV.cellD 0 e14)) - v7_3.2.1)))
else
K (v7_3.1, 0, (List.take (0 + v7_3.1) v7_3.2.2.2.2.2.1)))
def f32_L1 {X : Type} (R_f48 : f48_R) (R_f49 : f49_R) (R_f50 : f50_R) (k : Nat) (K : Nat × Int × (List CV) → Option X)  (rec1 : Nat × Int × Nat × Int × Int × (List CV) × (List CV) → Option X) (v : Nat × Int × Nat × Int × Int × (List CV) × (List CV)) : Option X := f32_T1 R_f48 R_f49 R_f50 k K   rec1 v
set_option maxRecDepth 100000 in
theorem f32_L1_ev {X : Type} (R_f48 : f48_R) (R_f49 : f49_R) (R_f50 : f50_R) (hR_f48 : AnsOk Try.prog 48 (f48_cOf R_f48)) (hR_f49 : AnsOk Try.prog 49 (f49_cOf R_f49)) (hR_f50 : AnsOk Try.prog 50 (f50_cOf R_f50)) (k : Nat) (K : Out → Option X)  (r1 : St → Option X) (v : Nat × Int × Nat × Int × Int × (List CV) × (List CV)) : loopB (f32_cx R_f48 R_f49 R_f50 hR_f48 hR_f49 hR_f50) k [.r, .r, .r, .r, .l, .r, .b] (Try.f32.body.getD .skip) (retK (f32_cx R_f48 R_f49 R_f50 hR_f48 hR_f49 hR_f50) [⟨0, [0], some [0, 2000]⟩] Try.f32.results.toList K) [] r1 (f32_S1 v) = f32_T1 R_f48 R_f49 R_f50 k (fun u => K (f32_out u))   (fun v => r1 (f32_S1 v)) v := by kernel_rfl
theorem f32_L1_it {X : Type} (R_f48 : f48_R) (R_f49 : f49_R) (R_f50 : f50_R) (hR_f48 : AnsOk Try.prog 48 (f48_cOf R_f48)) (hR_f49 : AnsOk Try.prog 49 (f49_cOf R_f49)) (hR_f50 : AnsOk Try.prog 50 (f50_cOf R_f50)) (k : Nat) (K : Out → Option X)  : (fun v => iter (loopB (f32_cx R_f48 R_f49 R_f50 hR_f48 hR_f49 hR_f50) k [.r, .r, .r, .r, .l, .r, .b] (Try.f32.body.getD .skip) (retK (f32_cx R_f48 R_f49 R_f50 hR_f48 hR_f49 hR_f50) [⟨0, [0], some [0, 2000]⟩] Try.f32.results.toList K) []) k (f32_S1 v)) = iterV (f32_L1 R_f48 R_f49 R_f50 k (fun u => K (f32_out u)) ) k :=
  iter_map (fun r1 v => (f32_L1_ev R_f48 R_f49 R_f50 hR_f48 hR_f49 hR_f50 k K  r1 v).trans rfl) k
def f32_T {X : Type} (R_f48 : f48_R) (R_f49 : f49_R) (R_f50 : f50_R) (k : Nat) (K : Nat × Int × (List CV) → Option X) (loop1 : Nat × Int × Nat × Int × Int × (List CV) × (List CV) → Option X) (x0 : List CV) : Option X :=
R_f48 _ (fun u2 =>
(bif (u2 != 0) then
K (0, u2, (List.take 0 []))
else
R_f49 _ (fun u3 =>
loop1 (0, 0, u3.1, (Nat.cast (u3.1) : Int), 0, [], u3.2)) (x0))) (x0)
/-- "outpost/opt.Write" -/
def f32_A (R_f48 : f48_R) (R_f49 : f49_R) (R_f50 : f50_R) (k : Nat) : f32_R := fun X K x0 => f32_T R_f48 R_f49 R_f50 k K (iterV (f32_L1 R_f48 R_f49 R_f50 k K) k) x0
set_option maxRecDepth 100000 in
theorem f32_ev' {X : Type} (R_f48 : f48_R) (R_f49 : f49_R) (R_f50 : f50_R) (hR_f48 : AnsOk Try.prog 48 (f48_cOf R_f48)) (hR_f49 : AnsOk Try.prog 49 (f49_cOf R_f49)) (hR_f50 : AnsOk Try.prog 50 (f50_cOf R_f50)) (k : Nat) (K : Out → Option X) (x0 : List CV) : evFn (f32_cx R_f48 R_f49 R_f50 hR_f48 hR_f49 hR_f50) [⟨0, [0], some [0, 2000]⟩] k Try.f32.ntmps Try.f32.results.toList (Try.f32.body.getD .skip) [(.sl true (some 2) x0)] [] K = f32_T R_f48 R_f49 R_f50 k (fun u => K (f32_out u)) (fun v => iter (loopB (f32_cx R_f48 R_f49 R_f50 hR_f48 hR_f49 hR_f50) k [.r, .r, .r, .r, .l, .r, .b] (Try.f32.body.getD .skip) (retK (f32_cx R_f48 R_f49 R_f50 hR_f48 hR_f49 hR_f50) [⟨0, [0], some [0, 2000]⟩] Try.f32.results.toList K) []) k (f32_S1 v)) x0 := by kernel_rfl
theorem f32_ev {X : Type} (R_f48 : f48_R) (R_f49 : f49_R) (R_f50 : f50_R) (hR_f48 : AnsOk Try.prog 48 (f48_cOf R_f48)) (hR_f49 : AnsOk Try.prog 49 (f49_cOf R_f49)) (hR_f50 : AnsOk Try.prog 50 (f50_cOf R_f50)) (k : Nat) (K : Out → Option X) (x0 : List CV) : evFn (f32_cx R_f48 R_f49 R_f50 hR_f48 hR_f49 hR_f50) [⟨0, [0], some [0, 2000]⟩] k Try.f32.ntmps Try.f32.results.toList (Try.f32.body.getD .skip) [(.sl true (some 2) x0)] [] K = f32_A R_f48 R_f49 R_f50 k X (fun u => K (f32_out u)) x0 := (f32_ev' R_f48 R_f49 R_f50 hR_f48 hR_f49 hR_f50 k K x0).trans (by rw [f32_L1_it R_f48 R_f49 R_f50 hR_f48 hR_f49 hR_f50 k K]; rfl)
theorem f32_okA (R_f48 : f48_R) (R_f49 : f49_R) (R_f50 : f50_R) (hR_f48 : AnsOk Try.prog 48 (f48_cOf R_f48)) (hR_f49 : AnsOk Try.prog 49 (f49_cOf R_f49)) (hR_f50 : AnsOk Try.prog 50 (f50_cOf R_f50)) (k : Nat) : AnsOk Try.prog 32 (f32_cOf (f32_A R_f48 R_f49 R_f50 k)) := by
  intro X xs ns K x h
  unfold f32_cOf at h ⊢
  split at h
  · exact ans_main S (f32_Cok R_f48 R_f49 R_f50 hR_f48 hR_f49 hR_f50) Try.func32 (ent_of Try.func32 (by kernel_rfl) rfl) rfl (fun X K => f32_ev R_f48 R_f49 R_f50 hR_f48 hR_f49 hR_f50 k K _) h
  · cases h
/-- "outpost/opt.Write" -/
def f32 {X : Type} (k : Nat) (K : Nat × Int × (List CV) → Option X) (x0 : List CV) : Option X := f32_A (fun X => @f48 X k) (fun X => @f49 X k) (fun X => @f50 X k) k X K x0
theorem f32_ok (k : Nat) : AnsOk Try.prog 32 (f32_cOf (fun X => @f32 X k)) := f32_okA (fun X => @f48 X k) (fun X => @f49 X k) (fun X => @f50 X k) (f48_ok k) (f49_ok k) (f50_ok k) k
abbrev f51_R : Type 1 := (X : Type) → ((List CV) → Option X) → Int → Option X
def f51_out (u : (List CV)) : Out := ⟨(.osl [2000] none 0 0), [([2000], (.row false none u))]⟩
def f51_cOf (R : f51_R) : FnC := fun X xs ns K => match xs, ns with
  | [(.nil0 none), (.v (CV.int .i64 x0))], [] => R X (fun u => K (f51_out u)) x0
  | _, _ => none
def f51_plan : Nat → Option (List Nat × List Wk)
  | 0 => some ([0, 1], [])
  | 1 => some ([0, 1], [])
  | 2 => some ([0, 1], [])
  | 3 => some ([0, 1], [])
  | 4 => some ([0, 1], [])
  | 5 => some ([0, 1], [])
  | 6 => some ([0], [⟨0, [], some [0]⟩])
  | _ => none
def f51_C : Fns := noC
theorem f51_Cok : CsOk Try.prog (f51_C) := noC_ok
def f51_cx : Cx := mkCx (tabOf rows) (f51_C) md (cmpIn cmps) f51_plan (f51_Cok)
def f51_J1 {X : Type} (k : Nat) (K : (List CV) → Option X)  (v1 : (List CV)) : Option X :=
K ((List.take 0 v1))
def f51_T {X : Type} (k : Nat) (K : (List CV) → Option X)  (x0 : Int) : Option X :=
(bif (decide (x0 < 0)) then
none
else
(bif (decide ((IntKind.wrap .i64 (x0 - 0)) > 0)) then
grd (decide (0 ≤ (IntKind.wrap .i64 (x0 - 0)))) <|
grd (decide (((IntKind.wrap .i64 (x0 - 0)) * 1) ≤ 140737488355328)) <|
grd (decide (0 ≤ ((Nat.cast ((List.length (List.replicate (Int.toNat (IntKind.wrap .i64 (x0 - 0))) (CV.int .u8 0)))) : Int) - 0))) <|
f51_J1 k K ((List.replicate (Int.toNat (IntKind.wrap .i64 (x0 - 0))) (CV.int .u8 0)))
else
f51_J1 k K ([])))
/-- "slices.Grow[[]byte,byte]" -/
def f51_A (k : Nat) : f51_R := fun X K x0 => f51_T k K  x0
set_option maxRecDepth 100000 in
theorem f51_ev' {X : Type} (k : Nat) (K : Out → Option X) (x0 : Int) : evFn (f51_cx) [] k Try.f51.ntmps Try.f51.results.toList (Try.f51.body.getD .skip) [(.nil0 none), (.v (CV.int .i64 x0))] [] K = f51_T k (fun u => K (f51_out u)) x0 := by kernel_rfl
theorem f51_ev {X : Type} (k : Nat) (K : Out → Option X) (x0 : Int) : evFn (f51_cx) [] k Try.f51.ntmps Try.f51.results.toList (Try.f51.body.getD .skip) [(.nil0 none), (.v (CV.int .i64 x0))] [] K = f51_A k X (fun u => K (f51_out u)) x0 := (f51_ev' k K x0).trans rfl
theorem f51_okA (k : Nat) : AnsOk Try.prog 51 (f51_cOf (f51_A k)) := by
  intro X xs ns K x h
  unfold f51_cOf at h ⊢
  split at h
  · exact ans_main S (f51_Cok) Try.func51 (ent_of Try.func51 (by kernel_rfl) rfl) rfl (fun X K => f51_ev k K _) h
  · cases h
/-- "slices.Grow[[]byte,byte]" -/
def f51 {X : Type} (k : Nat) (K : (List CV) → Option X) (x0 : Int) : Option X := f51_A k X K x0
theorem f51_ok (k : Nat) : AnsOk Try.prog 51 (f51_cOf (fun X => @f51 X k)) := f51_okA k
abbrev f33_R : Type 1 := (X : Type) → (Nat × (List CV) → Option X) → (List CV) → Option X
def f33_out (u : Nat × (List CV)) : Out := ⟨(.osl [2000] none 0 u.1), [([2000], (.row false none u.2))]⟩
def f33_cOf (R : f33_R) : FnC := fun X xs ns K => match xs, ns with
  | [(.sl false none x0)], [] => R X (fun u => K (f33_out u)) x0
  | _, _ => none
def f33_plan : Nat → Option (List Nat × List Wk)
  | 0 => some ([0], [])
  | 1 => some ([0], [])
  | 2 => some ([0, 3], [])
  | 3 => some ([0, 3, 9, 10, 11], [])
  | 4 => some ([0, 3, 9, 10, 11], [])
  | 5 => some ([0, 3, 5, 9, 10, 11], [])
  | 6 => some ([0, 3, 9, 10, 11], [])
  | 7 => some ([0, 3, 9, 10, 11], [])
  | 8 => some ([0, 3, 9, 10, 11], [])
  | 9 => some ([0, 3], [])
  | 10 => some ([0, 6], [])
  | 11 => some ([6, 25, 26, 27], [])
  | 12 => some ([6, 25, 26, 27], [])
  | 13 => some ([6, 8, 25, 26, 27], [])
  | 14 => some ([6, 25, 26, 27], [])
  | 15 => some ([6], [])
  | _ => none
def f33_C (R_f51 : f51_R) : Fns := (orC 51 (f51_cOf R_f51) noC)
theorem f33_Cok (R_f51 : f51_R) (hR_f51 : AnsOk Try.prog 51 (f51_cOf R_f51)) : CsOk Try.prog (f33_C R_f51) := (orC_ok hR_f51 noC_ok)
def f33_cx (R_f51 : f51_R) (hR_f51 : AnsOk Try.prog 51 (f51_cOf R_f51)) : Cx := mkCx (tabOf rows) (f33_C R_f51) md (cmpIn cmps) f33_plan (f33_Cok R_f51 hR_f51)
def f33_S1 (v : (List CV) × Int × (List CV) × Int × Int) : St := ⟨[(.sl false none v.1), .undef, .undef, (.v (CV.int .i64 v.2.1)), .undef, .undef, .undef, .undef, .undef, (.sl false none v.2.2.1), (.v (CV.int .i64 v.2.2.2.1)), (.v (CV.int .i64 v.2.2.2.2)), .undef, .undef, .undef, .undef, .undef, .undef, .undef, .undef, .undef, .undef, .undef, .undef, .undef, .undef, .undef, .undef, .undef, .undef, .undef, .undef, .undef, .undef, .undef, .undef], []⟩
def f33_S2 (v : Nat × (List CV) × Int × Int × (List CV)) : St := ⟨[.undef, .undef, .undef, .undef, .undef, .undef, (.osl [6] none 0 v.1), .undef, .undef, .undef, .undef, .undef, .undef, .undef, .undef, .undef, .undef, .undef, .undef, .undef, .undef, .undef, .undef, .undef, .undef, (.sl false none v.2.1), (.v (CV.int .i64 v.2.2.1)), (.v (CV.int .i64 v.2.2.2.1)), .undef, .undef, .undef, .undef, .undef, .undef, .undef, .undef], [([6], (.row false none v.2.2.2.2))]⟩
def f33_T2 {X : Type} (R_f51 : f51_R) (k : Nat) (K : Nat × (List CV) → Option X)   (rec2 : Nat × (List CV) × Int × Int × (List CV) → Option X) (v7_6 : Nat × (List CV) × Int × Int × (List CV)) : Option X :=
(bif (decide (v7_6.2.2.2.1 < v7_6.2.2.1)) then
grd (decide (0 ≤ v7_6.2.2.2.1)) <|
Option.bind (v7_6.2.1)[(Int.toNat v7_6.2.2.2.1)]? fun e11 =>
grd (CV.isL none e11) <|
grd (decide ((v7_6.1 + (List.length (CV.toL e11))) * 1 ≤ 140737488355328)) <|
rec2 ((v7_6.1 + (List.length (CV.toL e11))), v7_6.2.1, v7_6.2.2.1, (IntKind.wrap .i64 (v7_6.2.2.2.1 + 1)), ((List.take v7_6.1 v7_6.2.2.2.2) ++ (CV.toL e11)))
else
K (v7_6.1, (List.take (0 + v7_6.1) v7_6.2.2.2.2)))
def f33_L2 {X : Type} (R_f51 : f51_R) (k : Nat) (K : Nat × (List CV) → Option X)  (rec2 : Nat × (List CV) × Int × Int × (List CV) → Option X) (v : Nat × (List CV) × Int × Int × (List CV)) : Option X := f33_T2 R_f51 k K   rec2 v
set_option maxRecDepth 100000 in
theorem f33_L2_ev {X : Type} (R_f51 : f51_R) (hR_f51 : AnsOk Try.prog 51 (f51_cOf R_f51)) (k : Nat) (K : Out → Option X)  (r2 : St → Option X) (v : Nat × (List CV) × Int × Int × (List CV)) : loopB (f33_cx R_f51 hR_f51) k [.r, .r, .r, .r, .l, .r, .b] (Try.f33.body.getD .skip) (retK (f33_cx R_f51 hR_f51) [] Try.f33.results.toList K) [] r2 (f33_S2 v) = f33_T2 R_f51 k (fun u => K (f33_out u))   (fun v => r2 (f33_S2 v)) v := by kernel_rfl
theorem f33_L2_it {X : Type} (R_f51 : f51_R) (hR_f51 : AnsOk Try.prog 51 (f51_cOf R_f51)) (k : Nat) (K : Out → Option X)  : (fun v => iter (loopB (f33_cx R_f51 hR_f51) k [.r, .r, .r, .r, .l, .r, .b] (Try.f33.body.getD .skip) (retK (f33_cx R_f51 hR_f51) [] Try.f33.results.toList K) []) k (f33_S2 v)) = iterV (f33_L2 R_f51 k (fun u => K (f33_out u)) ) k :=
  iter_map (fun r2 v => (f33_L2_ev R_f51 hR_f51 k K  r2 v).trans rfl) k
def f33_T1 {X : Type} (R_f51 : f51_R) (k : Nat) (K : Nat × (List CV) → Option X)  (loop2 : Nat × (List CV) × Int × Int × (List CV) → Option X) (rec1 : (List CV) × Int × (List CV) × Int × Int → Option X) (v5_0 : (List CV) × Int × (List CV) × Int × Int) : Option X :=
(bif (decide (v5_0.2.2.2.2 < v5_0.2.2.2.1)) then
grd (decide (0 ≤ v5_0.2.2.2.2)) <|
Option.bind (v5_0.2.2.1)[(Int.toNat v5_0.2.2.2.2)]? fun e5 =>
grd (CV.isL none e5) <|
(bif (decide ((IntKind.wrap .i64 (v5_0.2.1 + (Nat.cast ((List.length (CV.toL e5))) : Int))) < 0)) then
none
else
rec1 (v5_0.1, (IntKind.wrap .i64 (v5_0.2.1 + (Nat.cast ((List.length (CV.toL e5))) : Int))), v5_0.2.2.1, v5_0.2.2.2.1, (IntKind.wrap .i64 (v5_0.2.2.2.2 + 1))))
else
R_f51 _ (fun u6 =>
loop2 (0, v5_0.1, (Nat.cast ((List.length v5_0.1)) : Int), 0, u6)) (v5_0.2.1))
def f33_L1 {X : Type} (R_f51 : f51_R) (k : Nat) (K : Nat × (List CV) → Option X)  (rec1 : (List CV) × Int × (List CV) × Int × Int → Option X) (v : (List CV) × Int × (List CV) × Int × Int) : Option X := f33_T1 R_f51 k K  (iterV (f33_L2 R_f51 k K ) k) rec1 v
set_option maxRecDepth 100000 in
theorem f33_L1_ev {X : Type} (R_f51 : f51_R) (hR_f51 : AnsOk Try.prog 51 (f51_cOf R_f51)) (k : Nat) (K : Out → Option X)  (r1 : St → Option X) (v : (List CV) × Int × (List CV) × Int × Int) : loopB (f33_cx R_f51 hR_f51) k [.r, .r, .l, .r, .b] (Try.f33.body.getD .skip) (retK (f33_cx R_f51 hR_f51) [] Try.f33.results.toList K) [] r1 (f33_S1 v) = f33_T1 R_f51 k (fun u => K (f33_out u))  (fun v => iter (loopB (f33_cx R_f51 hR_f51) k [.r, .r, .r, .r, .l, .r, .b] (Try.f33.body.getD .skip) (retK (f33_cx R_f51 hR_f51) [] Try.f33.results.toList K) []) k (f33_S2 v)) (fun v => r1 (f33_S1 v)) v := by kernel_rfl
theorem f33_L1_it {X : Type} (R_f51 : f51_R) (hR_f51 : AnsOk Try.prog 51 (f51_cOf R_f51)) (k : Nat) (K : Out → Option X)  : (fun v => iter (loopB (f33_cx R_f51 hR_f51) k [.r, .r, .l, .r, .b] (Try.f33.body.getD .skip) (retK (f33_cx R_f51 hR_f51) [] Try.f33.results.toList K) []) k (f33_S1 v)) = iterV (f33_L1 R_f51 k (fun u => K (f33_out u)) ) k :=
  iter_map (fun r1 v => (f33_L1_ev R_f51 hR_f51 k K  r1 v).trans (by rw [f33_L2_it R_f51 hR_f51 k K ]; rfl)) k
def f33_T {X : Type} (R_f51 : f51_R) (k : Nat) (K : Nat × (List CV) → Option X) (loop1 : (List CV) × Int × (List CV) × Int × Int → Option X) (x0 : List CV) : Option X :=
loop1 (x0, 0, x0, (Nat.cast ((List.length x0)) : Int), 0)
/-- "slices.Concat[[]byte,byte]" -/
def f33_A (R_f51 : f51_R) (k : Nat) : f33_R := fun X K x0 => f33_T R_f51 k K (iterV (f33_L1 R_f51 k K) k) x0
set_option maxRecDepth 100000 in
theorem f33_ev' {X : Type} (R_f51 : f51_R) (hR_f51 : AnsOk Try.prog 51 (f51_cOf R_f51)) (k : Nat) (K : Out → Option X) (x0 : List CV) : evFn (f33_cx R_f51 hR_f51) [] k Try.f33.ntmps Try.f33.results.toList (Try.f33.body.getD .skip) [(.sl false none x0)] [] K = f33_T R_f51 k (fun u => K (f33_out u)) (fun v => iter (loopB (f33_cx R_f51 hR_f51) k [.r, .r, .l, .r, .b] (Try.f33.body.getD .skip) (retK (f33_cx R_f51 hR_f51) [] Try.f33.results.toList K) []) k (f33_S1 v)) x0 := by kernel_rfl
theorem f33_ev {X : Type} (R_f51 : f51_R) (hR_f51 : AnsOk Try.prog 51 (f51_cOf R_f51)) (k : Nat) (K : Out → Option X) (x0 : List CV) : evFn (f33_cx R_f51 hR_f51) [] k Try.f33.ntmps Try.f33.results.toList (Try.f33.body.getD .skip) [(.sl false none x0)] [] K = f33_A R_f51 k X (fun u => K (f33_out u)) x0 := (f33_ev' R_f51 hR_f51 k K x0).trans (by rw [f33_L1_it R_f51 hR_f51 k K]; rfl)
theorem f33_okA (R_f51 : f51_R) (hR_f51 : AnsOk Try.prog 51 (f51_cOf R_f51)) (k : Nat) : AnsOk Try.prog 33 (f33_cOf (f33_A R_f51 k)) := by
  intro X xs ns K x h
  unfold f33_cOf at h ⊢
  split at h
  · exact ans_main S (f33_Cok R_f51 hR_f51) Try.func33 (ent_of Try.func33 (by kernel_rfl) rfl) rfl (fun X K => f33_ev R_f51 hR_f51 k K _) h
  · cases h
/-- "slices.Concat[[]byte,byte]" -/
def f33 {X : Type} (k : Nat) (K : Nat × (List CV) → Option X) (x0 : List CV) : Option X := f33_A (fun X => @f51 X k) k X K x0
theorem f33_ok (k : Nat) : AnsOk Try.prog 33 (f33_cOf (fun X => @f33 X k)) := f33_okA (fun X => @f51 X k) (f51_ok k) k
abbrev f11_R : Type 1 := (X : Type) → (Nat × Int × (List CV) → Option X) → CV → Option X
def f11_out (u : Nat × Int × (List CV)) : Out := ⟨(.tup [(.osl [0, 2000] none 0 u.1), (.v (CV.int .i64 u.2.1))]), [([0, 2000], (.row false none u.2.2))]⟩
def f11_cOf (R : f11_R) : FnC := fun X xs ns K => match xs, ns with
  | [(.v x0)], [] => R X (fun u => K (f11_out u)) x0
  | _, _ => none
def f11_plan : Nat → Option (List Nat × List Wk)
  | 0 => some ([0], [])
  | 1 => some ([1], [])
  | 2 => some ([1], [])
  | 3 => some ([1], [])
  | 4 => some ([1], [])
  | 5 => some ([], [])
  | 6 => some ([1], [])
  | 7 => some ([1], [])
  | 8 => some ([], [])
  | 9 => some ([1], [])
  | 10 => some ([1, 4, 5], [])
  | 11 => some ([5], [])
  | 12 => some ([1, 4], [])
  | 13 => some ([1, 4, 6], [])
  | 14 => some ([1, 6], [])
  | 15 => some ([1, 6], [])
  | 16 => some ([1, 6], [])
  | 17 => some ([6], [])
  | _ => none
def f11_C (R_f30 : f30_R) (R_f31 : f31_R) (R_f32 : f32_R) (R_f33 : f33_R) : Fns := (orC 30 (f30_cOf R_f30) (orC 31 (f31_cOf R_f31) (orC 32 (f32_cOf R_f32) (orC 33 (f33_cOf R_f33) noC))))
theorem f11_Cok (R_f30 : f30_R) (R_f31 : f31_R) (R_f32 : f32_R) (R_f33 : f33_R) (hR_f30 : AnsOk Try.prog 30 (f30_cOf R_f30)) (hR_f31 : AnsOk Try.prog 31 (f31_cOf R_f31)) (hR_f32 : AnsOk Try.prog 32 (f32_cOf R_f32)) (hR_f33 : AnsOk Try.prog 33 (f33_cOf R_f33)) : CsOk Try.prog (f11_C R_f30 R_f31 R_f32 R_f33) := (orC_ok hR_f30 (orC_ok hR_f31 (orC_ok hR_f32 (orC_ok hR_f33 noC_ok))))
def f11_cx (R_f30 : f30_R) (R_f31 : f31_R) (R_f32 : f32_R) (R_f33 : f33_R) (hR_f30 : AnsOk Try.prog 30 (f30_cOf R_f30)) (hR_f31 : AnsOk Try.prog 31 (f31_cOf R_f31)) (hR_f32 : AnsOk Try.prog 32 (f32_cOf R_f32)) (hR_f33 : AnsOk Try.prog 33 (f33_cOf R_f33)) : Cx := mkCx (tabOf rows) (f11_C R_f30 R_f31 R_f32 R_f33) md (cmpIn cmps) f11_plan (f11_Cok R_f30 R_f31 R_f32 R_f33 hR_f30 hR_f31 hR_f32 hR_f33)
def f11_J1 {X : Type} (R_f30 : f30_R) (R_f31 : f31_R) (R_f32 : f32_R) (R_f33 : f33_R) (k : Nat) (K : Nat × Int × (List CV) → Option X)  (v11 : Nat × (List CV)) : Option X :=
K (v11.1, 0, (List.take (0 + v11.1) v11.2))
def f11_J2 {X : Type} (R_f30 : f30_R) (R_f31 : f31_R) (R_f32 : f32_R) (R_f33 : f33_R) (k : Nat) (K : Nat × Int × (List CV) → Option X) (x0 : CV) (v8 : Bool) : Option X :=
(bif v8 then
K (0, 2, (List.take 0 []))
else
R_f32 _ (fun u9 =>
(bif (u9.2.1 != 0) then
K (0, u9.2.1, (List.take 0 []))
else
R_f33 _ (fun u10 =>
(bif (decide ((Nat.cast ((List.length (CV.toL (CV.cellD 5 x0)))) : Int) > 0)) then
grd (decide ((u10.1 + (List.length (List.take 1 (List.drop 0 [(CV.int .u8 255)])))) * 1 ≤ 140737488355328)) <|
grd (decide (((u10.1 + (List.length (List.take 1 (List.drop 0 [(CV.int .u8 255)])))) + (List.length (CV.toL (CV.cellD 5 x0)))) * 1 ≤ 140737488355328)) <|
f11_J1 R_f30 R_f31 R_f32 R_f33 k K (((u10.1 + (List.length (List.take 1 (List.drop 0 [(CV.int .u8 255)])))) + (List.length (CV.toL (CV.cellD 5 x0)))), ((List.take (u10.1 + (List.length (List.take 1 (List.drop 0 [(CV.int .u8 255)])))) ((List.take u10.1 u10.2) ++ (List.take 1 (List.drop 0 [(CV.int .u8 255)])))) ++ (CV.toL (CV.cellD 5 x0))))
else
f11_J1 R_f30 R_f31 R_f32 R_f33 k K (u10.1, u10.2))) ((List.take 3 (List.drop 0 [(CV.slc none (List.take 4 (List.drop 0 [(CV.int .u8 (IntKind.wrap .u8 (bop .or .i64 (bop .or .i64 64 (IntKind.wrap .i64 ((CV.toI (CV.cellD 0 x0)) * 2 ^ 4))) (Nat.cast ((List.length (CV.toL (CV.cellD 3 x0)))) : Int)))), (CV.int .u8 (IntKind.wrap .u8 (CV.toI (CV.cellD 1 x0)))), (CV.int .u8 (IntKind.wrap .u8 (Int.fdiv (CV.toI (CV.cellD 2 x0)) (2 ^ 8)))), (CV.int .u8 (IntKind.wrap .u8 (CV.toI (CV.cellD 2 x0))))]))), (CV.slc none (CV.toL (CV.cellD 3 x0))), (CV.slc none (List.take u9.1 (List.drop 0 u9.2.2)))]))))) ((CV.toL (CV.cellD 4 x0))))
def f11_J3 {X : Type} (R_f30 : f30_R) (R_f31 : f31_R) (R_f32 : f32_R) (R_f33 : f33_R) (k : Nat) (K : Nat × Int × (List CV) → Option X) (x0 : CV) (v7 : Bool) : Option X :=
(bif v7 then
K (0, 1, (List.take 0 []))
else
(bif (decide ((Nat.cast ((List.length (CV.toL (CV.cellD 3 x0)))) : Int) > 8)) then
f11_J2 R_f30 R_f31 R_f32 R_f33 k K x0 ((decide ((Nat.cast ((List.length (CV.toL (CV.cellD 3 x0)))) : Int) > 8)))
else
f11_J2 R_f30 R_f31 R_f32 R_f33 k K x0 ((decide ((Nat.cast ((List.length (CV.toL (CV.cellD 5 x0)))) : Int) > 1200)))))
def f11_T {X : Type} (R_f30 : f30_R) (R_f31 : f31_R) (R_f32 : f32_R) (R_f33 : f33_R) (k : Nat) (K : Nat × Int × (List CV) → Option X)  (x0 : CV) : Option X :=
grd (CV.isA 6 x0) <|
grd (CV.isI .i64 (CV.cellD 0 x0)) <|
grd (CV.isI .i64 (CV.cellD 1 x0)) <|
grd (CV.isI .i64 (CV.cellD 2 x0)) <|
grd (CV.isL none (CV.cellD 3 x0)) <|
grd (CV.isL (some 2) (CV.cellD 4 x0)) <|
grd (CV.isL none (CV.cellD 5 x0)) <|
(bif (decide ((CV.toI (CV.cellD 0 x0)) < 0)) then
f11_J3 R_f30 R_f31 R_f32 R_f33 k K x0 (true)
else
(bif (decide ((CV.toI (CV.cellD 0 x0)) > 3)) then
f11_J3 R_f30 R_f31 R_f32 R_f33 k K x0 ((decide ((CV.toI (CV.cellD 0 x0)) > 3)))
else
(bif (decide ((CV.toI (CV.cellD 1 x0)) < 0)) then
f11_J3 R_f30 R_f31 R_f32 R_f33 k K x0 (true)
else
(bif (decide ((CV.toI (CV.cellD 1 x0)) > 255)) then
f11_J3 R_f30 R_f31 R_f32 R_f33 k K x0 (true)
else
R_f30 _ (fun u12 =>
(bif (!u12) then
f11_J3 R_f30 R_f31 R_f32 R_f33 k K x0 ((!u12))
else
(bif (decide ((CV.toI (CV.cellD 2 x0)) < 0)) then
f11_J3 R_f30 R_f31 R_f32 R_f33 k K x0 (true)
else
(bif (decide ((CV.toI (CV.cellD 2 x0)) > 65535)) then
f11_J3 R_f30 R_f31 R_f32 R_f33 k K x0 ((decide ((CV.toI (CV.cellD 2 x0)) > 65535)))
else
(bif ((CV.toI (CV.cellD 1 x0)) == 0) then
R_f31 _ (fun u13 =>
f11_J3 R_f30 R_f31 R_f32 R_f33 k K x0 ((!u13))) ((CV.agg [(CV.int .i64 (CV.toI (CV.cellD 0 x0))), (CV.int .i64 (CV.toI (CV.cellD 1 x0))), (CV.int .i64 (CV.toI (CV.cellD 2 x0))), (CV.slc none (CV.toL (CV.cellD 3 x0))), (CV.slc (some 2) (CV.toL (CV.cellD 4 x0))), (CV.slc none (CV.toL (CV.cellD 5 x0)))]))
else
f11_J3 R_f30 R_f31 R_f32 R_f33 k K x0 (false)))))) ((CV.toI (CV.cellD 1 x0)))))))
/-- "outpost/msg.Write" -/
def f11_A (R_f30 : f30_R) (R_f31 : f31_R) (R_f32 : f32_R) (R_f33 : f33_R) (k : Nat) : f11_R := fun X K x0 => f11_T R_f30 R_f31 R_f32 R_f33 k K  x0
set_option maxRecDepth 100000 in
theorem f11_ev' {X : Type} (R_f30 : f30_R) (R_f31 : f31_R) (R_f32 : f32_R) (R_f33 : f33_R) (hR_f30 : AnsOk Try.prog 30 (f30_cOf R_f30)) (hR_f31 : AnsOk Try.prog 31 (f31_cOf R_f31)) (hR_f32 : AnsOk Try.prog 32 (f32_cOf R_f32)) (hR_f33 : AnsOk Try.prog 33 (f33_cOf R_f33)) (k : Nat) (K : Out → Option X) (x0 : CV) : evFn (f11_cx R_f30 R_f31 R_f32 R_f33 hR_f30 hR_f31 hR_f32 hR_f33) [⟨0, [0], some [0, 2000]⟩] k Try.f11.ntmps Try.f11.results.toList (Try.f11.body.getD .skip) [(.v x0)] [] K = f11_T R_f30 R_f31 R_f32 R_f33 k (fun u => K (f11_out u)) x0 := by kernel_rfl
theorem f11_ev {X : Type} (R_f30 : f30_R) (R_f31 : f31_R) (R_f32 : f32_R) (R_f33 : f33_R) (hR_f30 : AnsOk Try.prog 30 (f30_cOf R_f30)) (hR_f31 : AnsOk Try.prog 31 (f31_cOf R_f31)) (hR_f32 : AnsOk Try.prog 32 (f32_cOf R_f32)) (hR_f33 : AnsOk Try.prog 33 (f33_cOf R_f33)) (k : Nat) (K : Out → Option X) (x0 : CV) : evFn (f11_cx R_f30 R_f31 R_f32 R_f33 hR_f30 hR_f31 hR_f32 hR_f33) [⟨0, [0], some [0, 2000]⟩] k Try.f11.ntmps Try.f11.results.toList (Try.f11.body.getD .skip) [(.v x0)] [] K = f11_A R_f30 R_f31 R_f32 R_f33 k X (fun u => K (f11_out u)) x0 := (f11_ev' R_f30 R_f31 R_f32 R_f33 hR_f30 hR_f31 hR_f32 hR_f33 k K x0).trans rfl
theorem f11_okA (R_f30 : f30_R) (R_f31 : f31_R) (R_f32 : f32_R) (R_f33 : f33_R) (hR_f30 : AnsOk Try.prog 30 (f30_cOf R_f30)) (hR_f31 : AnsOk Try.prog 31 (f31_cOf R_f31)) (hR_f32 : AnsOk Try.prog 32 (f32_cOf R_f32)) (hR_f33 : AnsOk Try.prog 33 (f33_cOf R_f33)) (k : Nat) : AnsOk Try.prog 11 (f11_cOf (f11_A R_f30 R_f31 R_f32 R_f33 k)) := by
  intro X xs ns K x h
  unfold f11_cOf at h ⊢
  split at h
  · exact ans_main S (f11_Cok R_f30 R_f31 R_f32 R_f33 hR_f30 hR_f31 hR_f32 hR_f33) Try.func11 (ent_of Try.func11 (by kernel_rfl) rfl) rfl (fun X K => f11_ev R_f30 R_f31 R_f32 R_f33 hR_f30 hR_f31 hR_f32 hR_f33 k K _) h
  · cases h
/-- "outpost/msg.Write" -/
def f11 {X : Type} (k : Nat) (K : Nat × Int × (List CV) → Option X) (x0 : CV) : Option X := f11_A (fun X => @f30 X k) (fun X => @f31 X k) (fun X => @f32 X k) (fun X => @f33 X k) k X K x0
theorem f11_ok (k : Nat) : AnsOk Try.prog 11 (f11_cOf (fun X => @f11 X k)) := f11_okA (fun X => @f30 X k) (fun X => @f31 X k) (fun X => @f32 X k) (fun X => @f33 X k) (f30_ok k) (f31_ok k) (f32_ok k) (f33_ok k) k
abbrev f19_R : Type 1 := (X : Type) → (Int × (List CV) × (List CV) × (List CV) → Option X) → CV → Option X
def f19_out (u : Int × (List CV) × (List CV) × (List CV)) : Out := ⟨(.agg [(.v (CV.int .i64 2)), (.v (CV.int .i64 0)), (.v (CV.int .i64 u.1)), (.osl [3, 2000] none 0 0), (.osl [4, 2000] (some 2) 0 0), (.osl [5, 2000] none 0 0)]), [([3, 2000], (.row false none u.2.1)), ([4, 2000], (.row false (some 2) u.2.2.1)), ([5, 2000], (.row false none u.2.2.2))]⟩
def f19_cOf (R : f19_R) : FnC := fun X xs ns K => match xs, ns with
  | [(.v x0)], [] => R X (fun u => K (f19_out u)) x0
  | _, _ => none
def f19_plan : Nat → Option (List Nat × List Wk)
  | 0 => some ([0], [])
  | 1 => some ([1, 2], [])
  | _ => none
def f19_C : Fns := noC
theorem f19_Cok : CsOk Try.prog (f19_C) := noC_ok
def f19_cx : Cx := mkCx (tabOf rows) (f19_C) md (cmpIn cmps) f19_plan (f19_Cok)
def f19_T {X : Type} (k : Nat) (K : Int × (List CV) × (List CV) × (List CV) → Option X)  (x0 : CV) : Option X :=
grd (CV.isA 6 x0) <|
grd (CV.isI .i64 (CV.cellD 0 x0)) <|
grd (CV.isI .i64 (CV.cellD 1 x0)) <|
grd (CV.isI .i64 (CV.cellD 2 x0)) <|
grd (CV.isL none (CV.cellD 3 x0)) <|
grd (CV.isL (some 2) (CV.cellD 4 x0)) <|
grd (CV.isL none (CV.cellD 5 x0)) <|
K ((CV.toI (CV.cellD 2 x0)), (List.take 0 []), (List.take 0 []), (List.take 0 []))
/-- "outpost/msg.Ack" -/
def f19_A (k : Nat) : f19_R := fun X K x0 => f19_T k K  x0
set_option maxRecDepth 100000 in
theorem f19_ev' {X : Type} (k : Nat) (K : Out → Option X) (x0 : CV) : evFn (f19_cx) [] k Try.f19.ntmps Try.f19.results.toList (Try.f19.body.getD .skip) [(.v x0)] [] K = f19_T k (fun u => K (f19_out u)) x0 := by kernel_rfl
theorem f19_ev {X : Type} (k : Nat) (K : Out → Option X) (x0 : CV) : evFn (f19_cx) [] k Try.f19.ntmps Try.f19.results.toList (Try.f19.body.getD .skip) [(.v x0)] [] K = f19_A k X (fun u => K (f19_out u)) x0 := (f19_ev' k K x0).trans rfl
theorem f19_okA (k : Nat) : AnsOk Try.prog 19 (f19_cOf (f19_A k)) := by
  intro X xs ns K x h
  unfold f19_cOf at h ⊢
  split at h
  · exact ans_main S (f19_Cok) Try.func19 (ent_of Try.func19 (by kernel_rfl) rfl) rfl (fun X K => f19_ev k K _) h
  · cases h
/-- "outpost/msg.Ack" -/
def f19 {X : Type} (k : Nat) (K : Int × (List CV) × (List CV) × (List CV) → Option X) (x0 : CV) : Option X := f19_A k X K x0
theorem f19_ok (k : Nat) : AnsOk Try.prog 19 (f19_cOf (fun X => @f19 X k)) := f19_okA k
abbrev f16_R : Type 1 := (X : Type) → (Int × Int × Bool → Option X) → (List CV) → Option X
def f16_out (u : Int × Int × Bool) : Out := ⟨(.tup [(.v (CV.int .i64 u.1)), (.v (CV.int .i64 u.2.1)), (.v (CV.bool u.2.2))]), []⟩
def f16_cOf (R : f16_R) : FnC := fun X xs ns K => match xs, ns with
  | [(.sl false none x0)], [] => R X (fun u => K (f16_out u)) x0
  | _, _ => none
def f16_plan : Nat → Option (List Nat × List Wk)
  | 0 => some ([0], [])
  | 1 => some ([0], [])
  | 2 => some ([], [])
  | 3 => some ([0], [])
  | _ => none
def f16_C : Fns := noC
theorem f16_Cok : CsOk Try.prog (f16_C) := noC_ok
def f16_cx : Cx := mkCx (tabOf rows) (f16_C) md (cmpIn cmps) f16_plan (f16_Cok)
def f16_T {X : Type} (k : Nat) (K : Int × Int × Bool → Option X)  (x0 : List CV) : Option X :=
(bif (decide ((Nat.cast ((List.length x0)) : Int) < 4)) then
K (0, 0, false)
else
Option.bind (x0)[0]? fun e2 =>
grd (CV.isI .u8 e2) <|
(bif ((Int.fdiv (CV.toI e2) (2 ^ 6)) != 1) then
K (0, 0, false)
else
Option.bind (x0)[0]? fun e3 =>
grd (CV.isI .u8 e3) <|
Option.bind (x0)[2]? fun e4 =>
grd (CV.isI .u8 e4) <|
Option.bind (x0)[3]? fun e5 =>
grd (CV.isI .u8 e5) <|
K ((bop .and .i64 (IntKind.wrap .i64 (Int.fdiv (CV.toI e3) (2 ^ 4))) 3), (bop .or .i64 (IntKind.wrap .i64 ((IntKind.wrap .i64 (CV.toI e4)) * 2 ^ 8)) (IntKind.wrap .i64 (CV.toI e5))), true)))
/-- "outpost/msg.Sniff" -/
def f16_A (k : Nat) : f16_R := fun X K x0 => f16_T k K  x0
set_option maxRecDepth 100000 in
theorem f16_ev' {X : Type} (k : Nat) (K : Out → Option X) (x0 : List CV) : evFn (f16_cx) [] k Try.f16.ntmps Try.f16.results.toList (Try.f16.body.getD .skip) [(.sl false none x0)] [] K = f16_T k (fun u => K (f16_out u)) x0 := by kernel_rfl
theorem f16_ev {X : Type} (k : Nat) (K : Out → Option X) (x0 : List CV) : evFn (f16_cx) [] k Try.f16.ntmps Try.f16.results.toList (Try.f16.body.getD .skip) [(.sl false none x0)] [] K = f16_A k X (fun u => K (f16_out u)) x0 := (f16_ev' k K x0).trans rfl
theorem f16_okA (k : Nat) : AnsOk Try.prog 16 (f16_cOf (f16_A k)) := by
  intro X xs ns K x h
  unfold f16_cOf at h ⊢
  split at h
  · exact ans_main S (f16_Cok) Try.func16 (ent_of Try.func16 (by kernel_rfl) rfl) rfl (fun X K => f16_ev k K _) h
  · cases h
/-- "outpost/msg.Sniff" -/
def f16 {X : Type} (k : Nat) (K : Int × Int × Bool → Option X) (x0 : List CV) : Option X := f16_A k X K x0
theorem f16_ok (k : Nat) : AnsOk Try.prog 16 (f16_cOf (fun X => @f16 X k)) := f16_okA k
def f37_plan : Nat → Option (List Nat × List Wk)
  | 0 => some ([0], [])
  | 1 => some ([0], [])
  | 2 => some ([], [])
  | 3 => some ([0], [])
  | _ => none
def f37_cx : Cx := mkCx (tabOf rows) noC md (cmpIn cmps) f37_plan (noC_ok (P := Try.prog))
/-- "slices.Clone[[]byte,byte]" -/
def f37 {X : Type} (k : Nat) (K : List CV → Option X) (x0 : List CV) : Option X := grd (decide ((0 + List.length x0) * 1 ≤ 140737488355328)) (K x0)
def f37_out (u : List CV) : Out := ⟨.osl [2000] none 0 (List.length u), [([2000], .row false none u)]⟩
set_option maxRecDepth 100000 in
theorem f37_fn (x0 : List CV) (hl : (decide ((0 + List.length x0) * 1 ≤ 140737488355328)) = true) : FnOk Try.prog 37 [.sl false none x0] [] (f37_out x0) := by
  refine nilsplit (cx := f37_cx) (xs := x0) (p := false) (sh := none) (fuel := 1) (ws := [⟨0, [], some [2000]⟩]) (tabOf_tabOk S.hr) (tabOf_noOther S.hr) (CsOk.fns (noC_ok (P := Try.prog)) (cmpsAre_ok cmps_ok)) S.hm Try.func37 rfl rfl Try.underlying22 (s1 := ⟨[(.sl false none x0), .undef, (.nil0 none), .undef, .undef, .undef, .undef, .undef], []⟩) (s2 := ⟨[(.sl false none x0), .undef, .undef, .undef, .undef, .undef, .undef, .undef], []⟩) (s3 := ⟨[(.sl false none x0), .undef, .undef, (.sl false none x0), .undef, .undef, .undef, .undef], []⟩) ?_ ?_ ?_ rfl ?_ (fun h => ?_) ⟨rfl, rfl⟩
  · kernel_rfl
  · kernel_rfl
  · kernel_rfl
  · refine Eq.trans (b := grd (decide ((0 + List.length x0) * 1 ≤ 140737488355328)) (some ⟨.osl [2000] none 0 (0 + List.length x0), [([2000], .row false none (List.take (0 + (0 + List.length x0)) (List.take 0 [] ++ x0)))]⟩)) (by kernel_rfl) ?_
    rw [hl]
    simp [grd, f37_out]
  · subst h
    kernel_rfl
abbrev f37_R : Type 1 := (X : Type) → (List CV → Option X) → List CV → Option X
def f37_cOf (R : f37_R) : FnC := fun X xs ns K => match xs, ns with
  | [.sl false none x0], [] => R X (fun u => K (f37_out u)) x0
  | _, _ => none
theorem f37_ok (k : Nat) : AnsOk Try.prog 37 (f37_cOf (fun X => @f37 X k)) := by
  intro X xs ns K x h
  unfold f37_cOf at h ⊢
  split at h
  · next x0 =>
    obtain ⟨h1, h2⟩ := grd_some (show grd (decide ((0 + List.length x0) * 1 ≤ 140737488355328)) (K (f37_out x0)) = some x from h)
    exact ⟨trivial, _, (f37_fn x0 h1).toX (ent_of Try.func37 (by kernel_rfl) rfl), h2, fun Y K' => by show grd _ _ = _; rw [h1]; rfl⟩
  · cases h
abbrev f62_R : Type 1 := (X : Type) → (Int × Bool × (List CV) × Int → Option X) → Int → (List CV) → Int → Option X
def f62_out (u : Int × Bool × (List CV) × Int) : Out := ⟨(.tup [(.v (CV.int .i64 u.1)), (.v (CV.bool u.2.1))]), [([1000], (.obj [(.sl true none u.2.2.1), (.v (CV.int .i64 u.2.2.2))]))]⟩
def f62_cOf (R : f62_R) : FnC := fun X xs ns K => match xs, ns with
  | [(.ptr [1000] 0 0 0), (.v (CV.int .i64 x0))], [([1000], (.obj [(.sl true none x1), (.v (CV.int .i64 x2))]))] => R X (fun u => K (f62_out u)) x0 x1 x2
  | _, _ => none
def f62_plan : Nat → Option (List Nat × List Wk)
  | 0 => some ([0, 1], [])
  | 1 => some ([0, 1], [])
  | 2 => some ([0, 1, 6], [])
  | 3 => some ([0], [])
  | 4 => some ([], [])
  | 5 => some ([0], [])
  | 6 => some ([0], [])
  | 7 => some ([0, 1, 6], [])
  | 8 => some ([0], [])
  | 9 => some ([], [])
  | 10 => some ([0], [])
  | 11 => some ([0], [])
  | 12 => some ([1], [])
  | _ => none
def f62_C : Fns := noC
theorem f62_Cok : CsOk Try.prog (f62_C) := noC_ok
def f62_cx : Cx := mkCx (tabOf rows) (f62_C) md (cmpIn cmps) f62_plan (f62_Cok)
def f62_T {X : Type} (k : Nat) (K : Int × Bool × (List CV) × Int → Option X)  (x0 : Int) (x1 : List CV) (x2 : Int) : Option X :=
(bif (x0 == 13) then
(bif (decide ((IntKind.wrap .i64 (x2 + 1)) > (Nat.cast ((List.length x1)) : Int))) then
K (0, false, x1, x2)
else
grd (decide (0 ≤ (IntKind.wrap .i64 ((IntKind.wrap .i64 (x2 + 1)) - 1)))) <|
Option.bind (x1)[(Int.toNat (IntKind.wrap .i64 ((IntKind.wrap .i64 (x2 + 1)) - 1)))]? fun e4 =>
grd (CV.isI .u8 e4) <|
K ((IntKind.wrap .i64 (13 + (IntKind.wrap .i64 (CV.toI e4)))), true, x1, (IntKind.wrap .i64 (x2 + 1))))
else
(bif (x0 == 14) then
(bif (decide ((IntKind.wrap .i64 (x2 + 2)) > (Nat.cast ((List.length x1)) : Int))) then
K (0, false, x1, x2)
else
grd (decide (0 ≤ (IntKind.wrap .i64 ((IntKind.wrap .i64 (x2 + 2)) - 2)))) <|
Option.bind (x1)[(Int.toNat (IntKind.wrap .i64 ((IntKind.wrap .i64 (x2 + 2)) - 2)))]? fun e5 =>
grd (CV.isI .u8 e5) <|
grd (decide (0 ≤ (IntKind.wrap .i64 ((IntKind.wrap .i64 (x2 + 2)) - 1)))) <|
Option.bind (x1)[(Int.toNat (IntKind.wrap .i64 ((IntKind.wrap .i64 (x2 + 2)) - 1)))]? fun e6 =>
grd (CV.isI .u8 e6) <|
K ((IntKind.wrap .i64 ((IntKind.wrap .i64 (269 + (IntKind.wrap .i64 ((IntKind.wrap .i64 (CV.toI e5)) * 2 ^ 8)))) + (IntKind.wrap .i64 (CV.toI e6)))), true, x1, (IntKind.wrap .i64 (x2 + 2))))
else
K (x0, true, x1, x2)))
/-- "(*outpost/opt.reader).number" -/
def f62_A (k : Nat) : f62_R := fun X K x0 x1 x2 => f62_T k K  x0 x1 x2
set_option maxRecDepth 100000 in
theorem f62_ev' {X : Type} (k : Nat) (K : Out → Option X) (x0 : Int) (x1 : List CV) (x2 : Int) : evFn (f62_cx) [] k Try.f62.ntmps Try.f62.results.toList (Try.f62.body.getD .skip) [(.ptr [1000] 0 0 0), (.v (CV.int .i64 x0))] [([1000], (.obj [(.sl true none x1), (.v (CV.int .i64 x2))]))] K = f62_T k (fun u => K (f62_out u)) x0 x1 x2 := by kernel_rfl
theorem f62_ev {X : Type} (k : Nat) (K : Out → Option X) (x0 : Int) (x1 : List CV) (x2 : Int) : evFn (f62_cx) [] k Try.f62.ntmps Try.f62.results.toList (Try.f62.body.getD .skip) [(.ptr [1000] 0 0 0), (.v (CV.int .i64 x0))] [([1000], (.obj [(.sl true none x1), (.v (CV.int .i64 x2))]))] K = f62_A k X (fun u => K (f62_out u)) x0 x1 x2 := (f62_ev' k K x0 x1 x2).trans rfl
theorem f62_okA (k : Nat) : AnsOk Try.prog 62 (f62_cOf (f62_A k)) := by
  intro X xs ns K x h
  unfold f62_cOf at h ⊢
  split at h
  · exact ans_main S (f62_Cok) Try.func62 (ent_of Try.func62 (by kernel_rfl) rfl) rfl (fun X K => f62_ev k K _ _ _) h
  · cases h
/-- "(*outpost/opt.reader).number" -/
def f62 {X : Type} (k : Nat) (K : Int × Bool × (List CV) × Int → Option X) (x0 : Int) (x1 : List CV) (x2 : Int) : Option X := f62_A k X K x0 x1 x2
theorem f62_ok (k : Nat) : AnsOk Try.prog 62 (f62_cOf (fun X => @f62 X k)) := f62_okA k
abbrev f53_R : Type 1 := (X : Type) → (Int × Nat × Int × (List CV) × Int × (List CV) → Option X) → Int → Int → (List CV) → Int → Option X
def f53_out (u : Int × Nat × Int × (List CV) × Int × (List CV)) : Out := ⟨(.tup [(.agg [(.v (CV.int .i64 u.1)), (.osl [1, 0, 2000] none 0 u.2.1)]), (.v (CV.int .i64 u.2.2.1))]), [([1000], (.obj [(.sl true none u.2.2.2.1), (.v (CV.int .i64 u.2.2.2.2.1))])), ([1, 0, 2000], (.row false none u.2.2.2.2.2))]⟩
def f53_cOf (R : f53_R) : FnC := fun X xs ns K => match xs, ns with
  | [(.ptr [1000] 0 0 0), (.v (CV.int .i64 x0)), (.v (CV.int .i64 x1))], [([1000], (.obj [(.sl true none x2), (.v (CV.int .i64 x3))]))] => R X (fun u => K (f53_out u)) x0 x1 x2 x3
  | _, _ => none
def f53_plan : Nat → Option (List Nat × List Wk)
  | 0 => some ([0, 1, 2], [])
  | 1 => some ([0, 1, 2, 6], [])
  | 2 => some ([0, 1, 2, 6, 8], [])
  | 3 => some ([6], [])
  | 4 => some ([0, 1, 2, 6, 8], [])
  | 5 => some ([0, 1, 2, 6, 8], [])
  | 6 => some ([0, 1, 2, 6, 8, 9, 10], [])
  | 7 => some ([6], [])
  | 8 => some ([0, 1, 2, 6, 8, 9], [])
  | 9 => some ([0, 1, 2, 6, 9, 10, 11], [])
  | 10 => some ([6], [])
  | 11 => some ([0, 1, 2, 6, 9, 11], [])
  | 12 => some ([6], [])
  | 13 => some ([0, 1, 6, 9, 11], [])
  | 14 => some ([6], [])
  | 15 => some ([0, 1, 6, 9, 11], [])
  | 16 => some ([6], [])
  | 17 => some ([0, 1, 6, 9, 11], [])
  | 18 => some ([6], [])
  | 19 => some ([0, 1, 6, 9, 11], [])
  | 20 => some ([0, 6, 11, 12], [])
  | 21 => some ([6, 12], [])
  | _ => none
def f53_C (R_f62 : f62_R) (R_f37 : f37_R) : Fns := (orC 37 (f37_cOf R_f37) (orC 62 (f62_cOf R_f62) noC))
theorem f53_Cok (R_f62 : f62_R) (R_f37 : f37_R) (hR_f62 : AnsOk Try.prog 62 (f62_cOf R_f62)) (hR_f37 : AnsOk Try.prog 37 (f37_cOf R_f37)) : CsOk Try.prog (f53_C R_f62 R_f37) := (orC_ok hR_f37 (orC_ok hR_f62 noC_ok))
def f53_cx (R_f62 : f62_R) (R_f37 : f37_R) (hR_f62 : AnsOk Try.prog 62 (f62_cOf R_f62)) (hR_f37 : AnsOk Try.prog 37 (f37_cOf R_f37)) : Cx := mkCx (tabOf rows) (f53_C R_f62 R_f37) md (cmpIn cmps) f53_plan (f53_Cok R_f62 R_f37 hR_f62 hR_f37)
def f53_T {X : Type} (R_f62 : f62_R) (R_f37 : f37_R) (k : Nat) (K : Int × Nat × Int × (List CV) × Int × (List CV) → Option X)  (x0 : Int) (x1 : Int) (x2 : List CV) (x3 : Int) : Option X :=
grd (decide (0 ≤ x3)) <|
Option.bind (x2)[(Int.toNat x3)]? fun e1 =>
grd (CV.isI .u8 e1) <|
(bif ((Int.fdiv (IntKind.wrap .i64 (CV.toI e1)) (2 ^ 4)) == 15) then
K (0, 0, 20, x2, x3, (List.take 0 []))
else
(bif ((bop .and .i64 (IntKind.wrap .i64 (CV.toI e1)) 15) == 15) then
K (0, 0, 20, x2, x3, (List.take 0 []))
else
R_f62 _ (fun u2 =>
(bif (!u2.2.1) then
K (0, 0, 20, u2.2.2.1, u2.2.2.2, (List.take 0 []))
else
R_f62 _ (fun u3 =>
(bif (!u3.2.1) then
K (0, 0, 20, u3.2.2.1, u3.2.2.2, (List.take 0 []))
else
(bif (x1 == 24) then
K (0, 0, 3, u3.2.2.1, u3.2.2.2, (List.take 0 []))
else
(bif (decide ((IntKind.wrap .i64 (x0 + u2.1)) > 65535)) then
K (0, 0, 1, u3.2.2.1, u3.2.2.2, (List.take 0 []))
else
(bif (decide (u3.1 > 300)) then
K (0, 0, 2, u3.2.2.1, u3.2.2.2, (List.take 0 []))
else
(bif (decide (u3.1 > (IntKind.wrap .i64 ((Nat.cast ((List.length u3.2.2.1)) : Int) - u3.2.2.2)))) then
K (0, 0, 20, u3.2.2.1, u3.2.2.2, (List.take 0 []))
else
grd (decide (0 ≤ u3.2.2.2)) <|
grd (decide (u3.2.2.2 ≤ (IntKind.wrap .i64 (u3.2.2.2 + u3.1)))) <|
grd (decide ((IntKind.wrap .i64 (u3.2.2.2 + u3.1)) ≤ (Nat.cast ((List.length u3.2.2.1)) : Int))) <|
R_f37 _ (fun u4 =>
K ((IntKind.wrap .i64 (x0 + u2.1)), (List.length u4), 0, u3.2.2.1, (IntKind.wrap .i64 (u3.2.2.2 + u3.1)), (List.take (0 + (List.length u4)) u4))) ((List.take ((Int.toNat (IntKind.wrap .i64 (u3.2.2.2 + u3.1))) - (Int.toNat u3.2.2.2)) (List.drop (Int.toNat u3.2.2.2) u3.2.2.1))))))))) ((bop .and .i64 (IntKind.wrap .i64 (CV.toI e1)) 15)) (u2.2.2.1) (u2.2.2.2))) ((Int.fdiv (IntKind.wrap .i64 (CV.toI e1)) (2 ^ 4))) (x2) ((IntKind.wrap .i64 (x3 + 1)))))
/-- "(*outpost/opt.reader).option" -/
def f53_A (R_f62 : f62_R) (R_f37 : f37_R) (k : Nat) : f53_R := fun X K x0 x1 x2 x3 => f53_T R_f62 R_f37 k K  x0 x1 x2 x3
set_option maxRecDepth 100000 in
theorem f53_ev' {X : Type} (R_f62 : f62_R) (R_f37 : f37_R) (hR_f62 : AnsOk Try.prog 62 (f62_cOf R_f62)) (hR_f37 : AnsOk Try.prog 37 (f37_cOf R_f37)) (k : Nat) (K : Out → Option X) (x0 : Int) (x1 : Int) (x2 : List CV) (x3 : Int) : evFn (f53_cx R_f62 R_f37 hR_f62 hR_f37) [] k Try.f53.ntmps Try.f53.results.toList (Try.f53.body.getD .skip) [(.ptr [1000] 0 0 0), (.v (CV.int .i64 x0)), (.v (CV.int .i64 x1))] [([1000], (.obj [(.sl true none x2), (.v (CV.int .i64 x3))]))] K = f53_T R_f62 R_f37 k (fun u => K (f53_out u)) x0 x1 x2 x3 := by kernel_rfl
theorem f53_ev {X : Type} (R_f62 : f62_R) (R_f37 : f37_R) (hR_f62 : AnsOk Try.prog 62 (f62_cOf R_f62)) (hR_f37 : AnsOk Try.prog 37 (f37_cOf R_f37)) (k : Nat) (K : Out → Option X) (x0 : Int) (x1 : Int) (x2 : List CV) (x3 : Int) : evFn (f53_cx R_f62 R_f37 hR_f62 hR_f37) [] k Try.f53.ntmps Try.f53.results.toList (Try.f53.body.getD .skip) [(.ptr [1000] 0 0 0), (.v (CV.int .i64 x0)), (.v (CV.int .i64 x1))] [([1000], (.obj [(.sl true none x2), (.v (CV.int .i64 x3))]))] K = f53_A R_f62 R_f37 k X (fun u => K (f53_out u)) x0 x1 x2 x3 := (f53_ev' R_f62 R_f37 hR_f62 hR_f37 k K x0 x1 x2 x3).trans rfl
theorem f53_okA (R_f62 : f62_R) (R_f37 : f37_R) (hR_f62 : AnsOk Try.prog 62 (f62_cOf R_f62)) (hR_f37 : AnsOk Try.prog 37 (f37_cOf R_f37)) (k : Nat) : AnsOk Try.prog 53 (f53_cOf (f53_A R_f62 R_f37 k)) := by
  intro X xs ns K x h
  unfold f53_cOf at h ⊢
  split at h
  · exact ans_main S (f53_Cok R_f62 R_f37 hR_f62 hR_f37) Try.func53 (ent_of Try.func53 (by kernel_rfl) rfl) rfl (fun X K => f53_ev R_f62 R_f37 hR_f62 hR_f37 k K _ _ _ _) h
  · cases h
/-- "(*outpost/opt.reader).option" -/
def f53 {X : Type} (k : Nat) (K : Int × Nat × Int × (List CV) × Int × (List CV) → Option X) (x0 : Int) (x1 : Int) (x2 : List CV) (x3 : Int) : Option X := f53_A (fun X => @f62 X k) (fun X => @f37 X k) k X K x0 x1 x2 x3
theorem f53_ok (k : Nat) : AnsOk Try.prog 53 (f53_cOf (fun X => @f53 X k)) := f53_okA (fun X => @f62 X k) (fun X => @f37 X k) (f62_ok k) (f37_ok k) k
abbrev f38_R : Type 1 := (X : Type) → (Nat × Int × Int × (List CV) → Option X) → (List CV) → Option X
def f38_out (u : Nat × Int × Int × (List CV)) : Out := ⟨(.tup [(.osl [0, 2000] (some 2) 0 u.1), (.v (CV.int .i64 u.2.1)), (.v (CV.int .i64 u.2.2.1))]), [([0, 2000], (.row false (some 2) u.2.2.2))]⟩
def f38_cOf (R : f38_R) : FnC := fun X xs ns K => match xs, ns with
  | [(.sl true none x0)], [] => R X (fun u => K (f38_out u)) x0
  | _, _ => none
def f38_plan : Nat → Option (List Nat × List Wk)
  | 0 => some ([0], [])
  | 1 => some ([0], [])
  | 2 => some ([0, 5], [])
  | 3 => some ([0, 5, 6], [])
  | 4 => some ([0, 5, 6, 7], [⟨6, [], some [6]⟩])
  | 5 => some ([0, 5, 6, 7], [])
  | 6 => some ([0, 5, 6, 8, 9], [])
  | 7 => some ([9], [])
  | 8 => some ([0, 5, 6, 8], [])
  | 9 => some ([0, 5, 6, 8], [])
  | 10 => some ([5, 6], [])
  | _ => none
def f38_C (R_f53 : f53_R) : Fns := (orC 53 (f53_cOf R_f53) noC)
theorem f38_Cok (R_f53 : f53_R) (hR_f53 : AnsOk Try.prog 53 (f53_cOf R_f53)) : CsOk Try.prog (f38_C R_f53) := (orC_ok hR_f53 noC_ok)
def f38_cx (R_f53 : f53_R) (hR_f53 : AnsOk Try.prog 53 (f53_cOf R_f53)) : Cx := mkCx (tabOf rows) (f38_C R_f53) md (cmpIn cmps) f38_plan (f38_Cok R_f53 hR_f53)
def f38_S1 (v : (List CV) × Nat × Int × (List CV) × (List CV) × Int) : St := ⟨[(.sl true none v.1), .undef, .undef, .undef, .undef, (.ptr [12] 0 0 0), (.osl [6] (some 2) 0 v.2.1), (.v (CV.int .i64 v.2.2.1)), .undef, .undef, .undef, .undef, .undef, .undef, .undef, .undef, .undef, .undef, .undef, .undef, .undef, .undef, .undef, .undef, .undef, .undef, .undef, .undef, .undef, .undef, .undef, .undef, .undef, .undef, .undef, .undef, .undef, .undef, .undef, .undef, .undef, .undef, .undef, .undef, .undef, .undef, .undef, .undef, .undef, .undef, .undef, .undef], [([6], (.row false (some 2) v.2.2.2.1)), ([12], (.obj [(.sl true none v.2.2.2.2.1), (.v (CV.int .i64 v.2.2.2.2.2))]))]⟩
def f38_T1 {X : Type} (R_f53 : f53_R) (k : Nat) (K : Nat × Int × Int × (List CV) → Option X)   (rec1 : (List CV) × Nat × Int × (List CV) × (List CV) × Int → Option X) (v6_0 : (List CV) × Nat × Int × (List CV) × (List CV) × Int) : Option X :=
(bif (decide (v6_0.2.2.2.2.2 < (Nat.cast ((List.length v6_0.1)) : Int))) then
grd (decide (0 ≤ v6_0.2.2.2.2.2)) <|
Option.bind (v6_0.1)[(Int.toNat v6_0.2.2.2.2.2)]? fun e6 =>
grd (CV.isI .u8 e6) <|
(bif ((CV.toI e6) != 255) then
R_f53 _ (fun u7 =>
(bif (u7.2.2.1 != 0) then
K (0, 0, u7.2.2.1, (List.take 0 []))
else
grd (decide ((v6_0.2.1 + (List.length (List.take 1 (List.drop 0 [(CV.agg [(CV.int .i64 u7.1), (CV.slc none (List.take u7.2.1 (List.drop 0 u7.2.2.2.2.2)))])])))) * 32 ≤ 140737488355328)) <|
rec1 (v6_0.1, (v6_0.2.1 + (List.length (List.take 1 (List.drop 0 [(CV.agg [(CV.int .i64 u7.1), (CV.slc none (List.take u7.2.1 (List.drop 0 u7.2.2.2.2.2)))])])))), u7.1, ((List.take v6_0.2.1 v6_0.2.2.2.1) ++ (List.take 1 (List.drop 0 [(CV.agg [(CV.int .i64 u7.1), (CV.slc none (List.take u7.2.1 (List.drop 0 u7.2.2.2.2.2)))])]))), u7.2.2.2.1, u7.2.2.2.2.1))) (v6_0.2.2.1) ((Nat.cast (v6_0.2.1) : Int)) (v6_0.2.2.2.2.1) (v6_0.2.2.2.2.2)
else
K (v6_0.2.1, v6_0.2.2.2.2.2, 0, (List.take (0 + v6_0.2.1) v6_0.2.2.2.1)))
else
K (v6_0.2.1, v6_0.2.2.2.2.2, 0, (List.take (0 + v6_0.2.1) v6_0.2.2.2.1)))
def f38_L1 {X : Type} (R_f53 : f53_R) (k : Nat) (K : Nat × Int × Int × (List CV) → Option X)  (rec1 : (List CV) × Nat × Int × (List CV) × (List CV) × Int → Option X) (v : (List CV) × Nat × Int × (List CV) × (List CV) × Int) : Option X := f38_T1 R_f53 k K   rec1 v
set_option maxRecDepth 100000 in
theorem f38_L1_ev {X : Type} (R_f53 : f53_R) (hR_f53 : AnsOk Try.prog 53 (f53_cOf R_f53)) (k : Nat) (K : Out → Option X)  (r1 : St → Option X) (v : (List CV) × Nat × Int × (List CV) × (List CV) × Int) : loopB (f38_cx R_f53 hR_f53) k [.r, .r, .r, .r, .l, .b] (Try.f38.body.getD .skip) (retK (f38_cx R_f53 hR_f53) [⟨0, [0], some [0, 2000]⟩] Try.f38.results.toList K) [] r1 (f38_S1 v) = f38_T1 R_f53 k (fun u => K (f38_out u))   (fun v => r1 (f38_S1 v)) v := by kernel_rfl
theorem f38_L1_it {X : Type} (R_f53 : f53_R) (hR_f53 : AnsOk Try.prog 53 (f53_cOf R_f53)) (k : Nat) (K : Out → Option X)  : (fun v => iter (loopB (f38_cx R_f53 hR_f53) k [.r, .r, .r, .r, .l, .b] (Try.f38.body.getD .skip) (retK (f38_cx R_f53 hR_f53) [⟨0, [0], some [0, 2000]⟩] Try.f38.results.toList K) []) k (f38_S1 v)) = iterV (f38_L1 R_f53 k (fun u => K (f38_out u)) ) k :=
  iter_map (fun r1 v => (f38_L1_ev R_f53 hR_f53 k K  r1 v).trans rfl) k
def f38_T {X : Type} (R_f53 : f53_R) (k : Nat) (K : Nat × Int × Int × (List CV) → Option X) (loop1 : (List CV) × Nat × Int × (List CV) × (List CV) × Int → Option X) (x0 : List CV) : Option X :=
loop1 (x0, 0, 0, [], x0, 0)
/-- "outpost/opt.Read" -/
def f38_A (R_f53 : f53_R) (k : Nat) : f38_R := fun X K x0 => f38_T R_f53 k K (iterV (f38_L1 R_f53 k K) k) x0
set_option maxRecDepth 100000 in
theorem f38_ev' {X : Type} (R_f53 : f53_R) (hR_f53 : AnsOk Try.prog 53 (f53_cOf R_f53)) (k : Nat) (K : Out → Option X) (x0 : List CV) : evFn (f38_cx R_f53 hR_f53) [⟨0, [0], some [0, 2000]⟩] k Try.f38.ntmps Try.f38.results.toList (Try.f38.body.getD .skip) [(.sl true none x0)] [] K = f38_T R_f53 k (fun u => K (f38_out u)) (fun v => iter (loopB (f38_cx R_f53 hR_f53) k [.r, .r, .r, .r, .l, .b] (Try.f38.body.getD .skip) (retK (f38_cx R_f53 hR_f53) [⟨0, [0], some [0, 2000]⟩] Try.f38.results.toList K) []) k (f38_S1 v)) x0 := by kernel_rfl
theorem f38_ev {X : Type} (R_f53 : f53_R) (hR_f53 : AnsOk Try.prog 53 (f53_cOf R_f53)) (k : Nat) (K : Out → Option X) (x0 : List CV) : evFn (f38_cx R_f53 hR_f53) [⟨0, [0], some [0, 2000]⟩] k Try.f38.ntmps Try.f38.results.toList (Try.f38.body.getD .skip) [(.sl true none x0)] [] K = f38_A R_f53 k X (fun u => K (f38_out u)) x0 := (f38_ev' R_f53 hR_f53 k K x0).trans (by rw [f38_L1_it R_f53 hR_f53 k K]; rfl)
theorem f38_okA (R_f53 : f53_R) (hR_f53 : AnsOk Try.prog 53 (f53_cOf R_f53)) (k : Nat) : AnsOk Try.prog 38 (f38_cOf (f38_A R_f53 k)) := by
  intro X xs ns K x h
  unfold f38_cOf at h ⊢
  split at h
  · exact ans_main S (f38_Cok R_f53 hR_f53) Try.func38 (ent_of Try.func38 (by kernel_rfl) rfl) rfl (fun X K => f38_ev R_f53 hR_f53 k K _) h
  · cases h
/-- "outpost/opt.Read" -/
def f38 {X : Type} (k : Nat) (K : Nat × Int × Int × (List CV) → Option X) (x0 : List CV) : Option X := f38_A (fun X => @f53 X k) k X K x0
theorem f38_ok (k : Nat) : AnsOk Try.prog 38 (f38_cOf (fun X => @f38 X k)) := f38_okA (fun X => @f53 X k) (f53_ok k) k
abbrev f39_R : Type 1 := (X : Type) → (Nat × Int × (List CV) → Option X) → (List CV) → Option X
def f39_out (u : Nat × Int × (List CV)) : Out := ⟨(.tup [(.osl [0, 2000] none 0 u.1), (.v (CV.int .i64 u.2.1))]), [([0, 2000], (.row false none u.2.2))]⟩
def f39_cOf (R : f39_R) : FnC := fun X xs ns K => match xs, ns with
  | [(.sl false none x0)], [] => R X (fun u => K (f39_out u)) x0
  | _, _ => none
def f39_plan : Nat → Option (List Nat × List Wk)
  | 0 => some ([0], [])
  | 1 => some ([0], [])
  | 2 => some ([], [])
  | 3 => some ([0], [])
  | 4 => some ([], [])
  | 5 => some ([0], [])
  | 6 => some ([], [])
  | 7 => some ([0], [])
  | _ => none
def f39_C (R_f37 : f37_R) : Fns := (orC 37 (f37_cOf R_f37) noC)
theorem f39_Cok (R_f37 : f37_R) (hR_f37 : AnsOk Try.prog 37 (f37_cOf R_f37)) : CsOk Try.prog (f39_C R_f37) := (orC_ok hR_f37 noC_ok)
def f39_cx (R_f37 : f37_R) (hR_f37 : AnsOk Try.prog 37 (f37_cOf R_f37)) : Cx := mkCx (tabOf rows) (f39_C R_f37) md (cmpIn cmps) f39_plan (f39_Cok R_f37 hR_f37)
def f39_T {X : Type} (R_f37 : f37_R) (k : Nat) (K : Nat × Int × (List CV) → Option X)  (x0 : List CV) : Option X :=
(bif ((Nat.cast ((List.length x0)) : Int) == 0) then
K (0, 0, (List.take 0 []))
else
(bif ((Nat.cast ((List.length x0)) : Int) == 1) then
K (0, 20, (List.take 0 []))
else
(bif (decide ((IntKind.wrap .i64 ((Nat.cast ((List.length x0)) : Int) - 1)) > 1200)) then
K (0, 2, (List.take 0 []))
else
grd (decide (1 ≤ (Nat.cast ((List.length x0)) : Int))) <|
grd (decide ((Nat.cast ((List.length x0)) : Int) ≤ (Nat.cast ((List.length x0)) : Int))) <|
R_f37 _ (fun u1 =>
K ((List.length u1), 0, (List.take (0 + (List.length u1)) u1))) ((List.take ((List.length x0) - 1) (List.drop 1 x0))))))
/-- "outpost/msg.body" -/
def f39_A (R_f37 : f37_R) (k : Nat) : f39_R := fun X K x0 => f39_T R_f37 k K  x0
set_option maxRecDepth 100000 in
theorem f39_ev' {X : Type} (R_f37 : f37_R) (hR_f37 : AnsOk Try.prog 37 (f37_cOf R_f37)) (k : Nat) (K : Out → Option X) (x0 : List CV) : evFn (f39_cx R_f37 hR_f37) [⟨0, [0], some [0, 2000]⟩] k Try.f39.ntmps Try.f39.results.toList (Try.f39.body.getD .skip) [(.sl false none x0)] [] K = f39_T R_f37 k (fun u => K (f39_out u)) x0 := by kernel_rfl
theorem f39_ev {X : Type} (R_f37 : f37_R) (hR_f37 : AnsOk Try.prog 37 (f37_cOf R_f37)) (k : Nat) (K : Out → Option X) (x0 : List CV) : evFn (f39_cx R_f37 hR_f37) [⟨0, [0], some [0, 2000]⟩] k Try.f39.ntmps Try.f39.results.toList (Try.f39.body.getD .skip) [(.sl false none x0)] [] K = f39_A R_f37 k X (fun u => K (f39_out u)) x0 := (f39_ev' R_f37 hR_f37 k K x0).trans rfl
theorem f39_okA (R_f37 : f37_R) (hR_f37 : AnsOk Try.prog 37 (f37_cOf R_f37)) (k : Nat) : AnsOk Try.prog 39 (f39_cOf (f39_A R_f37 k)) := by
  intro X xs ns K x h
  unfold f39_cOf at h ⊢
  split at h
  · exact ans_main S (f39_Cok R_f37 hR_f37) Try.func39 (ent_of Try.func39 (by kernel_rfl) rfl) rfl (fun X K => f39_ev R_f37 hR_f37 k K _) h
  · cases h
/-- "outpost/msg.body" -/
def f39 {X : Type} (k : Nat) (K : Nat × Int × (List CV) → Option X) (x0 : List CV) : Option X := f39_A (fun X => @f37 X k) k X K x0
theorem f39_ok (k : Nat) : AnsOk Try.prog 39 (f39_cOf (fun X => @f39 X k)) := f39_okA (fun X => @f37 X k) (f37_ok k) k
abbrev f14_R : Type 1 := (X : Type) → (Int × Int × Int × Nat × Nat × Nat × Int × (List CV) × (List CV) × (List CV) → Option X) → (List CV) → Option X
def f14_out (u : Int × Int × Int × Nat × Nat × Nat × Int × (List CV) × (List CV) × (List CV)) : Out := ⟨(.tup [(.agg [(.v (CV.int .i64 u.1)), (.v (CV.int .i64 u.2.1)), (.v (CV.int .i64 u.2.2.1)), (.osl [3, 0, 2000] none 0 u.2.2.2.1), (.osl [4, 0, 2000] (some 2) 0 u.2.2.2.2.1), (.osl [5, 0, 2000] none 0 u.2.2.2.2.2.1)]), (.v (CV.int .i64 u.2.2.2.2.2.2.1))]), [([3, 0, 2000], (.row false none u.2.2.2.2.2.2.2.1)), ([4, 0, 2000], (.row false (some 2) u.2.2.2.2.2.2.2.2.1)), ([5, 0, 2000], (.row false none u.2.2.2.2.2.2.2.2.2))]⟩
def f14_cOf (R : f14_R) : FnC := fun X xs ns K => match xs, ns with
  | [(.sl true none x0)], [] => R X (fun u => K (f14_out u)) x0
  | _, _ => none
def f14_plan : Nat → Option (List Nat × List Wk)
  | 0 => some ([0], [])
  | 1 => some ([0, 2], [])
  | 2 => some ([0, 2, 4, 5, 6], [])
  | 3 => some ([2], [])
  | 4 => some ([0, 2, 4, 5], [])
  | 5 => some ([0, 2, 4, 5, 7], [])
  | 6 => some ([0, 2, 4, 5, 7, 8], [])
  | 7 => some ([2], [])
  | 8 => some ([0, 2, 4, 5, 7, 8], [])
  | 9 => some ([0, 2, 7, 9], [])
  | 10 => some ([2, 9, 10], [])
  | 11 => some ([2, 9, 10, 11, 12, 13], [])
  | 12 => some ([2, 13], [])
  | 13 => some ([2, 9, 10, 11, 12], [])
  | 14 => some ([2, 9, 10, 12], [])
  | 15 => some ([2, 9, 13], [])
  | 16 => some ([2, 13], [])
  | 17 => some ([2, 9], [])
  | _ => none
def f14_C (R_f16 : f16_R) (R_f30 : f30_R) (R_f37 : f37_R) (R_f38 : f38_R) (R_f39 : f39_R) : Fns := (orC 16 (f16_cOf R_f16) (orC 30 (f30_cOf R_f30) (orC 37 (f37_cOf R_f37) (orC 38 (f38_cOf R_f38) (orC 39 (f39_cOf R_f39) noC)))))
theorem f14_Cok (R_f16 : f16_R) (R_f30 : f30_R) (R_f37 : f37_R) (R_f38 : f38_R) (R_f39 : f39_R) (hR_f16 : AnsOk Try.prog 16 (f16_cOf R_f16)) (hR_f30 : AnsOk Try.prog 30 (f30_cOf R_f30)) (hR_f37 : AnsOk Try.prog 37 (f37_cOf R_f37)) (hR_f38 : AnsOk Try.prog 38 (f38_cOf R_f38)) (hR_f39 : AnsOk Try.prog 39 (f39_cOf R_f39)) : CsOk Try.prog (f14_C R_f16 R_f30 R_f37 R_f38 R_f39) := (orC_ok hR_f16 (orC_ok hR_f30 (orC_ok hR_f37 (orC_ok hR_f38 (orC_ok hR_f39 noC_ok)))))
def f14_cx (R_f16 : f16_R) (R_f30 : f30_R) (R_f37 : f37_R) (R_f38 : f38_R) (R_f39 : f39_R) (hR_f16 : AnsOk Try.prog 16 (f16_cOf R_f16)) (hR_f30 : AnsOk Try.prog 30 (f30_cOf R_f30)) (hR_f37 : AnsOk Try.prog 37 (f37_cOf R_f37)) (hR_f38 : AnsOk Try.prog 38 (f38_cOf R_f38)) (hR_f39 : AnsOk Try.prog 39 (f39_cOf R_f39)) : Cx := mkCx (tabOf rows) (f14_C R_f16 R_f30 R_f37 R_f38 R_f39) md (cmpIn cmps) f14_plan (f14_Cok R_f16 R_f30 R_f37 R_f38 R_f39 hR_f16 hR_f30 hR_f37 hR_f38 hR_f39)
def f14_J1 {X : Type} (R_f16 : f16_R) (R_f30 : f30_R) (R_f37 : f37_R) (R_f38 : f38_R) (R_f39 : f39_R) (k : Nat) (K : Int × Int × Int × Nat × Nat × Nat × Int × (List CV) × (List CV) × (List CV) → Option X) (e3 : CV) (u1 : Int × Int × Bool) (x0 : List CV) (v5 : Int) : Option X :=
grd (decide (4 ≤ (IntKind.wrap .i64 (4 + v5)))) <|
grd (decide ((IntKind.wrap .i64 (4 + v5)) ≤ (Nat.cast ((List.length x0)) : Int))) <|
R_f37 _ (fun u6 =>
grd (decide (0 ≤ (IntKind.wrap .i64 (4 + v5)))) <|
grd (decide ((IntKind.wrap .i64 (4 + v5)) ≤ (Nat.cast ((List.length x0)) : Int))) <|
grd (decide ((Nat.cast ((List.length x0)) : Int) ≤ (Nat.cast ((List.length x0)) : Int))) <|
R_f38 _ (fun u7 =>
(bif (u7.2.2.1 != 0) then
K (0, 0, 0, 0, 0, 0, u7.2.2.1, (List.take 0 []), (List.take 0 []), (List.take 0 []))
else
grd (decide (0 ≤ u7.2.1)) <|
grd (decide (u7.2.1 ≤ (Nat.cast ((List.length (List.take ((List.length x0) - (Int.toNat (IntKind.wrap .i64 (4 + v5)))) (List.drop (Int.toNat (IntKind.wrap .i64 (4 + v5))) x0)))) : Int))) <|
grd (decide ((Nat.cast ((List.length (List.take ((List.length x0) - (Int.toNat (IntKind.wrap .i64 (4 + v5)))) (List.drop (Int.toNat (IntKind.wrap .i64 (4 + v5))) x0)))) : Int) ≤ (Nat.cast ((List.length (List.take ((List.length x0) - (Int.toNat (IntKind.wrap .i64 (4 + v5)))) (List.drop (Int.toNat (IntKind.wrap .i64 (4 + v5))) x0)))) : Int))) <|
R_f39 _ (fun u9 =>
(bif (u9.2.1 != 0) then
K (0, 0, 0, 0, 0, 0, u9.2.1, (List.take 0 []), (List.take 0 []), (List.take 0 []))
else
K (u1.1, (IntKind.wrap .i64 (CV.toI e3)), u1.2.1, (List.length u6), u7.1, u9.1, 0, (List.take (0 + (List.length u6)) u6), (List.take (0 + u7.1) u7.2.2.2), (List.take (0 + u9.1) u9.2.2)))) ((List.take ((List.length (List.take ((List.length x0) - (Int.toNat (IntKind.wrap .i64 (4 + v5)))) (List.drop (Int.toNat (IntKind.wrap .i64 (4 + v5))) x0))) - (Int.toNat u7.2.1)) (List.drop (Int.toNat u7.2.1) (List.take ((List.length x0) - (Int.toNat (IntKind.wrap .i64 (4 + v5)))) (List.drop (Int.toNat (IntKind.wrap .i64 (4 + v5))) x0))))))) ((List.take ((List.length x0) - (Int.toNat (IntKind.wrap .i64 (4 + v5)))) (List.drop (Int.toNat (IntKind.wrap .i64 (4 + v5))) x0)))) ((List.take ((Int.toNat (IntKind.wrap .i64 (4 + v5))) - 4) (List.drop 4 x0)))
def f14_T {X : Type} (R_f16 : f16_R) (R_f30 : f30_R) (R_f37 : f37_R) (R_f38 : f38_R) (R_f39 : f39_R) (k : Nat) (K : Int × Int × Int × Nat × Nat × Nat × Int × (List CV) × (List CV) × (List CV) → Option X)  (x0 : List CV) : Option X :=
R_f16 _ (fun u1 =>
(bif (!u1.2.2) then
K (0, 0, 0, 0, 0, 0, 20, (List.take 0 []), (List.take 0 []), (List.take 0 []))
else
Option.bind (x0)[0]? fun e2 =>
grd (CV.isI .u8 e2) <|
Option.bind (x0)[1]? fun e3 =>
grd (CV.isI .u8 e3) <|
(bif (decide ((IntKind.wrap .i64 (bop .and .u8 (CV.toI e2) 15)) > 8)) then
K (0, 0, 0, 0, 0, 0, 20, (List.take 0 []), (List.take 0 []), (List.take 0 []))
else
R_f30 _ (fun u10 =>
(bif (!u10) then
K (0, 0, 0, 0, 0, 0, 20, (List.take 0 []), (List.take 0 []), (List.take 0 []))
else
(bif ((IntKind.wrap .i64 (CV.toI e3)) == 0) then
(bif (decide ((Nat.cast ((List.length x0)) : Int) > 4)) then
K (0, 0, 0, 0, 0, 0, 20, (List.take 0 []), (List.take 0 []), (List.take 0 []))
else
(bif (decide ((Nat.cast ((List.length x0)) : Int) < (IntKind.wrap .i64 (4 + (IntKind.wrap .i64 (bop .and .u8 (CV.toI e2) 15)))))) then
K (0, 0, 0, 0, 0, 0, 20, (List.take 0 []), (List.take 0 []), (List.take 0 []))
else
f14_J1 R_f16 R_f30 R_f37 R_f38 R_f39 k K e3 u1 x0 ((IntKind.wrap .i64 (bop .and .u8 (CV.toI e2) 15)))))
else
(bif (decide ((Nat.cast ((List.length x0)) : Int) < (IntKind.wrap .i64 (4 + (IntKind.wrap .i64 (bop .and .u8 (CV.toI e2) 15)))))) then
K (0, 0, 0, 0, 0, 0, 20, (List.take 0 []), (List.take 0 []), (List.take 0 []))
else
f14_J1 R_f16 R_f30 R_f37 R_f38 R_f39 k K e3 u1 x0 ((IntKind.wrap .i64 (bop .and .u8 (CV.toI e2) 15))))))) ((IntKind.wrap .i64 (CV.toI e3)))))) (x0)
/-- "outpost/msg.Read" -/
def f14_A (R_f16 : f16_R) (R_f30 : f30_R) (R_f37 : f37_R) (R_f38 : f38_R) (R_f39 : f39_R) (k : Nat) : f14_R := fun X K x0 => f14_T R_f16 R_f30 R_f37 R_f38 R_f39 k K  x0
set_option maxRecDepth 100000 in
theorem f14_ev' {X : Type} (R_f16 : f16_R) (R_f30 : f30_R) (R_f37 : f37_R) (R_f38 : f38_R) (R_f39 : f39_R) (hR_f16 : AnsOk Try.prog 16 (f16_cOf R_f16)) (hR_f30 : AnsOk Try.prog 30 (f30_cOf R_f30)) (hR_f37 : AnsOk Try.prog 37 (f37_cOf R_f37)) (hR_f38 : AnsOk Try.prog 38 (f38_cOf R_f38)) (hR_f39 : AnsOk Try.prog 39 (f39_cOf R_f39)) (k : Nat) (K : Out → Option X) (x0 : List CV) : evFn (f14_cx R_f16 R_f30 R_f37 R_f38 R_f39 hR_f16 hR_f30 hR_f37 hR_f38 hR_f39) [] k Try.f14.ntmps Try.f14.results.toList (Try.f14.body.getD .skip) [(.sl true none x0)] [] K = f14_T R_f16 R_f30 R_f37 R_f38 R_f39 k (fun u => K (f14_out u)) x0 := by kernel_rfl
theorem f14_ev {X : Type} (R_f16 : f16_R) (R_f30 : f30_R) (R_f37 : f37_R) (R_f38 : f38_R) (R_f39 : f39_R) (hR_f16 : AnsOk Try.prog 16 (f16_cOf R_f16)) (hR_f30 : AnsOk Try.prog 30 (f30_cOf R_f30)) (hR_f37 : AnsOk Try.prog 37 (f37_cOf R_f37)) (hR_f38 : AnsOk Try.prog 38 (f38_cOf R_f38)) (hR_f39 : AnsOk Try.prog 39 (f39_cOf R_f39)) (k : Nat) (K : Out → Option X) (x0 : List CV) : evFn (f14_cx R_f16 R_f30 R_f37 R_f38 R_f39 hR_f16 hR_f30 hR_f37 hR_f38 hR_f39) [] k Try.f14.ntmps Try.f14.results.toList (Try.f14.body.getD .skip) [(.sl true none x0)] [] K = f14_A R_f16 R_f30 R_f37 R_f38 R_f39 k X (fun u => K (f14_out u)) x0 := (f14_ev' R_f16 R_f30 R_f37 R_f38 R_f39 hR_f16 hR_f30 hR_f37 hR_f38 hR_f39 k K x0).trans rfl
theorem f14_okA (R_f16 : f16_R) (R_f30 : f30_R) (R_f37 : f37_R) (R_f38 : f38_R) (R_f39 : f39_R) (hR_f16 : AnsOk Try.prog 16 (f16_cOf R_f16)) (hR_f30 : AnsOk Try.prog 30 (f30_cOf R_f30)) (hR_f37 : AnsOk Try.prog 37 (f37_cOf R_f37)) (hR_f38 : AnsOk Try.prog 38 (f38_cOf R_f38)) (hR_f39 : AnsOk Try.prog 39 (f39_cOf R_f39)) (k : Nat) : AnsOk Try.prog 14 (f14_cOf (f14_A R_f16 R_f30 R_f37 R_f38 R_f39 k)) := by
  intro X xs ns K x h
  unfold f14_cOf at h ⊢
  split at h
  · exact ans_main S (f14_Cok R_f16 R_f30 R_f37 R_f38 R_f39 hR_f16 hR_f30 hR_f37 hR_f38 hR_f39) Try.func14 (ent_of Try.func14 (by kernel_rfl) rfl) rfl (fun X K => f14_ev R_f16 R_f30 R_f37 R_f38 R_f39 hR_f16 hR_f30 hR_f37 hR_f38 hR_f39 k K _) h
  · cases h
/-- "outpost/msg.Read" -/
def f14 {X : Type} (k : Nat) (K : Int × Int × Int × Nat × Nat × Nat × Int × (List CV) × (List CV) × (List CV) → Option X) (x0 : List CV) : Option X := f14_A (fun X => @f16 X k) (fun X => @f30 X k) (fun X => @f37 X k) (fun X => @f38 X k) (fun X => @f39 X k) k X K x0
theorem f14_ok (k : Nat) : AnsOk Try.prog 14 (f14_cOf (fun X => @f14 X k)) := f14_okA (fun X => @f16 X k) (fun X => @f30 X k) (fun X => @f37 X k) (fun X => @f38 X k) (fun X => @f39 X k) (f16_ok k) (f30_ok k) (f37_ok k) (f38_ok k) (f39_ok k) k
abbrev f42_R : Type 1 := (X : Type) → (Nat × (List CV) → Option X) → (List CV) → Option X
def f42_out (u : Nat × (List CV)) : Out := ⟨(.osl [2000] (some 2) 0 u.1), [([2000], (.row false (some 2) u.2))]⟩
def f42_cOf (R : f42_R) : FnC := fun X xs ns K => match xs, ns with
  | [(.sl true (some 2) x0)], [] => R X (fun u => K (f42_out u)) x0
  | _, _ => none
def f42_plan : Nat → Option (List Nat × List Wk)
  | 0 => some ([0], [])
  | 1 => some ([0], [])
  | 2 => some ([0, 3], [])
  | 3 => some ([3, 6, 7, 8], [⟨3, [], some [3]⟩])
  | 4 => some ([3, 6, 7, 8], [])
  | 5 => some ([3, 5, 6, 7, 8], [])
  | 6 => some ([3, 6, 7, 8], [])
  | 7 => some ([3], [])
  | _ => none
def f42_C (R_f37 : f37_R) : Fns := (orC 37 (f37_cOf R_f37) noC)
theorem f42_Cok (R_f37 : f37_R) (hR_f37 : AnsOk Try.prog 37 (f37_cOf R_f37)) : CsOk Try.prog (f42_C R_f37) := (orC_ok hR_f37 noC_ok)
def f42_cx (R_f37 : f37_R) (hR_f37 : AnsOk Try.prog 37 (f37_cOf R_f37)) : Cx := mkCx (tabOf rows) (f42_C R_f37) md (cmpIn cmps) f42_plan (f42_Cok R_f37 hR_f37)
def f42_S1 (v : Nat × (List CV) × Int × Int × (List CV)) : St := ⟨[.undef, .undef, .undef, (.osl [3] (some 2) 0 v.1), .undef, .undef, (.sl true (some 2) v.2.1), (.v (CV.int .i64 v.2.2.1)), (.v (CV.int .i64 v.2.2.2.1)), .undef, .undef, .undef, .undef, .undef, .undef, .undef, .undef, .undef, .undef, .undef, .undef, .undef, .undef], [([3], (.row false (some 2) v.2.2.2.2))]⟩
def f42_T1 {X : Type} (R_f37 : f37_R) (k : Nat) (K : Nat × (List CV) → Option X)   (rec1 : Nat × (List CV) × Int × Int × (List CV) → Option X) (v5_0 : Nat × (List CV) × Int × Int × (List CV)) : Option X :=
(bif (decide (v5_0.2.2.2.1 < v5_0.2.2.1)) then
grd (decide (0 ≤ v5_0.2.2.2.1)) <|
Option.bind (v5_0.2.1)[(Int.toNat v5_0.2.2.2.1)]? fun e8 =>
grd (CV.isA 2 e8) <|
grd (CV.isI .i64 (CV.cellD 0 e8)) <|
grd (CV.isL none (CV.cellD 1 e8)) <|
R_f37 _ (fun u9 =>
grd (decide ((v5_0.1 + (List.length (List.take 1 (List.drop 0 [(CV.agg [(CV.int .i64 (CV.toI (CV.cellD 0 e8))), (CV.slc none (List.take (List.length u9) (List.drop 0 u9)))])])))) * 32 ≤ 140737488355328)) <|
rec1 ((v5_0.1 + (List.length (List.take 1 (List.drop 0 [(CV.agg [(CV.int .i64 (CV.toI (CV.cellD 0 e8))), (CV.slc none (List.take (List.length u9) (List.drop 0 u9)))])])))), v5_0.2.1, v5_0.2.2.1, (IntKind.wrap .i64 (v5_0.2.2.2.1 + 1)), ((List.take v5_0.1 v5_0.2.2.2.2) ++ (List.take 1 (List.drop 0 [(CV.agg [(CV.int .i64 (CV.toI (CV.cellD 0 e8))), (CV.slc none (List.take (List.length u9) (List.drop 0 u9)))])]))))) ((CV.toL (CV.cellD 1 e8)))
else
K (v5_0.1, (List.take (0 + v5_0.1) v5_0.2.2.2.2)))
def f42_L1 {X : Type} (R_f37 : f37_R) (k : Nat) (K : Nat × (List CV) → Option X)  (rec1 : Nat × (List CV) × Int × Int × (List CV) → Option X) (v : Nat × (List CV) × Int × Int × (List CV)) : Option X := f42_T1 R_f37 k K   rec1 v
set_option maxRecDepth 100000 in
theorem f42_L1_ev {X : Type} (R_f37 : f37_R) (hR_f37 : AnsOk Try.prog 37 (f37_cOf R_f37)) (k : Nat) (K : Out → Option X)  (r1 : St → Option X) (v : Nat × (List CV) × Int × Int × (List CV)) : loopB (f42_cx R_f37 hR_f37) k [.r, .r, .l, .r, .b] (Try.f42.body.getD .skip) (retK (f42_cx R_f37 hR_f37) [] Try.f42.results.toList K) [] r1 (f42_S1 v) = f42_T1 R_f37 k (fun u => K (f42_out u))   (fun v => r1 (f42_S1 v)) v := by kernel_rfl
theorem f42_L1_it {X : Type} (R_f37 : f37_R) (hR_f37 : AnsOk Try.prog 37 (f37_cOf R_f37)) (k : Nat) (K : Out → Option X)  : (fun v => iter (loopB (f42_cx R_f37 hR_f37) k [.r, .r, .l, .r, .b] (Try.f42.body.getD .skip) (retK (f42_cx R_f37 hR_f37) [] Try.f42.results.toList K) []) k (f42_S1 v)) = iterV (f42_L1 R_f37 k (fun u => K (f42_out u)) ) k :=
  iter_map (fun r1 v => (f42_L1_ev R_f37 hR_f37 k K  r1 v).trans rfl) k
def f42_T {X : Type} (R_f37 : f37_R) (k : Nat) (K : Nat × (List CV) → Option X) (loop1 : Nat × (List CV) × Int × Int × (List CV) → Option X) (x0 : List CV) : Option X :=
loop1 (0, x0, (Nat.cast ((List.length x0)) : Int), 0, [])
/-- "outpost/msg.options" -/
def f42_A (R_f37 : f37_R) (k : Nat) : f42_R := fun X K x0 => f42_T R_f37 k K (iterV (f42_L1 R_f37 k K) k) x0
set_option maxRecDepth 100000 in
theorem f42_ev' {X : Type} (R_f37 : f37_R) (hR_f37 : AnsOk Try.prog 37 (f37_cOf R_f37)) (k : Nat) (K : Out → Option X) (x0 : List CV) : evFn (f42_cx R_f37 hR_f37) [] k Try.f42.ntmps Try.f42.results.toList (Try.f42.body.getD .skip) [(.sl true (some 2) x0)] [] K = f42_T R_f37 k (fun u => K (f42_out u)) (fun v => iter (loopB (f42_cx R_f37 hR_f37) k [.r, .r, .l, .r, .b] (Try.f42.body.getD .skip) (retK (f42_cx R_f37 hR_f37) [] Try.f42.results.toList K) []) k (f42_S1 v)) x0 := by kernel_rfl
theorem f42_ev {X : Type} (R_f37 : f37_R) (hR_f37 : AnsOk Try.prog 37 (f37_cOf R_f37)) (k : Nat) (K : Out → Option X) (x0 : List CV) : evFn (f42_cx R_f37 hR_f37) [] k Try.f42.ntmps Try.f42.results.toList (Try.f42.body.getD .skip) [(.sl true (some 2) x0)] [] K = f42_A R_f37 k X (fun u => K (f42_out u)) x0 := (f42_ev' R_f37 hR_f37 k K x0).trans (by rw [f42_L1_it R_f37 hR_f37 k K]; rfl)
theorem f42_okA (R_f37 : f37_R) (hR_f37 : AnsOk Try.prog 37 (f37_cOf R_f37)) (k : Nat) : AnsOk Try.prog 42 (f42_cOf (f42_A R_f37 k)) := by
  intro X xs ns K x h
  unfold f42_cOf at h ⊢
  split at h
  · exact ans_main S (f42_Cok R_f37 hR_f37) Try.func42 (ent_of Try.func42 (by kernel_rfl) rfl) rfl (fun X K => f42_ev R_f37 hR_f37 k K _) h
  · cases h
/-- "outpost/msg.options" -/
def f42 {X : Type} (k : Nat) (K : Nat × (List CV) → Option X) (x0 : List CV) : Option X := f42_A (fun X => @f37 X k) k X K x0
theorem f42_ok (k : Nat) : AnsOk Try.prog 42 (f42_cOf (fun X => @f42 X k)) := f42_okA (fun X => @f37 X k) (f37_ok k) k
abbrev f21_R : Type 1 := (X : Type) → (Int × Int × Int × Nat × Nat × Nat × (List CV) × (List CV) × (List CV) → Option X) → CV → Int → Int → (List CV) → (List CV) → Option X
def f21_out (u : Int × Int × Int × Nat × Nat × Nat × (List CV) × (List CV) × (List CV)) : Out := ⟨(.agg [(.v (CV.int .i64 u.1)), (.v (CV.int .i64 u.2.1)), (.v (CV.int .i64 u.2.2.1)), (.osl [3, 2000] none 0 u.2.2.2.1), (.osl [4, 2000] (some 2) 0 u.2.2.2.2.1), (.osl [5, 2000] none 0 u.2.2.2.2.2.1)]), [([3, 2000], (.row false none u.2.2.2.2.2.2.1)), ([4, 2000], (.row false (some 2) u.2.2.2.2.2.2.2.1)), ([5, 2000], (.row false none u.2.2.2.2.2.2.2.2))]⟩
def f21_cOf (R : f21_R) : FnC := fun X xs ns K => match xs, ns with
  | [(.v x0), (.v (CV.int .i64 x1)), (.v (CV.int .i64 x2)), (.sl true (some 2) x3), (.sl true none x4)], [] => R X (fun u => K (f21_out u)) x0 x1 x2 x3 x4
  | _, _ => none
def f21_plan : Nat → Option (List Nat × List Wk)
  | 0 => some ([0, 1, 2, 3, 4], [])
  | 1 => some ([1, 2, 3, 4, 5, 10], [])
  | 2 => some ([5, 10, 11], [])
  | 3 => some ([5, 10, 11], [])
  | 4 => some ([10, 11], [])
  | _ => none
def f21_C (R_f37 : f37_R) (R_f42 : f42_R) : Fns := (orC 37 (f37_cOf R_f37) (orC 42 (f42_cOf R_f42) noC))
theorem f21_Cok (R_f37 : f37_R) (R_f42 : f42_R) (hR_f37 : AnsOk Try.prog 37 (f37_cOf R_f37)) (hR_f42 : AnsOk Try.prog 42 (f42_cOf R_f42)) : CsOk Try.prog (f21_C R_f37 R_f42) := (orC_ok hR_f37 (orC_ok hR_f42 noC_ok))
def f21_cx (R_f37 : f37_R) (R_f42 : f42_R) (hR_f37 : AnsOk Try.prog 37 (f37_cOf R_f37)) (hR_f42 : AnsOk Try.prog 42 (f42_cOf R_f42)) : Cx := mkCx (tabOf rows) (f21_C R_f37 R_f42) md (cmpIn cmps) f21_plan (f21_Cok R_f37 R_f42 hR_f37 hR_f42)
def f21_J1 {X : Type} (R_f37 : f37_R) (R_f42 : f42_R) (k : Nat) (K : Int × Int × Int × Nat × Nat × Nat × (List CV) × (List CV) × (List CV) → Option X) (u1 : (List CV)) (u2 : Nat × (List CV)) (u3 : (List CV)) (x1 : Int) (v4 : Int × Int) : Option X :=
K (v4.1, x1, v4.2, (List.length u1), u2.1, (List.length u3), (List.take (0 + (List.length u1)) u1), (List.take (0 + u2.1) u2.2), (List.take (0 + (List.length u3)) u3))
def f21_T {X : Type} (R_f37 : f37_R) (R_f42 : f42_R) (k : Nat) (K : Int × Int × Int × Nat × Nat × Nat × (List CV) × (List CV) × (List CV) → Option X)  (x0 : CV) (x1 : Int) (x2 : Int) (x3 : List CV) (x4 : List CV) : Option X :=
grd (CV.isA 6 x0) <|
grd (CV.isI .i64 (CV.cellD 0 x0)) <|
grd (CV.isI .i64 (CV.cellD 1 x0)) <|
grd (CV.isI .i64 (CV.cellD 2 x0)) <|
grd (CV.isL none (CV.cellD 3 x0)) <|
grd (CV.isL (some 2) (CV.cellD 4 x0)) <|
grd (CV.isL none (CV.cellD 5 x0)) <|
R_f37 _ (fun u1 =>
R_f42 _ (fun u2 =>
R_f37 _ (fun u3 =>
(bif ((CV.toI (CV.cellD 0 x0)) == 0) then
f21_J1 R_f37 R_f42 k K u1 u2 u3 x1 (2, (CV.toI (CV.cellD 2 x0)))
else
f21_J1 R_f37 R_f42 k K u1 u2 u3 x1 (1, x2))) (x4)) (x3)) ((CV.toL (CV.cellD 3 x0)))
/-- "outpost/msg.Reply" -/
def f21_A (R_f37 : f37_R) (R_f42 : f42_R) (k : Nat) : f21_R := fun X K x0 x1 x2 x3 x4 => f21_T R_f37 R_f42 k K  x0 x1 x2 x3 x4
set_option maxRecDepth 100000 in
theorem f21_ev' {X : Type} (R_f37 : f37_R) (R_f42 : f42_R) (hR_f37 : AnsOk Try.prog 37 (f37_cOf R_f37)) (hR_f42 : AnsOk Try.prog 42 (f42_cOf R_f42)) (k : Nat) (K : Out → Option X) (x0 : CV) (x1 : Int) (x2 : Int) (x3 : List CV) (x4 : List CV) : evFn (f21_cx R_f37 R_f42 hR_f37 hR_f42) [] k Try.f21.ntmps Try.f21.results.toList (Try.f21.body.getD .skip) [(.v x0), (.v (CV.int .i64 x1)), (.v (CV.int .i64 x2)), (.sl true (some 2) x3), (.sl true none x4)] [] K = f21_T R_f37 R_f42 k (fun u => K (f21_out u)) x0 x1 x2 x3 x4 := by kernel_rfl
theorem f21_ev {X : Type} (R_f37 : f37_R) (R_f42 : f42_R) (hR_f37 : AnsOk Try.prog 37 (f37_cOf R_f37)) (hR_f42 : AnsOk Try.prog 42 (f42_cOf R_f42)) (k : Nat) (K : Out → Option X) (x0 : CV) (x1 : Int) (x2 : Int) (x3 : List CV) (x4 : List CV) : evFn (f21_cx R_f37 R_f42 hR_f37 hR_f42) [] k Try.f21.ntmps Try.f21.results.toList (Try.f21.body.getD .skip) [(.v x0), (.v (CV.int .i64 x1)), (.v (CV.int .i64 x2)), (.sl true (some 2) x3), (.sl true none x4)] [] K = f21_A R_f37 R_f42 k X (fun u => K (f21_out u)) x0 x1 x2 x3 x4 := (f21_ev' R_f37 R_f42 hR_f37 hR_f42 k K x0 x1 x2 x3 x4).trans rfl
theorem f21_okA (R_f37 : f37_R) (R_f42 : f42_R) (hR_f37 : AnsOk Try.prog 37 (f37_cOf R_f37)) (hR_f42 : AnsOk Try.prog 42 (f42_cOf R_f42)) (k : Nat) : AnsOk Try.prog 21 (f21_cOf (f21_A R_f37 R_f42 k)) := by
  intro X xs ns K x h
  unfold f21_cOf at h ⊢
  split at h
  · exact ans_main S (f21_Cok R_f37 R_f42 hR_f37 hR_f42) Try.func21 (ent_of Try.func21 (by kernel_rfl) rfl) rfl (fun X K => f21_ev R_f37 R_f42 hR_f37 hR_f42 k K _ _ _ _ _) h
  · cases h
/-- "outpost/msg.Reply" -/
def f21 {X : Type} (k : Nat) (K : Int × Int × Int × Nat × Nat × Nat × (List CV) × (List CV) × (List CV) → Option X) (x0 : CV) (x1 : Int) (x2 : Int) (x3 : List CV) (x4 : List CV) : Option X := f21_A (fun X => @f37 X k) (fun X => @f42 X k) k X K x0 x1 x2 x3 x4
theorem f21_ok (k : Nat) : AnsOk Try.prog 21 (f21_cOf (fun X => @f21 X k)) := f21_okA (fun X => @f37 X k) (fun X => @f42 X k) (f37_ok k) (f42_ok k) k
abbrev f20_R : Type 1 := (X : Type) → (Int × (List CV) × (List CV) × (List CV) → Option X) → Int → Option X
def f20_out (u : Int × (List CV) × (List CV) × (List CV)) : Out := ⟨(.agg [(.v (CV.int .i64 3)), (.v (CV.int .i64 0)), (.v (CV.int .i64 u.1)), (.osl [3, 2000] none 0 0), (.osl [4, 2000] (some 2) 0 0), (.osl [5, 2000] none 0 0)]), [([3, 2000], (.row false none u.2.1)), ([4, 2000], (.row false (some 2) u.2.2.1)), ([5, 2000], (.row false none u.2.2.2))]⟩
def f20_cOf (R : f20_R) : FnC := fun X xs ns K => match xs, ns with
  | [(.v (CV.int .i64 x0))], [] => R X (fun u => K (f20_out u)) x0
  | _, _ => none
def f20_plan : Nat → Option (List Nat × List Wk)
  | 0 => some ([0], [])
  | 1 => some ([0, 2], [])
  | _ => none
def f20_C : Fns := noC
theorem f20_Cok : CsOk Try.prog (f20_C) := noC_ok
def f20_cx : Cx := mkCx (tabOf rows) (f20_C) md (cmpIn cmps) f20_plan (f20_Cok)
def f20_T {X : Type} (k : Nat) (K : Int × (List CV) × (List CV) × (List CV) → Option X)  (x0 : Int) : Option X :=
K (x0, (List.take 0 []), (List.take 0 []), (List.take 0 []))
/-- "outpost/msg.Reset" -/
def f20_A (k : Nat) : f20_R := fun X K x0 => f20_T k K  x0
set_option maxRecDepth 100000 in
theorem f20_ev' {X : Type} (k : Nat) (K : Out → Option X) (x0 : Int) : evFn (f20_cx) [] k Try.f20.ntmps Try.f20.results.toList (Try.f20.body.getD .skip) [(.v (CV.int .i64 x0))] [] K = f20_T k (fun u => K (f20_out u)) x0 := by kernel_rfl
theorem f20_ev {X : Type} (k : Nat) (K : Out → Option X) (x0 : Int) : evFn (f20_cx) [] k Try.f20.ntmps Try.f20.results.toList (Try.f20.body.getD .skip) [(.v (CV.int .i64 x0))] [] K = f20_A k X (fun u => K (f20_out u)) x0 := (f20_ev' k K x0).trans rfl
theorem f20_okA (k : Nat) : AnsOk Try.prog 20 (f20_cOf (f20_A k)) := by
  intro X xs ns K x h
  unfold f20_cOf at h ⊢
  split at h
  · exact ans_main S (f20_Cok) Try.func20 (ent_of Try.func20 (by kernel_rfl) rfl) rfl (fun X K => f20_ev k K _) h
  · cases h
/-- "outpost/msg.Reset" -/
def f20 {X : Type} (k : Nat) (K : Int × (List CV) × (List CV) × (List CV) → Option X) (x0 : Int) : Option X := f20_A k X K x0
theorem f20_ok (k : Nat) : AnsOk Try.prog 20 (f20_cOf (fun X => @f20 X k)) := f20_okA k
abbrev f45_R : Type 1 := (X : Type) → (Bool → Option X) → (List CV) → (List CV) → Option X
def f45_out (u : Bool) : Out := ⟨(.v (CV.bool u)), []⟩
def f45_cOf (R : f45_R) : FnC := fun X xs ns K => match xs, ns with
  | [(.sl false none x0), (.sl false none x1)], [] => R X (fun u => K (f45_out u)) x0 x1
  | _, _ => none
def f45_plan : Nat → Option (List Nat × List Wk)
  | 0 => some ([0, 1], [])
  | 1 => some ([0, 1], [])
  | _ => none
def f45_C : Fns := noC
theorem f45_Cok : CsOk Try.prog (f45_C) := noC_ok
def f45_cx : Cx := mkCx (tabOf rows) (f45_C) md (cmpIn cmps) f45_plan (f45_Cok)
def f45_T {X : Type} (k : Nat) (K : Bool → Option X)  (x0 : List CV) (x1 : List CV) : Option X :=
grd (shEq none none && List.all x0 (CV.isI .u8)) <|
grd (shEq none none && List.all x1 (CV.isI .u8)) <|
K (((bytesOf x0).toList == (bytesOf x1).toList))
/-- "bytes.Equal" -/
def f45_A (k : Nat) : f45_R := fun X K x0 x1 => f45_T k K  x0 x1
set_option maxRecDepth 100000 in
theorem f45_ev' {X : Type} (k : Nat) (K : Out → Option X) (x0 : List CV) (x1 : List CV) : evFn (f45_cx) [] k Try.f45.ntmps Try.f45.results.toList (Try.f45.body.getD .skip) [(.sl false none x0), (.sl false none x1)] [] K = f45_T k (fun u => K (f45_out u)) x0 x1 := by kernel_rfl
theorem f45_ev {X : Type} (k : Nat) (K : Out → Option X) (x0 : List CV) (x1 : List CV) : evFn (f45_cx) [] k Try.f45.ntmps Try.f45.results.toList (Try.f45.body.getD .skip) [(.sl false none x0), (.sl false none x1)] [] K = f45_A k X (fun u => K (f45_out u)) x0 x1 := (f45_ev' k K x0 x1).trans rfl
theorem f45_okA (k : Nat) : AnsOk Try.prog 45 (f45_cOf (f45_A k)) := by
  intro X xs ns K x h
  unfold f45_cOf at h ⊢
  split at h
  · exact ans_main S (f45_Cok) Try.func45 (ent_of Try.func45 (by kernel_rfl) rfl) rfl (fun X K => f45_ev k K _ _) h
  · cases h
/-- "bytes.Equal" -/
def f45 {X : Type} (k : Nat) (K : Bool → Option X) (x0 : List CV) (x1 : List CV) : Option X := f45_A k X K x0 x1
theorem f45_ok (k : Nat) : AnsOk Try.prog 45 (f45_cOf (fun X => @f45 X k)) := f45_okA k
abbrev f44_R : Type 1 := (X : Type) → (Bool → Option X) → CV → CV → Option X
def f44_out (u : Bool) : Out := ⟨(.v (CV.bool u)), []⟩
def f44_cOf (R : f44_R) : FnC := fun X xs ns K => match xs, ns with
  | [(.v x0), (.v x1)], [] => R X (fun u => K (f44_out u)) x0 x1
  | _, _ => none
def f44_plan : Nat → Option (List Nat × List Wk)
  | 0 => some ([0, 1], [])
  | 1 => some ([2, 3], [])
  | _ => none
def f44_C (R_f45 : f45_R) : Fns := (orC 45 (f45_cOf R_f45) noC)
theorem f44_Cok (R_f45 : f45_R) (hR_f45 : AnsOk Try.prog 45 (f45_cOf R_f45)) : CsOk Try.prog (f44_C R_f45) := (orC_ok hR_f45 noC_ok)
def f44_cx (R_f45 : f45_R) (hR_f45 : AnsOk Try.prog 45 (f45_cOf R_f45)) : Cx := mkCx (tabOf rows) (f44_C R_f45) md (cmpIn cmps) f44_plan (f44_Cok R_f45 hR_f45)
def f44_T {X : Type} (R_f45 : f45_R) (k : Nat) (K : Bool → Option X)  (x0 : CV) (x1 : CV) : Option X :=
grd (CV.isA 2 x0) <|
grd (CV.isI .i64 (CV.cellD 0 x0)) <|
grd (CV.isL none (CV.cellD 1 x0)) <|
grd (CV.isA 2 x1) <|
grd (CV.isI .i64 (CV.cellD 0 x1)) <|
grd (CV.isL none (CV.cellD 1 x1)) <|
(bif ((CV.toI (CV.cellD 0 x0)) == (CV.toI (CV.cellD 0 x1))) then
R_f45 _ (fun u1 =>
K (u1)) ((CV.toL (CV.cellD 1 x0))) ((CV.toL (CV.cellD 1 x1)))
else
K (false))
/-- "outpost/msg.Same$1" -/
def f44_A (R_f45 : f45_R) (k : Nat) : f44_R := fun X K x0 x1 => f44_T R_f45 k K  x0 x1
set_option maxRecDepth 100000 in
theorem f44_ev' {X : Type} (R_f45 : f45_R) (hR_f45 : AnsOk Try.prog 45 (f45_cOf R_f45)) (k : Nat) (K : Out → Option X) (x0 : CV) (x1 : CV) : evFn (f44_cx R_f45 hR_f45) [] k Try.f44.ntmps Try.f44.results.toList (Try.f44.body.getD .skip) [(.v x0), (.v x1)] [] K = f44_T R_f45 k (fun u => K (f44_out u)) x0 x1 := by kernel_rfl
theorem f44_ev {X : Type} (R_f45 : f45_R) (hR_f45 : AnsOk Try.prog 45 (f45_cOf R_f45)) (k : Nat) (K : Out → Option X) (x0 : CV) (x1 : CV) : evFn (f44_cx R_f45 hR_f45) [] k Try.f44.ntmps Try.f44.results.toList (Try.f44.body.getD .skip) [(.v x0), (.v x1)] [] K = f44_A R_f45 k X (fun u => K (f44_out u)) x0 x1 := (f44_ev' R_f45 hR_f45 k K x0 x1).trans rfl
theorem f44_okA (R_f45 : f45_R) (hR_f45 : AnsOk Try.prog 45 (f45_cOf R_f45)) (k : Nat) : AnsOk Try.prog 44 (f44_cOf (f44_A R_f45 k)) := by
  intro X xs ns K x h
  unfold f44_cOf at h ⊢
  split at h
  · exact ans_main S (f44_Cok R_f45 hR_f45) Try.func44 (ent_of Try.func44 (by kernel_rfl) rfl) rfl (fun X K => f44_ev R_f45 hR_f45 k K _ _) h
  · cases h
/-- "outpost/msg.Same$1" -/
def f44 {X : Type} (k : Nat) (K : Bool → Option X) (x0 : CV) (x1 : CV) : Option X := f44_A (fun X => @f45 X k) k X K x0 x1
theorem f44_ok (k : Nat) : AnsOk Try.prog 44 (f44_cOf (fun X => @f44 X k)) := f44_okA (fun X => @f45 X k) (f45_ok k) k
abbrev f46_R : Type 1 := (X : Type) → (Bool → Option X) → (List CV) → (List CV) → Option X
def f46_out (u : Bool) : Out := ⟨(.v (CV.bool u)), []⟩
def f46_cOf (R : f46_R) : FnC := fun X xs ns K => match xs, ns with
  | [(.sl false (some 2) x0), (.sl false (some 2) x1), (.fn 44 [])], [] => R X (fun u => K (f46_out u)) x0 x1
  | _, _ => none
def f46_plan : Nat → Option (List Nat × List Wk)
  | 0 => some ([0, 1, 2], [])
  | 1 => some ([0, 1, 2], [])
  | 2 => some ([], [])
  | 3 => some ([0, 1, 2], [])
  | 4 => some ([1, 2, 15, 16, 17], [])
  | 5 => some ([1, 2, 15, 16, 17], [])
  | 6 => some ([1, 2, 7, 8, 15, 16, 17], [])
  | 7 => some ([1, 2, 8, 9, 15, 16, 17], [])
  | 8 => some ([], [])
  | 9 => some ([1, 2, 15, 16, 17], [])
  | 10 => some ([], [])
  | _ => none
def f46_C (R_f44 : f44_R) : Fns := (orC 44 (f44_cOf R_f44) noC)
theorem f46_Cok (R_f44 : f44_R) (hR_f44 : AnsOk Try.prog 44 (f44_cOf R_f44)) : CsOk Try.prog (f46_C R_f44) := (orC_ok hR_f44 noC_ok)
def f46_cx (R_f44 : f44_R) (hR_f44 : AnsOk Try.prog 44 (f44_cOf R_f44)) : Cx := mkCx (tabOf rows) (f46_C R_f44) md (cmpIn cmps) f46_plan (f46_Cok R_f44 hR_f44)
def f46_S1 (v : (List CV) × (List CV) × Int × Int) : St := ⟨[.undef, (.sl false (some 2) v.1), (.fn 44 []), .undef, .undef, .undef, .undef, .undef, .undef, .undef, .undef, .undef, .undef, .undef, .undef, (.sl false (some 2) v.2.1), (.v (CV.int .i64 v.2.2.1)), (.v (CV.int .i64 v.2.2.2)), .undef, .undef, .undef, .undef, .undef, .undef, .undef, .undef, .undef, .undef, .undef, .undef, .undef, .undef], []⟩
def f46_T1 {X : Type} (R_f44 : f44_R) (k : Nat) (K : Bool → Option X)   (rec1 : (List CV) × (List CV) × Int × Int → Option X) (v5_0 : (List CV) × (List CV) × Int × Int) : Option X :=
(bif (decide (v5_0.2.2.2 < v5_0.2.2.1)) then
grd (decide (0 ≤ v5_0.2.2.2)) <|
Option.bind (v5_0.2.1)[(Int.toNat v5_0.2.2.2)]? fun e11 =>
grd (CV.isA 2 e11) <|
grd (CV.isI .i64 (CV.cellD 0 e11)) <|
grd (CV.isL none (CV.cellD 1 e11)) <|
grd (decide (0 ≤ v5_0.2.2.2)) <|
Option.bind (v5_0.1)[(Int.toNat v5_0.2.2.2)]? fun e12 =>
grd (CV.isA 2 e12) <|
grd (CV.isI .i64 (CV.cellD 0 e12)) <|
grd (CV.isL none (CV.cellD 1 e12)) <|
R_f44 _ (fun u13 =>
(bif (!u13) then
K (false)
else
rec1 (v5_0.1, v5_0.2.1, v5_0.2.2.1, (IntKind.wrap .i64 (v5_0.2.2.2 + 1))))) ((CV.agg [(CV.int .i64 (CV.toI (CV.cellD 0 e11))), (CV.slc none (CV.toL (CV.cellD 1 e11)))])) ((CV.agg [(CV.int .i64 (CV.toI (CV.cellD 0 e12))), (CV.slc none (CV.toL (CV.cellD 1 e12)))]))
else
K (true))
def f46_L1 {X : Type} (R_f44 : f44_R) (k : Nat) (K : Bool → Option X)  (rec1 : (List CV) × (List CV) × Int × Int → Option X) (v : (List CV) × (List CV) × Int × Int) : Option X := f46_T1 R_f44 k K   rec1 v
set_option maxRecDepth 100000 in
theorem f46_L1_ev {X : Type} (R_f44 : f44_R) (hR_f44 : AnsOk Try.prog 44 (f44_cOf R_f44)) (k : Nat) (K : Out → Option X)  (r1 : St → Option X) (v : (List CV) × (List CV) × Int × Int) : loopB (f46_cx R_f44 hR_f44) k [.r, .r, .l, .r, .b] (Try.f46.body.getD .skip) (retK (f46_cx R_f44 hR_f44) [] Try.f46.results.toList K) [] r1 (f46_S1 v) = f46_T1 R_f44 k (fun u => K (f46_out u))   (fun v => r1 (f46_S1 v)) v := by kernel_rfl
theorem f46_L1_it {X : Type} (R_f44 : f44_R) (hR_f44 : AnsOk Try.prog 44 (f44_cOf R_f44)) (k : Nat) (K : Out → Option X)  : (fun v => iter (loopB (f46_cx R_f44 hR_f44) k [.r, .r, .l, .r, .b] (Try.f46.body.getD .skip) (retK (f46_cx R_f44 hR_f44) [] Try.f46.results.toList K) []) k (f46_S1 v)) = iterV (f46_L1 R_f44 k (fun u => K (f46_out u)) ) k :=
  iter_map (fun r1 v => (f46_L1_ev R_f44 hR_f44 k K  r1 v).trans rfl) k
def f46_T {X : Type} (R_f44 : f44_R) (k : Nat) (K : Bool → Option X) (loop1 : (List CV) × (List CV) × Int × Int → Option X) (x0 : List CV) (x1 : List CV) : Option X :=
(bif ((Nat.cast ((List.length x0)) : Int) != (Nat.cast ((List.length x1)) : Int)) then
K (false)
else
loop1 (x1, x0, (Nat.cast ((List.length x0)) : Int), 0))
/-- "slices.EqualFunc[[]outpost/api.Opt,[]outpost/api.Opt,outpost/api.Opt,outpost/api.Opt]" -/
def f46_A (R_f44 : f44_R) (k : Nat) : f46_R := fun X K x0 x1 => f46_T R_f44 k K (iterV (f46_L1 R_f44 k K) k) x0 x1
set_option maxRecDepth 100000 in
theorem f46_ev' {X : Type} (R_f44 : f44_R) (hR_f44 : AnsOk Try.prog 44 (f44_cOf R_f44)) (k : Nat) (K : Out → Option X) (x0 : List CV) (x1 : List CV) : evFn (f46_cx R_f44 hR_f44) [] k Try.f46.ntmps Try.f46.results.toList (Try.f46.body.getD .skip) [(.sl false (some 2) x0), (.sl false (some 2) x1), (.fn 44 [])] [] K = f46_T R_f44 k (fun u => K (f46_out u)) (fun v => iter (loopB (f46_cx R_f44 hR_f44) k [.r, .r, .l, .r, .b] (Try.f46.body.getD .skip) (retK (f46_cx R_f44 hR_f44) [] Try.f46.results.toList K) []) k (f46_S1 v)) x0 x1 := by kernel_rfl
theorem f46_ev {X : Type} (R_f44 : f44_R) (hR_f44 : AnsOk Try.prog 44 (f44_cOf R_f44)) (k : Nat) (K : Out → Option X) (x0 : List CV) (x1 : List CV) : evFn (f46_cx R_f44 hR_f44) [] k Try.f46.ntmps Try.f46.results.toList (Try.f46.body.getD .skip) [(.sl false (some 2) x0), (.sl false (some 2) x1), (.fn 44 [])] [] K = f46_A R_f44 k X (fun u => K (f46_out u)) x0 x1 := (f46_ev' R_f44 hR_f44 k K x0 x1).trans (by rw [f46_L1_it R_f44 hR_f44 k K]; rfl)
theorem f46_okA (R_f44 : f44_R) (hR_f44 : AnsOk Try.prog 44 (f44_cOf R_f44)) (k : Nat) : AnsOk Try.prog 46 (f46_cOf (f46_A R_f44 k)) := by
  intro X xs ns K x h
  unfold f46_cOf at h ⊢
  split at h
  · exact ans_main S (f46_Cok R_f44 hR_f44) Try.func46 (ent_of Try.func46 (by kernel_rfl) rfl) rfl (fun X K => f46_ev R_f44 hR_f44 k K _ _) h
  · cases h
/-- "slices.EqualFunc[[]outpost/api.Opt,[]outpost/api.Opt,outpost/api.Opt,outpost/api.Opt]" -/
def f46 {X : Type} (k : Nat) (K : Bool → Option X) (x0 : List CV) (x1 : List CV) : Option X := f46_A (fun X => @f44 X k) k X K x0 x1
theorem f46_ok (k : Nat) : AnsOk Try.prog 46 (f46_cOf (fun X => @f46 X k)) := f46_okA (fun X => @f44 X k) (f44_ok k) k
abbrev f27_R : Type 1 := (X : Type) → (Bool → Option X) → CV → CV → Option X
def f27_out (u : Bool) : Out := ⟨(.v (CV.bool u)), []⟩
def f27_cOf (R : f27_R) : FnC := fun X xs ns K => match xs, ns with
  | [(.v x0), (.v x1)], [] => R X (fun u => K (f27_out u)) x0 x1
  | _, _ => none
def f27_plan : Nat → Option (List Nat × List Wk)
  | 0 => some ([0, 1], [])
  | 1 => some ([2, 3], [])
  | 2 => some ([2, 3, 5], [])
  | _ => none
def f27_C (R_f45 : f45_R) (R_f46 : f46_R) : Fns := (orC 45 (f45_cOf R_f45) (orC 46 (f46_cOf R_f46) noC))
theorem f27_Cok (R_f45 : f45_R) (R_f46 : f46_R) (hR_f45 : AnsOk Try.prog 45 (f45_cOf R_f45)) (hR_f46 : AnsOk Try.prog 46 (f46_cOf R_f46)) : CsOk Try.prog (f27_C R_f45 R_f46) := (orC_ok hR_f45 (orC_ok hR_f46 noC_ok))
def f27_cx (R_f45 : f45_R) (R_f46 : f46_R) (hR_f45 : AnsOk Try.prog 45 (f45_cOf R_f45)) (hR_f46 : AnsOk Try.prog 46 (f46_cOf R_f46)) : Cx := mkCx (tabOf rows) (f27_C R_f45 R_f46) md (cmpIn cmps) f27_plan (f27_Cok R_f45 R_f46 hR_f45 hR_f46)
def f27_T {X : Type} (R_f45 : f45_R) (R_f46 : f46_R) (k : Nat) (K : Bool → Option X)  (x0 : CV) (x1 : CV) : Option X :=
grd (CV.isA 6 x0) <|
grd (CV.isI .i64 (CV.cellD 0 x0)) <|
grd (CV.isI .i64 (CV.cellD 1 x0)) <|
grd (CV.isI .i64 (CV.cellD 2 x0)) <|
grd (CV.isL none (CV.cellD 3 x0)) <|
grd (CV.isL (some 2) (CV.cellD 4 x0)) <|
grd (CV.isL none (CV.cellD 5 x0)) <|
grd (CV.isA 6 x1) <|
grd (CV.isI .i64 (CV.cellD 0 x1)) <|
grd (CV.isI .i64 (CV.cellD 1 x1)) <|
grd (CV.isI .i64 (CV.cellD 2 x1)) <|
grd (CV.isL none (CV.cellD 3 x1)) <|
grd (CV.isL (some 2) (CV.cellD 4 x1)) <|
grd (CV.isL none (CV.cellD 5 x1)) <|
(bif ((CV.toI (CV.cellD 0 x0)) == (CV.toI (CV.cellD 0 x1))) then
(bif ((CV.toI (CV.cellD 1 x0)) == (CV.toI (CV.cellD 1 x1))) then
(bif ((CV.toI (CV.cellD 2 x0)) == (CV.toI (CV.cellD 2 x1))) then
R_f45 _ (fun u1 =>
(bif u1 then
R_f46 _ (fun u2 =>
(bif u2 then
R_f45 _ (fun u3 =>
K (u3)) ((CV.toL (CV.cellD 5 x0))) ((CV.toL (CV.cellD 5 x1)))
else
K (false))) ((CV.toL (CV.cellD 4 x0))) ((CV.toL (CV.cellD 4 x1)))
else
K (false))) ((CV.toL (CV.cellD 3 x0))) ((CV.toL (CV.cellD 3 x1)))
else
K (false))
else
K (false))
else
K (false))
/-- "outpost/msg.Same" -/
def f27_A (R_f45 : f45_R) (R_f46 : f46_R) (k : Nat) : f27_R := fun X K x0 x1 => f27_T R_f45 R_f46 k K  x0 x1
set_option maxRecDepth 100000 in
theorem f27_ev' {X : Type} (R_f45 : f45_R) (R_f46 : f46_R) (hR_f45 : AnsOk Try.prog 45 (f45_cOf R_f45)) (hR_f46 : AnsOk Try.prog 46 (f46_cOf R_f46)) (k : Nat) (K : Out → Option X) (x0 : CV) (x1 : CV) : evFn (f27_cx R_f45 R_f46 hR_f45 hR_f46) [] k Try.f27.ntmps Try.f27.results.toList (Try.f27.body.getD .skip) [(.v x0), (.v x1)] [] K = f27_T R_f45 R_f46 k (fun u => K (f27_out u)) x0 x1 := by kernel_rfl
theorem f27_ev {X : Type} (R_f45 : f45_R) (R_f46 : f46_R) (hR_f45 : AnsOk Try.prog 45 (f45_cOf R_f45)) (hR_f46 : AnsOk Try.prog 46 (f46_cOf R_f46)) (k : Nat) (K : Out → Option X) (x0 : CV) (x1 : CV) : evFn (f27_cx R_f45 R_f46 hR_f45 hR_f46) [] k Try.f27.ntmps Try.f27.results.toList (Try.f27.body.getD .skip) [(.v x0), (.v x1)] [] K = f27_A R_f45 R_f46 k X (fun u => K (f27_out u)) x0 x1 := (f27_ev' R_f45 R_f46 hR_f45 hR_f46 k K x0 x1).trans rfl
theorem f27_okA (R_f45 : f45_R) (R_f46 : f46_R) (hR_f45 : AnsOk Try.prog 45 (f45_cOf R_f45)) (hR_f46 : AnsOk Try.prog 46 (f46_cOf R_f46)) (k : Nat) : AnsOk Try.prog 27 (f27_cOf (f27_A R_f45 R_f46 k)) := by
  intro X xs ns K x h
  unfold f27_cOf at h ⊢
  split at h
  · exact ans_main S (f27_Cok R_f45 R_f46 hR_f45 hR_f46) Try.func27 (ent_of Try.func27 (by kernel_rfl) rfl) rfl (fun X K => f27_ev R_f45 R_f46 hR_f45 hR_f46 k K _ _) h
  · cases h
/-- "outpost/msg.Same" -/
def f27 {X : Type} (k : Nat) (K : Bool → Option X) (x0 : CV) (x1 : CV) : Option X := f27_A (fun X => @f45 X k) (fun X => @f46 X k) k X K x0 x1
theorem f27_ok (k : Nat) : AnsOk Try.prog 27 (f27_cOf (fun X => @f27 X k)) := f27_okA (fun X => @f45 X k) (fun X => @f46 X k) (f45_ok k) (f46_ok k) k
abbrev f23_R : Type 1 := (X : Type) → (Bool → Option X) → CV → Option X
def f23_out (u : Bool) : Out := ⟨(.v (CV.bool u)), []⟩
def f23_cOf (R : f23_R) : FnC := fun X xs ns K => match xs, ns with
  | [(.v x0)], [] => R X (fun u => K (f23_out u)) x0
  | _, _ => none
def f23_plan : Nat → Option (List Nat × List Wk)
  | 0 => some ([0], [])
  | 1 => some ([1], [])
  | _ => none
def f23_C (R_f43 : f43_R) : Fns := (orC 43 (f43_cOf R_f43) noC)
theorem f23_Cok (R_f43 : f43_R) (hR_f43 : AnsOk Try.prog 43 (f43_cOf R_f43)) : CsOk Try.prog (f23_C R_f43) := (orC_ok hR_f43 noC_ok)
def f23_cx (R_f43 : f43_R) (hR_f43 : AnsOk Try.prog 43 (f43_cOf R_f43)) : Cx := mkCx (tabOf rows) (f23_C R_f43) md (cmpIn cmps) f23_plan (f23_Cok R_f43 hR_f43)
def f23_T {X : Type} (R_f43 : f43_R) (k : Nat) (K : Bool → Option X)  (x0 : CV) : Option X :=
grd (CV.isA 6 x0) <|
grd (CV.isI .i64 (CV.cellD 0 x0)) <|
grd (CV.isI .i64 (CV.cellD 1 x0)) <|
grd (CV.isI .i64 (CV.cellD 2 x0)) <|
grd (CV.isL none (CV.cellD 3 x0)) <|
grd (CV.isL (some 2) (CV.cellD 4 x0)) <|
grd (CV.isL none (CV.cellD 5 x0)) <|
R_f43 _ (fun u1 =>
(bif (u1 == 0) then
K (((CV.toI (CV.cellD 1 x0)) != 0))
else
K (false))) ((CV.toI (CV.cellD 1 x0)))
/-- "outpost/msg.Request" -/
def f23_A (R_f43 : f43_R) (k : Nat) : f23_R := fun X K x0 => f23_T R_f43 k K  x0
set_option maxRecDepth 100000 in
theorem f23_ev' {X : Type} (R_f43 : f43_R) (hR_f43 : AnsOk Try.prog 43 (f43_cOf R_f43)) (k : Nat) (K : Out → Option X) (x0 : CV) : evFn (f23_cx R_f43 hR_f43) [] k Try.f23.ntmps Try.f23.results.toList (Try.f23.body.getD .skip) [(.v x0)] [] K = f23_T R_f43 k (fun u => K (f23_out u)) x0 := by kernel_rfl
theorem f23_ev {X : Type} (R_f43 : f43_R) (hR_f43 : AnsOk Try.prog 43 (f43_cOf R_f43)) (k : Nat) (K : Out → Option X) (x0 : CV) : evFn (f23_cx R_f43 hR_f43) [] k Try.f23.ntmps Try.f23.results.toList (Try.f23.body.getD .skip) [(.v x0)] [] K = f23_A R_f43 k X (fun u => K (f23_out u)) x0 := (f23_ev' R_f43 hR_f43 k K x0).trans rfl
theorem f23_okA (R_f43 : f43_R) (hR_f43 : AnsOk Try.prog 43 (f43_cOf R_f43)) (k : Nat) : AnsOk Try.prog 23 (f23_cOf (f23_A R_f43 k)) := by
  intro X xs ns K x h
  unfold f23_cOf at h ⊢
  split at h
  · exact ans_main S (f23_Cok R_f43 hR_f43) Try.func23 (ent_of Try.func23 (by kernel_rfl) rfl) rfl (fun X K => f23_ev R_f43 hR_f43 k K _) h
  · cases h
/-- "outpost/msg.Request" -/
def f23 {X : Type} (k : Nat) (K : Bool → Option X) (x0 : CV) : Option X := f23_A (fun X => @f43 X k) k X K x0
theorem f23_ok (k : Nat) : AnsOk Try.prog 23 (f23_cOf (fun X => @f23 X k)) := f23_okA (fun X => @f43 X k) (f43_ok k) k
abbrev f25_R : Type 1 := (X : Type) → (Bool → Option X) → CV → Option X
def f25_out (u : Bool) : Out := ⟨(.v (CV.bool u)), []⟩
def f25_cOf (R : f25_R) : FnC := fun X xs ns K => match xs, ns with
  | [(.v x0)], [] => R X (fun u => K (f25_out u)) x0
  | _, _ => none
def f25_plan : Nat → Option (List Nat × List Wk)
  | 0 => some ([0], [])
  | 1 => some ([1], [])
  | 2 => some ([3], [])
  | _ => none
def f25_C (R_f43 : f43_R) : Fns := (orC 43 (f43_cOf R_f43) noC)
theorem f25_Cok (R_f43 : f43_R) (hR_f43 : AnsOk Try.prog 43 (f43_cOf R_f43)) : CsOk Try.prog (f25_C R_f43) := (orC_ok hR_f43 noC_ok)
def f25_cx (R_f43 : f43_R) (hR_f43 : AnsOk Try.prog 43 (f43_cOf R_f43)) : Cx := mkCx (tabOf rows) (f25_C R_f43) md (cmpIn cmps) f25_plan (f25_Cok R_f43 hR_f43)
def f25_T {X : Type} (R_f43 : f43_R) (k : Nat) (K : Bool → Option X)  (x0 : CV) : Option X :=
grd (CV.isA 6 x0) <|
grd (CV.isI .i64 (CV.cellD 0 x0)) <|
grd (CV.isI .i64 (CV.cellD 1 x0)) <|
grd (CV.isI .i64 (CV.cellD 2 x0)) <|
grd (CV.isL none (CV.cellD 3 x0)) <|
grd (CV.isL (some 2) (CV.cellD 4 x0)) <|
grd (CV.isL none (CV.cellD 5 x0)) <|
R_f43 _ (fun u1 =>
(bif (u1 == 2) then
K (true)
else
(bif (u1 == 4) then
K (true)
else
K ((u1 == 5))))) ((CV.toI (CV.cellD 1 x0)))
/-- "outpost/msg.Answer" -/
def f25_A (R_f43 : f43_R) (k : Nat) : f25_R := fun X K x0 => f25_T R_f43 k K  x0
set_option maxRecDepth 100000 in
theorem f25_ev' {X : Type} (R_f43 : f43_R) (hR_f43 : AnsOk Try.prog 43 (f43_cOf R_f43)) (k : Nat) (K : Out → Option X) (x0 : CV) : evFn (f25_cx R_f43 hR_f43) [] k Try.f25.ntmps Try.f25.results.toList (Try.f25.body.getD .skip) [(.v x0)] [] K = f25_T R_f43 k (fun u => K (f25_out u)) x0 := by kernel_rfl
theorem f25_ev {X : Type} (R_f43 : f43_R) (hR_f43 : AnsOk Try.prog 43 (f43_cOf R_f43)) (k : Nat) (K : Out → Option X) (x0 : CV) : evFn (f25_cx R_f43 hR_f43) [] k Try.f25.ntmps Try.f25.results.toList (Try.f25.body.getD .skip) [(.v x0)] [] K = f25_A R_f43 k X (fun u => K (f25_out u)) x0 := (f25_ev' R_f43 hR_f43 k K x0).trans rfl
theorem f25_okA (R_f43 : f43_R) (hR_f43 : AnsOk Try.prog 43 (f43_cOf R_f43)) (k : Nat) : AnsOk Try.prog 25 (f25_cOf (f25_A R_f43 k)) := by
  intro X xs ns K x h
  unfold f25_cOf at h ⊢
  split at h
  · exact ans_main S (f25_Cok R_f43 hR_f43) Try.func25 (ent_of Try.func25 (by kernel_rfl) rfl) rfl (fun X K => f25_ev R_f43 hR_f43 k K _) h
  · cases h
/-- "outpost/msg.Answer" -/
def f25 {X : Type} (k : Nat) (K : Bool → Option X) (x0 : CV) : Option X := f25_A (fun X => @f43 X k) k X K x0
theorem f25_ok (k : Nat) : AnsOk Try.prog 25 (f25_cOf (fun X => @f25 X k)) := f25_okA (fun X => @f43 X k) (f43_ok k) k
abbrev f9_R : Type 1 := (X : Type) → (Bool → Option X) → Option X
def f9_out (u : Bool) : Out := ⟨(.v (CV.bool u)), []⟩
def f9_cOf (R : f9_R) : FnC := fun X xs ns K => match xs, ns with
  | [], [] => R X (fun u => K (f9_out u)) 
  | _, _ => none
def f9_plan : Nat → Option (List Nat × List Wk)
  | 0 => some ([], [])
  | 1 => some ([], [])
  | 2 => some ([1], [])
  | 3 => some ([1, 2, 3], [])
  | 4 => some ([1, 2, 3, 4, 5], [])
  | 5 => some ([1, 2, 3, 4, 5, 6, 7], [])
  | 6 => some ([1, 2, 3, 4, 5, 6, 7, 9], [])
  | 7 => some ([1, 2, 3, 4, 5, 6, 7, 9, 10, 11, 12], [])
  | 8 => some ([1, 2, 3, 4, 5, 6, 7, 9, 10, 11, 12, 13], [])
  | 9 => some ([1, 2, 3, 4, 5, 6, 7, 9, 10, 11, 12, 13, 14, 15], [])
  | _ => none
def f9_C (R_f11 : f11_R) (R_f19 : f19_R) (R_f14 : f14_R) (R_f16 : f16_R) (R_f21 : f21_R) (R_f20 : f20_R) (R_f27 : f27_R) (R_f23 : f23_R) (R_f25 : f25_R) : Fns := (orC 11 (f11_cOf R_f11) (orC 14 (f14_cOf R_f14) (orC 16 (f16_cOf R_f16) (orC 19 (f19_cOf R_f19) (orC 20 (f20_cOf R_f20) (orC 21 (f21_cOf R_f21) (orC 23 (f23_cOf R_f23) (orC 25 (f25_cOf R_f25) (orC 27 (f27_cOf R_f27) noC)))))))))
theorem f9_Cok (R_f11 : f11_R) (R_f19 : f19_R) (R_f14 : f14_R) (R_f16 : f16_R) (R_f21 : f21_R) (R_f20 : f20_R) (R_f27 : f27_R) (R_f23 : f23_R) (R_f25 : f25_R) (hR_f11 : AnsOk Try.prog 11 (f11_cOf R_f11)) (hR_f19 : AnsOk Try.prog 19 (f19_cOf R_f19)) (hR_f14 : AnsOk Try.prog 14 (f14_cOf R_f14)) (hR_f16 : AnsOk Try.prog 16 (f16_cOf R_f16)) (hR_f21 : AnsOk Try.prog 21 (f21_cOf R_f21)) (hR_f20 : AnsOk Try.prog 20 (f20_cOf R_f20)) (hR_f27 : AnsOk Try.prog 27 (f27_cOf R_f27)) (hR_f23 : AnsOk Try.prog 23 (f23_cOf R_f23)) (hR_f25 : AnsOk Try.prog 25 (f25_cOf R_f25)) : CsOk Try.prog (f9_C R_f11 R_f19 R_f14 R_f16 R_f21 R_f20 R_f27 R_f23 R_f25) := (orC_ok hR_f11 (orC_ok hR_f14 (orC_ok hR_f16 (orC_ok hR_f19 (orC_ok hR_f20 (orC_ok hR_f21 (orC_ok hR_f23 (orC_ok hR_f25 (orC_ok hR_f27 noC_ok)))))))))
def f9_cx (R_f11 : f11_R) (R_f19 : f19_R) (R_f14 : f14_R) (R_f16 : f16_R) (R_f21 : f21_R) (R_f20 : f20_R) (R_f27 : f27_R) (R_f23 : f23_R) (R_f25 : f25_R) (hR_f11 : AnsOk Try.prog 11 (f11_cOf R_f11)) (hR_f19 : AnsOk Try.prog 19 (f19_cOf R_f19)) (hR_f14 : AnsOk Try.prog 14 (f14_cOf R_f14)) (hR_f16 : AnsOk Try.prog 16 (f16_cOf R_f16)) (hR_f21 : AnsOk Try.prog 21 (f21_cOf R_f21)) (hR_f20 : AnsOk Try.prog 20 (f20_cOf R_f20)) (hR_f27 : AnsOk Try.prog 27 (f27_cOf R_f27)) (hR_f23 : AnsOk Try.prog 23 (f23_cOf R_f23)) (hR_f25 : AnsOk Try.prog 25 (f25_cOf R_f25)) : Cx := mkCx (tabOf rows) (f9_C R_f11 R_f19 R_f14 R_f16 R_f21 R_f20 R_f27 R_f23 R_f25) md (cmpIn cmps) f9_plan (f9_Cok R_f11 R_f19 R_f14 R_f16 R_f21 R_f20 R_f27 R_f23 R_f25 hR_f11 hR_f19 hR_f14 hR_f16 hR_f21 hR_f20 hR_f27 hR_f23 hR_f25)
def f9_T {X : Type} (R_f11 : f11_R) (R_f19 : f19_R) (R_f14 : f14_R) (R_f16 : f16_R) (R_f21 : f21_R) (R_f20 : f20_R) (R_f27 : f27_R) (R_f23 : f23_R) (R_f25 : f25_R) (k : Nat) (K : Bool → Option X)   : Option X :=
R_f11 _ (fun u1 =>
R_f19 _ (fun u2 =>
R_f11 _ (fun u3 =>
R_f14 _ (fun u4 =>
R_f14 _ (fun u5 =>
R_f16 _ (fun u6 =>
R_f21 _ (fun u7 =>
R_f20 _ (fun u8 =>
R_f11 _ (fun u9 =>
(bif (u1.2.1 == 0) then
grd (shEq none none && List.all (List.take u1.1 (List.drop 0 u1.2.2)) (CV.isI .u8)) <|
(bif ((bytesOf (List.take u1.1 (List.drop 0 u1.2.2))).toList == (⟨#[64, 1, 0, 7, 177, 97]⟩ : ByteArray).toList) then
(bif (u3.2.1 == 0) then
grd (shEq none none && List.all (List.take u3.1 (List.drop 0 u3.2.2)) (CV.isI .u8)) <|
(bif ((bytesOf (List.take u3.1 (List.drop 0 u3.2.2))).toList == (⟨#[96, 0, 0, 7]⟩ : ByteArray).toList) then
(bif (u4.2.2.2.2.2.2.1 == 0) then
R_f27 _ (fun u10 =>
(bif u10 then
(bif (u5.2.2.2.2.2.2.1 == 20) then
(bif (u6.1 == 3) then
(bif (u6.2.1 == 258) then
(bif u6.2.2 then
(bif (u7.1 == 2) then
(bif (u7.2.2.1 == 7) then
(bif (u9.2.1 == 0) then
grd (shEq none none && List.all (List.take u9.1 (List.drop 0 u9.2.2)) (CV.isI .u8)) <|
(bif ((bytesOf (List.take u9.1 (List.drop 0 u9.2.2))).toList == (⟨#[112, 0, 1, 2]⟩ : ByteArray).toList) then
R_f23 _ (fun u11 =>
(bif u11 then
R_f25 _ (fun u12 =>
(bif (!u12) then
R_f25 _ (fun u13 =>
K (u13)) ((CV.agg [(CV.int .i64 u7.1), (CV.int .i64 u7.2.1), (CV.int .i64 u7.2.2.1), (CV.slc none (List.take u7.2.2.2.1 (List.drop 0 u7.2.2.2.2.2.2.1))), (CV.slc (some 2) (List.take u7.2.2.2.2.1 (List.drop 0 u7.2.2.2.2.2.2.2.1))), (CV.slc none (List.take u7.2.2.2.2.2.1 (List.drop 0 u7.2.2.2.2.2.2.2.2)))]))
else
K (false))) ((CV.agg [(CV.int .i64 0), (CV.int .i64 1), (CV.int .i64 7), (CV.slc none (List.take 0 (List.drop 0 []))), (CV.slc (some 2) (List.take 1 (List.drop 0 [(CV.agg [(CV.int .i64 11), (CV.slc none (List.take 1 (List.drop 0 [(CV.int .u8 97)])))])]))), (CV.slc none (List.take 0 (List.drop 0 [])))]))
else
K (false))) ((CV.agg [(CV.int .i64 0), (CV.int .i64 1), (CV.int .i64 7), (CV.slc none (List.take 0 (List.drop 0 []))), (CV.slc (some 2) (List.take 1 (List.drop 0 [(CV.agg [(CV.int .i64 11), (CV.slc none (List.take 1 (List.drop 0 [(CV.int .u8 97)])))])]))), (CV.slc none (List.take 0 (List.drop 0 [])))]))
else
K (false))
else
K (false))
else
K (false))
else
K (false))
else
K (false))
else
K (false))
else
K (false))
else
K (false))
else
K (false))) ((CV.agg [(CV.int .i64 u4.1), (CV.int .i64 u4.2.1), (CV.int .i64 u4.2.2.1), (CV.slc none (List.take u4.2.2.2.1 (List.drop 0 u4.2.2.2.2.2.2.2.1))), (CV.slc (some 2) (List.take u4.2.2.2.2.1 (List.drop 0 u4.2.2.2.2.2.2.2.2.1))), (CV.slc none (List.take u4.2.2.2.2.2.1 (List.drop 0 u4.2.2.2.2.2.2.2.2.2)))])) ((CV.agg [(CV.int .i64 0), (CV.int .i64 1), (CV.int .i64 7), (CV.slc none (List.take 0 (List.drop 0 []))), (CV.slc (some 2) (List.take 1 (List.drop 0 [(CV.agg [(CV.int .i64 11), (CV.slc none (List.take 1 (List.drop 0 [(CV.int .u8 97)])))])]))), (CV.slc none (List.take 0 (List.drop 0 [])))]))
else
K (false))
else
K (false))
else
K (false))
else
K (false))
else
K (false))) ((CV.agg [(CV.int .i64 3), (CV.int .i64 0), (CV.int .i64 u8.1), (CV.slc none (List.take 0 (List.drop 0 u8.2.1))), (CV.slc (some 2) (List.take 0 (List.drop 0 u8.2.2.1))), (CV.slc none (List.take 0 (List.drop 0 u8.2.2.2)))]))) (258)) ((CV.agg [(CV.int .i64 0), (CV.int .i64 1), (CV.int .i64 7), (CV.slc none (List.take 0 (List.drop 0 []))), (CV.slc (some 2) (List.take 1 (List.drop 0 [(CV.agg [(CV.int .i64 11), (CV.slc none (List.take 1 (List.drop 0 [(CV.int .u8 97)])))])]))), (CV.slc none (List.take 0 (List.drop 0 [])))])) (69) (9) ([]) ((List.take 1 (List.drop 0 [(CV.int .u8 120)])))) ((List.take 4 (List.drop 0 [(CV.int .u8 112), (CV.int .u8 9), (CV.int .u8 1), (CV.int .u8 2)])))) ((List.take 3 (List.drop 0 [(CV.int .u8 64), (CV.int .u8 1), (CV.int .u8 0)])))) ((List.take u1.1 (List.drop 0 u1.2.2)))) ((CV.agg [(CV.int .i64 2), (CV.int .i64 0), (CV.int .i64 u2.1), (CV.slc none (List.take 0 (List.drop 0 u2.2.1))), (CV.slc (some 2) (List.take 0 (List.drop 0 u2.2.2.1))), (CV.slc none (List.take 0 (List.drop 0 u2.2.2.2)))]))) ((CV.agg [(CV.int .i64 0), (CV.int .i64 1), (CV.int .i64 7), (CV.slc none (List.take 0 (List.drop 0 []))), (CV.slc (some 2) (List.take 1 (List.drop 0 [(CV.agg [(CV.int .i64 11), (CV.slc none (List.take 1 (List.drop 0 [(CV.int .u8 97)])))])]))), (CV.slc none (List.take 0 (List.drop 0 [])))]))) ((CV.agg [(CV.int .i64 0), (CV.int .i64 1), (CV.int .i64 7), (CV.slc none (List.take 0 (List.drop 0 []))), (CV.slc (some 2) (List.take 1 (List.drop 0 [(CV.agg [(CV.int .i64 11), (CV.slc none (List.take 1 (List.drop 0 [(CV.int .u8 97)])))])]))), (CV.slc none (List.take 0 (List.drop 0 [])))]))
/-- "outpost/outpostlaw09.alive" -/
def f9_A (R_f11 : f11_R) (R_f19 : f19_R) (R_f14 : f14_R) (R_f16 : f16_R) (R_f21 : f21_R) (R_f20 : f20_R) (R_f27 : f27_R) (R_f23 : f23_R) (R_f25 : f25_R) (k : Nat) : f9_R := fun X K  => f9_T R_f11 R_f19 R_f14 R_f16 R_f21 R_f20 R_f27 R_f23 R_f25 k K  
set_option maxRecDepth 100000 in
theorem f9_ev' {X : Type} (R_f11 : f11_R) (R_f19 : f19_R) (R_f14 : f14_R) (R_f16 : f16_R) (R_f21 : f21_R) (R_f20 : f20_R) (R_f27 : f27_R) (R_f23 : f23_R) (R_f25 : f25_R) (hR_f11 : AnsOk Try.prog 11 (f11_cOf R_f11)) (hR_f19 : AnsOk Try.prog 19 (f19_cOf R_f19)) (hR_f14 : AnsOk Try.prog 14 (f14_cOf R_f14)) (hR_f16 : AnsOk Try.prog 16 (f16_cOf R_f16)) (hR_f21 : AnsOk Try.prog 21 (f21_cOf R_f21)) (hR_f20 : AnsOk Try.prog 20 (f20_cOf R_f20)) (hR_f27 : AnsOk Try.prog 27 (f27_cOf R_f27)) (hR_f23 : AnsOk Try.prog 23 (f23_cOf R_f23)) (hR_f25 : AnsOk Try.prog 25 (f25_cOf R_f25)) (k : Nat) (K : Out → Option X)  : evFn (f9_cx R_f11 R_f19 R_f14 R_f16 R_f21 R_f20 R_f27 R_f23 R_f25 hR_f11 hR_f19 hR_f14 hR_f16 hR_f21 hR_f20 hR_f27 hR_f23 hR_f25) [] k Try.f9.ntmps Try.f9.results.toList (Try.f9.body.getD .skip) [] [] K = f9_T R_f11 R_f19 R_f14 R_f16 R_f21 R_f20 R_f27 R_f23 R_f25 k (fun u => K (f9_out u))  := by kernel_rfl
theorem f9_ev {X : Type} (R_f11 : f11_R) (R_f19 : f19_R) (R_f14 : f14_R) (R_f16 : f16_R) (R_f21 : f21_R) (R_f20 : f20_R) (R_f27 : f27_R) (R_f23 : f23_R) (R_f25 : f25_R) (hR_f11 : AnsOk Try.prog 11 (f11_cOf R_f11)) (hR_f19 : AnsOk Try.prog 19 (f19_cOf R_f19)) (hR_f14 : AnsOk Try.prog 14 (f14_cOf R_f14)) (hR_f16 : AnsOk Try.prog 16 (f16_cOf R_f16)) (hR_f21 : AnsOk Try.prog 21 (f21_cOf R_f21)) (hR_f20 : AnsOk Try.prog 20 (f20_cOf R_f20)) (hR_f27 : AnsOk Try.prog 27 (f27_cOf R_f27)) (hR_f23 : AnsOk Try.prog 23 (f23_cOf R_f23)) (hR_f25 : AnsOk Try.prog 25 (f25_cOf R_f25)) (k : Nat) (K : Out → Option X)  : evFn (f9_cx R_f11 R_f19 R_f14 R_f16 R_f21 R_f20 R_f27 R_f23 R_f25 hR_f11 hR_f19 hR_f14 hR_f16 hR_f21 hR_f20 hR_f27 hR_f23 hR_f25) [] k Try.f9.ntmps Try.f9.results.toList (Try.f9.body.getD .skip) [] [] K = f9_A R_f11 R_f19 R_f14 R_f16 R_f21 R_f20 R_f27 R_f23 R_f25 k X (fun u => K (f9_out u))  := (f9_ev' R_f11 R_f19 R_f14 R_f16 R_f21 R_f20 R_f27 R_f23 R_f25 hR_f11 hR_f19 hR_f14 hR_f16 hR_f21 hR_f20 hR_f27 hR_f23 hR_f25 k K ).trans rfl
theorem f9_okA (R_f11 : f11_R) (R_f19 : f19_R) (R_f14 : f14_R) (R_f16 : f16_R) (R_f21 : f21_R) (R_f20 : f20_R) (R_f27 : f27_R) (R_f23 : f23_R) (R_f25 : f25_R) (hR_f11 : AnsOk Try.prog 11 (f11_cOf R_f11)) (hR_f19 : AnsOk Try.prog 19 (f19_cOf R_f19)) (hR_f14 : AnsOk Try.prog 14 (f14_cOf R_f14)) (hR_f16 : AnsOk Try.prog 16 (f16_cOf R_f16)) (hR_f21 : AnsOk Try.prog 21 (f21_cOf R_f21)) (hR_f20 : AnsOk Try.prog 20 (f20_cOf R_f20)) (hR_f27 : AnsOk Try.prog 27 (f27_cOf R_f27)) (hR_f23 : AnsOk Try.prog 23 (f23_cOf R_f23)) (hR_f25 : AnsOk Try.prog 25 (f25_cOf R_f25)) (k : Nat) : AnsOk Try.prog 9 (f9_cOf (f9_A R_f11 R_f19 R_f14 R_f16 R_f21 R_f20 R_f27 R_f23 R_f25 k)) := by
  intro X xs ns K x h
  unfold f9_cOf at h ⊢
  split at h
  · exact ans_main S (f9_Cok R_f11 R_f19 R_f14 R_f16 R_f21 R_f20 R_f27 R_f23 R_f25 hR_f11 hR_f19 hR_f14 hR_f16 hR_f21 hR_f20 hR_f27 hR_f23 hR_f25) Try.func9 (ent_of Try.func9 (by kernel_rfl) rfl) rfl (fun X K => f9_ev R_f11 R_f19 R_f14 R_f16 R_f21 R_f20 R_f27 R_f23 R_f25 hR_f11 hR_f19 hR_f14 hR_f16 hR_f21 hR_f20 hR_f27 hR_f23 hR_f25 k K ) h
  · cases h
/-- "outpost/outpostlaw09.alive" -/
def f9 {X : Type} (k : Nat) (K : Bool → Option X)  : Option X := f9_A (fun X => @f11 X k) (fun X => @f19 X k) (fun X => @f14 X k) (fun X => @f16 X k) (fun X => @f21 X k) (fun X => @f20 X k) (fun X => @f27 X k) (fun X => @f23 X k) (fun X => @f25 X k) k X K 
theorem f9_ok (k : Nat) : AnsOk Try.prog 9 (f9_cOf (fun X => @f9 X k)) := f9_okA (fun X => @f11 X k) (fun X => @f19 X k) (fun X => @f14 X k) (fun X => @f16 X k) (fun X => @f21 X k) (fun X => @f20 X k) (fun X => @f27 X k) (fun X => @f23 X k) (fun X => @f25 X k) (f11_ok k) (f19_ok k) (f14_ok k) (f16_ok k) (f21_ok k) (f20_ok k) (f27_ok k) (f23_ok k) (f25_ok k) k
abbrev f18_R : Type 1 := (X : Type) → (Bool → Option X) → (List CV) → Option X
def f18_out (u : Bool) : Out := ⟨(.v (CV.bool u)), []⟩
def f18_cOf (R : f18_R) : FnC := fun X xs ns K => match xs, ns with
  | [(.sl false (some 2) x0)], [] => R X (fun u => K (f18_out u)) x0
  | _, _ => none
def f18_plan : Nat → Option (List Nat × List Wk)
  | 0 => some ([0], [])
  | 1 => some ([0], [])
  | 2 => some ([], [])
  | 3 => some ([0], [])
  | 4 => some ([0, 3], [])
  | 5 => some ([0, 3], [])
  | 6 => some ([0, 3], [])
  | 7 => some ([], [])
  | 8 => some ([], [])
  | _ => none
def f18_C : Fns := noC
theorem f18_Cok : CsOk Try.prog (f18_C) := noC_ok
def f18_cx : Cx := mkCx (tabOf rows) (f18_C) md (cmpIn cmps) f18_plan (f18_Cok)
def f18_S1 (v : (List CV) × Int) : St := ⟨[(.sl false (some 2) v.1), .undef, .undef, (.v (CV.int .i64 v.2)), .undef, .undef, .undef, .undef, .undef, .undef, .undef, .undef, .undef, .undef, .undef, .undef, .undef, .undef, .undef, .undef], []⟩
def f18_T1 {X : Type} (k : Nat) (K : Bool → Option X)   (rec1 : (List CV) × Int → Option X) (v5_0 : (List CV) × Int) : Option X :=
(bif (decide (v5_0.2 < (Nat.cast ((List.length v5_0.1)) : Int))) then
grd (decide (0 ≤ v5_0.2)) <|
Option.bind (v5_0.1)[(Int.toNat v5_0.2)]? fun e8 =>
Option.bind (CV.cell e8 1) fun c9 =>
grd (CV.isL none c9) <|
(bif (decide ((Nat.cast ((List.length (CV.toL c9))) : Int) > 400)) then
K (false)
else
rec1 (v5_0.1, (IntKind.wrap .i64 (v5_0.2 + 1))))
else
K (true))
def f18_L1 {X : Type} (k : Nat) (K : Bool → Option X)  (rec1 : (List CV) × Int → Option X) (v : (List CV) × Int) : Option X := f18_T1 k K   rec1 v
set_option maxRecDepth 100000 in
theorem f18_L1_ev {X : Type} (k : Nat) (K : Out → Option X)  (r1 : St → Option X) (v : (List CV) × Int) : loopB (f18_cx) k [.r, .r, .l, .r, .b] (Try.f18.body.getD .skip) (retK (f18_cx) [] Try.f18.results.toList K) [] r1 (f18_S1 v) = f18_T1 k (fun u => K (f18_out u))   (fun v => r1 (f18_S1 v)) v := by kernel_rfl
theorem f18_L1_it {X : Type} (k : Nat) (K : Out → Option X)  : (fun v => iter (loopB (f18_cx) k [.r, .r, .l, .r, .b] (Try.f18.body.getD .skip) (retK (f18_cx) [] Try.f18.results.toList K) []) k (f18_S1 v)) = iterV (f18_L1 k (fun u => K (f18_out u)) ) k :=
  iter_map (fun r1 v => (f18_L1_ev k K  r1 v).trans rfl) k
def f18_T {X : Type} (k : Nat) (K : Bool → Option X) (loop1 : (List CV) × Int → Option X) (x0 : List CV) : Option X :=
(bif (decide ((Nat.cast ((List.length x0)) : Int) > 40)) then
K (false)
else
loop1 (x0, 0))
/-- "outpost/outpostref08.Few" -/
def f18_A (k : Nat) : f18_R := fun X K x0 => f18_T k K (iterV (f18_L1 k K) k) x0
set_option maxRecDepth 100000 in
theorem f18_ev' {X : Type} (k : Nat) (K : Out → Option X) (x0 : List CV) : evFn (f18_cx) [] k Try.f18.ntmps Try.f18.results.toList (Try.f18.body.getD .skip) [(.sl false (some 2) x0)] [] K = f18_T k (fun u => K (f18_out u)) (fun v => iter (loopB (f18_cx) k [.r, .r, .l, .r, .b] (Try.f18.body.getD .skip) (retK (f18_cx) [] Try.f18.results.toList K) []) k (f18_S1 v)) x0 := by kernel_rfl
theorem f18_ev {X : Type} (k : Nat) (K : Out → Option X) (x0 : List CV) : evFn (f18_cx) [] k Try.f18.ntmps Try.f18.results.toList (Try.f18.body.getD .skip) [(.sl false (some 2) x0)] [] K = f18_A k X (fun u => K (f18_out u)) x0 := (f18_ev' k K x0).trans (by rw [f18_L1_it k K]; rfl)
theorem f18_okA (k : Nat) : AnsOk Try.prog 18 (f18_cOf (f18_A k)) := by
  intro X xs ns K x h
  unfold f18_cOf at h ⊢
  split at h
  · exact ans_main S (f18_Cok) Try.func18 (ent_of Try.func18 (by kernel_rfl) rfl) rfl (fun X K => f18_ev k K _) h
  · cases h
/-- "outpost/outpostref08.Few" -/
def f18 {X : Type} (k : Nat) (K : Bool → Option X) (x0 : List CV) : Option X := f18_A k X K x0
theorem f18_ok (k : Nat) : AnsOk Try.prog 18 (f18_cOf (fun X => @f18 X k)) := f18_okA k
abbrev f10_R : Type 1 := (X : Type) → (Bool → Option X) → CV → Option X
def f10_out (u : Bool) : Out := ⟨(.v (CV.bool u)), []⟩
def f10_cOf (R : f10_R) : FnC := fun X xs ns K => match xs, ns with
  | [(.v x0)], [] => R X (fun u => K (f10_out u)) x0
  | _, _ => none
def f10_plan : Nat → Option (List Nat × List Wk)
  | 0 => some ([0], [])
  | 1 => some ([1], [])
  | _ => none
def f10_C (R_f18 : f18_R) : Fns := (orC 18 (f18_cOf R_f18) noC)
theorem f10_Cok (R_f18 : f18_R) (hR_f18 : AnsOk Try.prog 18 (f18_cOf R_f18)) : CsOk Try.prog (f10_C R_f18) := (orC_ok hR_f18 noC_ok)
def f10_cx (R_f18 : f18_R) (hR_f18 : AnsOk Try.prog 18 (f18_cOf R_f18)) : Cx := mkCx (tabOf rows) (f10_C R_f18) md (cmpIn cmps) f10_plan (f10_Cok R_f18 hR_f18)
def f10_T {X : Type} (R_f18 : f18_R) (k : Nat) (K : Bool → Option X)  (x0 : CV) : Option X :=
grd (CV.isA 6 x0) <|
grd (CV.isI .i64 (CV.cellD 0 x0)) <|
grd (CV.isI .i64 (CV.cellD 1 x0)) <|
grd (CV.isI .i64 (CV.cellD 2 x0)) <|
grd (CV.isL none (CV.cellD 3 x0)) <|
grd (CV.isL (some 2) (CV.cellD 4 x0)) <|
grd (CV.isL none (CV.cellD 5 x0)) <|
(bif (decide ((Nat.cast ((List.length (CV.toL (CV.cellD 3 x0)))) : Int) ≤ 100)) then
(bif (decide ((Nat.cast ((List.length (CV.toL (CV.cellD 5 x0)))) : Int) ≤ 2000)) then
R_f18 _ (fun u1 =>
K (u1)) ((CV.toL (CV.cellD 4 x0)))
else
K (false))
else
K (false))
/-- "outpost/outpostref09.Few" -/
def f10_A (R_f18 : f18_R) (k : Nat) : f10_R := fun X K x0 => f10_T R_f18 k K  x0
set_option maxRecDepth 100000 in
theorem f10_ev' {X : Type} (R_f18 : f18_R) (hR_f18 : AnsOk Try.prog 18 (f18_cOf R_f18)) (k : Nat) (K : Out → Option X) (x0 : CV) : evFn (f10_cx R_f18 hR_f18) [] k Try.f10.ntmps Try.f10.results.toList (Try.f10.body.getD .skip) [(.v x0)] [] K = f10_T R_f18 k (fun u => K (f10_out u)) x0 := by kernel_rfl
theorem f10_ev {X : Type} (R_f18 : f18_R) (hR_f18 : AnsOk Try.prog 18 (f18_cOf R_f18)) (k : Nat) (K : Out → Option X) (x0 : CV) : evFn (f10_cx R_f18 hR_f18) [] k Try.f10.ntmps Try.f10.results.toList (Try.f10.body.getD .skip) [(.v x0)] [] K = f10_A R_f18 k X (fun u => K (f10_out u)) x0 := (f10_ev' R_f18 hR_f18 k K x0).trans rfl
theorem f10_okA (R_f18 : f18_R) (hR_f18 : AnsOk Try.prog 18 (f18_cOf R_f18)) (k : Nat) : AnsOk Try.prog 10 (f10_cOf (f10_A R_f18 k)) := by
  intro X xs ns K x h
  unfold f10_cOf at h ⊢
  split at h
  · exact ans_main S (f10_Cok R_f18 hR_f18) Try.func10 (ent_of Try.func10 (by kernel_rfl) rfl) rfl (fun X K => f10_ev R_f18 hR_f18 k K _) h
  · cases h
/-- "outpost/outpostref09.Few" -/
def f10 {X : Type} (k : Nat) (K : Bool → Option X) (x0 : CV) : Option X := f10_A (fun X => @f18 X k) k X K x0
theorem f10_ok (k : Nat) : AnsOk Try.prog 10 (f10_cOf (fun X => @f10 X k)) := f10_okA (fun X => @f18 X k) (f18_ok k) k
abbrev f34_R : Type 1 := (X : Type) → (Bool → Option X) → Int → Option X
def f34_out (u : Bool) : Out := ⟨(.v (CV.bool u)), []⟩
def f34_cOf (R : f34_R) : FnC := fun X xs ns K => match xs, ns with
  | [(.v (CV.int .i64 x0))], [] => R X (fun u => K (f34_out u)) x0
  | _, _ => none
def f34_plan : Nat → Option (List Nat × List Wk)
  | 0 => some ([0], [])
  | 1 => some ([0], [])
  | _ => none
def f34_C : Fns := noC
theorem f34_Cok : CsOk Try.prog (f34_C) := noC_ok
def f34_cx : Cx := mkCx (tabOf rows) (f34_C) md (cmpIn cmps) f34_plan (f34_Cok)
def f34_T {X : Type} (k : Nat) (K : Bool → Option X)  (x0 : Int) : Option X :=
(bif ((IntKind.wrap .i64 (Int.tdiv x0 32)) != 1) then
(bif ((IntKind.wrap .i64 (Int.tdiv x0 32)) != 6) then
K (((IntKind.wrap .i64 (Int.tdiv x0 32)) != 7))
else
K (false))
else
K (false))
/-- "outpost/outpostref09.used" -/
def f34_A (k : Nat) : f34_R := fun X K x0 => f34_T k K  x0
set_option maxRecDepth 100000 in
theorem f34_ev' {X : Type} (k : Nat) (K : Out → Option X) (x0 : Int) : evFn (f34_cx) [] k Try.f34.ntmps Try.f34.results.toList (Try.f34.body.getD .skip) [(.v (CV.int .i64 x0))] [] K = f34_T k (fun u => K (f34_out u)) x0 := by kernel_rfl
theorem f34_ev {X : Type} (k : Nat) (K : Out → Option X) (x0 : Int) : evFn (f34_cx) [] k Try.f34.ntmps Try.f34.results.toList (Try.f34.body.getD .skip) [(.v (CV.int .i64 x0))] [] K = f34_A k X (fun u => K (f34_out u)) x0 := (f34_ev' k K x0).trans rfl
theorem f34_okA (k : Nat) : AnsOk Try.prog 34 (f34_cOf (f34_A k)) := by
  intro X xs ns K x h
  unfold f34_cOf at h ⊢
  split at h
  · exact ans_main S (f34_Cok) Try.func34 (ent_of Try.func34 (by kernel_rfl) rfl) rfl (fun X K => f34_ev k K _) h
  · cases h
/-- "outpost/outpostref09.used" -/
def f34 {X : Type} (k : Nat) (K : Bool → Option X) (x0 : Int) : Option X := f34_A k X K x0
theorem f34_ok (k : Nat) : AnsOk Try.prog 34 (f34_cOf (fun X => @f34 X k)) := f34_okA k
abbrev f40_R : Type 1 := (X : Type) → (Nat × (List CV) → Option X) → (List CV) → Option X
def f40_out (u : Nat × (List CV)) : Out := ⟨(.osl [2000] none 0 u.1), [([2000], (.row false none u.2))]⟩
def f40_cOf (R : f40_R) : FnC := fun X xs ns K => match xs, ns with
  | [(.sl false none x0)], [] => R X (fun u => K (f40_out u)) x0
  | _, _ => none
def f40_plan : Nat → Option (List Nat × List Wk)
  | 0 => some ([0], [])
  | 1 => some ([0], [])
  | 2 => some ([0, 3], [])
  | 3 => some ([0, 3, 4], [])
  | 4 => some ([0, 3, 4], [])
  | 5 => some ([0, 3, 4], [])
  | 6 => some ([3], [])
  | _ => none
def f40_C : Fns := noC
theorem f40_Cok : CsOk Try.prog (f40_C) := noC_ok
def f40_cx : Cx := mkCx (tabOf rows) (f40_C) md (cmpIn cmps) f40_plan (f40_Cok)
def f40_S1 (v : (List CV) × Nat × Int × (List CV)) : St := ⟨[(.sl false none v.1), .undef, .undef, (.osl [3] none 0 v.2.1), (.v (CV.int .i64 v.2.2.1)), .undef, .undef, .undef, .undef, .undef, .undef, .undef, .undef, .undef, .undef, .undef, .undef, .undef, .undef, .undef], [([3], (.row false none v.2.2.2))]⟩
def f40_T1 {X : Type} (k : Nat) (K : Nat × (List CV) → Option X)   (rec1 : (List CV) × Nat × Int × (List CV) → Option X) (v5_0 : (List CV) × Nat × Int × (List CV)) : Option X :=
(bif (decide (v5_0.2.2.1 < (Nat.cast ((List.length v5_0.1)) : Int))) then
grd (decide (0 ≤ v5_0.2.2.1)) <|
Option.bind (v5_0.1)[(Int.toNat v5_0.2.2.1)]? fun e5 =>
grd (CV.isI .u8 e5) <|
grd (decide ((v5_0.2.1 + (List.length (List.take 1 (List.drop 0 [(CV.int .u8 (CV.toI e5))])))) * 1 ≤ 140737488355328)) <|
rec1 (v5_0.1, (v5_0.2.1 + (List.length (List.take 1 (List.drop 0 [(CV.int .u8 (CV.toI e5))])))), (IntKind.wrap .i64 (v5_0.2.2.1 + 1)), ((List.take v5_0.2.1 v5_0.2.2.2) ++ (List.take 1 (List.drop 0 [(CV.int .u8 (CV.toI e5))]))))
else
K (v5_0.2.1, (List.take (0 + v5_0.2.1) v5_0.2.2.2)))
def f40_L1 {X : Type} (k : Nat) (K : Nat × (List CV) → Option X)  (rec1 : (List CV) × Nat × Int × (List CV) → Option X) (v : (List CV) × Nat × Int × (List CV)) : Option X := f40_T1 k K   rec1 v
set_option maxRecDepth 100000 in
theorem f40_L1_ev {X : Type} (k : Nat) (K : Out → Option X)  (r1 : St → Option X) (v : (List CV) × Nat × Int × (List CV)) : loopB (f40_cx) k [.r, .r, .l, .r, .b] (Try.f40.body.getD .skip) (retK (f40_cx) [] Try.f40.results.toList K) [] r1 (f40_S1 v) = f40_T1 k (fun u => K (f40_out u))   (fun v => r1 (f40_S1 v)) v := by kernel_rfl
theorem f40_L1_it {X : Type} (k : Nat) (K : Out → Option X)  : (fun v => iter (loopB (f40_cx) k [.r, .r, .l, .r, .b] (Try.f40.body.getD .skip) (retK (f40_cx) [] Try.f40.results.toList K) []) k (f40_S1 v)) = iterV (f40_L1 k (fun u => K (f40_out u)) ) k :=
  iter_map (fun r1 v => (f40_L1_ev k K  r1 v).trans rfl) k
def f40_T {X : Type} (k : Nat) (K : Nat × (List CV) → Option X) (loop1 : (List CV) × Nat × Int × (List CV) → Option X) (x0 : List CV) : Option X :=
loop1 (x0, 0, 0, [])
/-- "outpost/outpostref01.Copy" -/
def f40_A (k : Nat) : f40_R := fun X K x0 => f40_T k K (iterV (f40_L1 k K) k) x0
set_option maxRecDepth 100000 in
theorem f40_ev' {X : Type} (k : Nat) (K : Out → Option X) (x0 : List CV) : evFn (f40_cx) [] k Try.f40.ntmps Try.f40.results.toList (Try.f40.body.getD .skip) [(.sl false none x0)] [] K = f40_T k (fun u => K (f40_out u)) (fun v => iter (loopB (f40_cx) k [.r, .r, .l, .r, .b] (Try.f40.body.getD .skip) (retK (f40_cx) [] Try.f40.results.toList K) []) k (f40_S1 v)) x0 := by kernel_rfl
theorem f40_ev {X : Type} (k : Nat) (K : Out → Option X) (x0 : List CV) : evFn (f40_cx) [] k Try.f40.ntmps Try.f40.results.toList (Try.f40.body.getD .skip) [(.sl false none x0)] [] K = f40_A k X (fun u => K (f40_out u)) x0 := (f40_ev' k K x0).trans (by rw [f40_L1_it k K]; rfl)
theorem f40_okA (k : Nat) : AnsOk Try.prog 40 (f40_cOf (f40_A k)) := by
  intro X xs ns K x h
  unfold f40_cOf at h ⊢
  split at h
  · exact ans_main S (f40_Cok) Try.func40 (ent_of Try.func40 (by kernel_rfl) rfl) rfl (fun X K => f40_ev k K _) h
  · cases h
/-- "outpost/outpostref01.Copy" -/
def f40 {X : Type} (k : Nat) (K : Nat × (List CV) → Option X) (x0 : List CV) : Option X := f40_A k X K x0
theorem f40_ok (k : Nat) : AnsOk Try.prog 40 (f40_cOf (fun X => @f40 X k)) := f40_okA k
abbrev f47_R : Type 1 := (X : Type) → (Nat × (List CV) → Option X) → (List CV) → Int → (List CV) → Option X
def f47_out (u : Nat × (List CV)) : Out := ⟨(.osl [2000] (some 2) 0 u.1), [([2000], (.row false (some 2) u.2))]⟩
def f47_cOf (R : f47_R) : FnC := fun X xs ns K => match xs, ns with
  | [(.sl false (some 2) x0), (.v (CV.int .i64 x1)), (.sl false none x2)], [] => R X (fun u => K (f47_out u)) x0 x1 x2
  | _, _ => none
def f47_plan : Nat → Option (List Nat × List Wk)
  | 0 => some ([0, 1, 2], [])
  | 1 => some ([0, 1, 2], [])
  | 2 => some ([0, 1, 2, 7], [])
  | 3 => some ([0, 1, 2, 7, 8], [])
  | 4 => some ([0, 1, 2, 7, 8, 9], [])
  | 5 => some ([0, 1, 2, 7, 8, 9], [])
  | 6 => some ([0, 1, 2, 7, 8, 9], [])
  | 7 => some ([0, 1, 2, 7, 9], [])
  | 8 => some ([0, 1, 2, 7, 9], [])
  | 9 => some ([0, 1, 2, 7, 8, 9], [])
  | 10 => some ([1, 2, 7, 8], [])
  | 11 => some ([1, 2, 7], [])
  | 12 => some ([7], [])
  | _ => none
def f47_C (R_f40 : f40_R) : Fns := (orC 40 (f40_cOf R_f40) noC)
theorem f47_Cok (R_f40 : f40_R) (hR_f40 : AnsOk Try.prog 40 (f40_cOf R_f40)) : CsOk Try.prog (f47_C R_f40) := (orC_ok hR_f40 noC_ok)
def f47_cx (R_f40 : f40_R) (hR_f40 : AnsOk Try.prog 40 (f40_cOf R_f40)) : Cx := mkCx (tabOf rows) (f47_C R_f40) md (cmpIn cmps) f47_plan (f47_Cok R_f40 hR_f40)
def f47_S1 (v : (List CV) × Int × (List CV) × Nat × Bool × Int × (List CV)) : St := ⟨[(.sl false (some 2) v.1), (.v (CV.int .i64 v.2.1)), (.sl false none v.2.2.1), .undef, .undef, .undef, .undef, (.osl [7] (some 2) 0 v.2.2.2.1), (.v (CV.bool v.2.2.2.2.1)), (.v (CV.int .i64 v.2.2.2.2.2.1)), .undef, .undef, .undef, .undef, .undef, .undef, .undef, .undef, .undef, .undef, .undef, .undef, .undef, .undef, .undef, .undef, .undef, .undef, .undef, .undef, .undef, .undef, .undef, .undef, .undef, .undef, .undef, .undef, .undef, .undef, .undef, .undef, .undef, .undef, .undef, .undef, .undef, .undef, .undef, .undef, .undef, .undef], [([7], (.row false (some 2) v.2.2.2.2.2.2))]⟩
def f47_J1 {X : Type} (R_f40 : f40_R) (k : Nat) (K : Nat × (List CV) → Option X) (rec1 : (List CV) × Int × (List CV) × Nat × Bool × Int × (List CV) → Option X) (v6_0 : (List CV) × Int × (List CV) × Nat × Bool × Int × (List CV)) (v26 : Nat × Bool × (List CV)) : Option X :=
grd (decide (0 ≤ v6_0.2.2.2.2.2.1)) <|
Option.bind (v6_0.1)[(Int.toNat v6_0.2.2.2.2.2.1)]? fun e27 =>
grd (fitSh (some 2) e27) <|
grd (decide ((v26.1 + (List.length (List.take 1 (List.drop 0 [e27])))) * 32 ≤ 140737488355328)) <|
rec1 (v6_0.1, v6_0.2.1, v6_0.2.2.1, (v26.1 + (List.length (List.take 1 (List.drop 0 [e27])))), v26.2.1, (IntKind.wrap .i64 (v6_0.2.2.2.2.2.1 + 1)), ((List.take v26.1 v26.2.2) ++ (List.take 1 (List.drop 0 [e27]))))
def f47_J2 {X : Type} (R_f40 : f40_R) (k : Nat) (K : Nat × (List CV) → Option X)  (v32 : Nat × (List CV)) : Option X :=
K (v32.1, (List.take (0 + v32.1) v32.2))
def f47_T1 {X : Type} (R_f40 : f40_R) (k : Nat) (K : Nat × (List CV) → Option X)   (rec1 : (List CV) × Int × (List CV) × Nat × Bool × Int × (List CV) → Option X) (v6_0 : (List CV) × Int × (List CV) × Nat × Bool × Int × (List CV)) : Option X :=
(bif (decide (v6_0.2.2.2.2.2.1 < (Nat.cast ((List.length v6_0.1)) : Int))) then
(bif (!v6_0.2.2.2.2.1) then
grd (decide (0 ≤ v6_0.2.2.2.2.2.1)) <|
Option.bind (v6_0.1)[(Int.toNat v6_0.2.2.2.2.2.1)]? fun e28 =>
Option.bind (CV.cell e28 0) fun c29 =>
grd (CV.isI .i64 c29) <|
(bif (decide ((CV.toI c29) > v6_0.2.1)) then
R_f40 _ (fun u30 =>
grd (decide ((v6_0.2.2.2.1 + (List.length (List.take 1 (List.drop 0 [(CV.agg [(CV.int .i64 v6_0.2.1), (CV.slc none (List.take u30.1 (List.drop 0 u30.2)))])])))) * 32 ≤ 140737488355328)) <|
f47_J1 R_f40 k K rec1 v6_0 ((v6_0.2.2.2.1 + (List.length (List.take 1 (List.drop 0 [(CV.agg [(CV.int .i64 v6_0.2.1), (CV.slc none (List.take u30.1 (List.drop 0 u30.2)))])])))), true, ((List.take v6_0.2.2.2.1 v6_0.2.2.2.2.2.2) ++ (List.take 1 (List.drop 0 [(CV.agg [(CV.int .i64 v6_0.2.1), (CV.slc none (List.take u30.1 (List.drop 0 u30.2)))])]))))) (v6_0.2.2.1)
else
f47_J1 R_f40 k K rec1 v6_0 (v6_0.2.2.2.1, v6_0.2.2.2.2.1, v6_0.2.2.2.2.2.2))
else
f47_J1 R_f40 k K rec1 v6_0 (v6_0.2.2.2.1, v6_0.2.2.2.2.1, v6_0.2.2.2.2.2.2))
else
(bif (!v6_0.2.2.2.2.1) then
R_f40 _ (fun u33 =>
grd (decide ((v6_0.2.2.2.1 + (List.length (List.take 1 (List.drop 0 [(CV.agg [(CV.int .i64 v6_0.2.1), (CV.slc none (List.take u33.1 (List.drop 0 u33.2)))])])))) * 32 ≤ 140737488355328)) <|
f47_J2 R_f40 k K ((v6_0.2.2.2.1 + (List.length (List.take 1 (List.drop 0 [(CV.agg [(CV.int .i64 v6_0.2.1), (CV.slc none (List.take u33.1 (List.drop 0 u33.2)))])])))), ((List.take v6_0.2.2.2.1 v6_0.2.2.2.2.2.2) ++ (List.take 1 (List.drop 0 [(CV.agg [(CV.int .i64 v6_0.2.1), (CV.slc none (List.take u33.1 (List.drop 0 u33.2)))])]))))) (v6_0.2.2.1)
else
f47_J2 R_f40 k K (v6_0.2.2.2.1, v6_0.2.2.2.2.2.2)))
def f47_L1 {X : Type} (R_f40 : f40_R) (k : Nat) (K : Nat × (List CV) → Option X)  (rec1 : (List CV) × Int × (List CV) × Nat × Bool × Int × (List CV) → Option X) (v : (List CV) × Int × (List CV) × Nat × Bool × Int × (List CV)) : Option X := f47_T1 R_f40 k K   rec1 v
set_option maxRecDepth 100000 in
theorem f47_L1_ev {X : Type} (R_f40 : f40_R) (hR_f40 : AnsOk Try.prog 40 (f40_cOf R_f40)) (k : Nat) (K : Out → Option X)  (r1 : St → Option X) (v : (List CV) × Int × (List CV) × Nat × Bool × Int × (List CV)) : loopB (f47_cx R_f40 hR_f40) k [.r, .r, .r, .l, .r, .b] (Try.f47.body.getD .skip) (retK (f47_cx R_f40 hR_f40) [] Try.f47.results.toList K) [] r1 (f47_S1 v) = f47_T1 R_f40 k (fun u => K (f47_out u))   (fun v => r1 (f47_S1 v)) v := by kernel_rfl
theorem f47_L1_it {X : Type} (R_f40 : f40_R) (hR_f40 : AnsOk Try.prog 40 (f40_cOf R_f40)) (k : Nat) (K : Out → Option X)  : (fun v => iter (loopB (f47_cx R_f40 hR_f40) k [.r, .r, .r, .l, .r, .b] (Try.f47.body.getD .skip) (retK (f47_cx R_f40 hR_f40) [] Try.f47.results.toList K) []) k (f47_S1 v)) = iterV (f47_L1 R_f40 k (fun u => K (f47_out u)) ) k :=
  iter_map (fun r1 v => (f47_L1_ev R_f40 hR_f40 k K  r1 v).trans rfl) k
def f47_T {X : Type} (R_f40 : f40_R) (k : Nat) (K : Nat × (List CV) → Option X) (loop1 : (List CV) × Int × (List CV) × Nat × Bool × Int × (List CV) → Option X) (x0 : List CV) (x1 : Int) (x2 : List CV) : Option X :=
loop1 (x0, x1, x2, 0, false, 0, [])
/-- "outpost/outpostref08.Add" -/
def f47_A (R_f40 : f40_R) (k : Nat) : f47_R := fun X K x0 x1 x2 => f47_T R_f40 k K (iterV (f47_L1 R_f40 k K) k) x0 x1 x2
set_option maxRecDepth 100000 in
theorem f47_ev' {X : Type} (R_f40 : f40_R) (hR_f40 : AnsOk Try.prog 40 (f40_cOf R_f40)) (k : Nat) (K : Out → Option X) (x0 : List CV) (x1 : Int) (x2 : List CV) : evFn (f47_cx R_f40 hR_f40) [] k Try.f47.ntmps Try.f47.results.toList (Try.f47.body.getD .skip) [(.sl false (some 2) x0), (.v (CV.int .i64 x1)), (.sl false none x2)] [] K = f47_T R_f40 k (fun u => K (f47_out u)) (fun v => iter (loopB (f47_cx R_f40 hR_f40) k [.r, .r, .r, .l, .r, .b] (Try.f47.body.getD .skip) (retK (f47_cx R_f40 hR_f40) [] Try.f47.results.toList K) []) k (f47_S1 v)) x0 x1 x2 := by kernel_rfl
theorem f47_ev {X : Type} (R_f40 : f40_R) (hR_f40 : AnsOk Try.prog 40 (f40_cOf R_f40)) (k : Nat) (K : Out → Option X) (x0 : List CV) (x1 : Int) (x2 : List CV) : evFn (f47_cx R_f40 hR_f40) [] k Try.f47.ntmps Try.f47.results.toList (Try.f47.body.getD .skip) [(.sl false (some 2) x0), (.v (CV.int .i64 x1)), (.sl false none x2)] [] K = f47_A R_f40 k X (fun u => K (f47_out u)) x0 x1 x2 := (f47_ev' R_f40 hR_f40 k K x0 x1 x2).trans (by rw [f47_L1_it R_f40 hR_f40 k K]; rfl)
theorem f47_okA (R_f40 : f40_R) (hR_f40 : AnsOk Try.prog 40 (f40_cOf R_f40)) (k : Nat) : AnsOk Try.prog 47 (f47_cOf (f47_A R_f40 k)) := by
  intro X xs ns K x h
  unfold f47_cOf at h ⊢
  split at h
  · exact ans_main S (f47_Cok R_f40 hR_f40) Try.func47 (ent_of Try.func47 (by kernel_rfl) rfl) rfl (fun X K => f47_ev R_f40 hR_f40 k K _ _ _) h
  · cases h
/-- "outpost/outpostref08.Add" -/
def f47 {X : Type} (k : Nat) (K : Nat × (List CV) → Option X) (x0 : List CV) (x1 : Int) (x2 : List CV) : Option X := f47_A (fun X => @f40 X k) k X K x0 x1 x2
theorem f47_ok (k : Nat) : AnsOk Try.prog 47 (f47_cOf (fun X => @f47 X k)) := f47_okA (fun X => @f40 X k) (f40_ok k) k
end Go.Proofs.YtlgdoglffddjfaaD
