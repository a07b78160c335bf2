/- Functions of the program, as plain Lean functions: each with the proof that the evaluator computes it. (Printed by wip/dec/dec.py.) -/
import Derived.Test.YtkkknhfbcflkfaaTN
import Derived.Test.YtkkknhfbcflkfaaTO
import Derived.Test.YtkkknhfbcflkfaaTR
import Derived.Test.YtkkknhfbcflkfaaProg
import Derived.Test.YtkkknhfbcflkfaaChecked
namespace Go.Proofs.YtkkknhfbcflkfaaD
open Go Go.Proofs.YtkkknhfbcflkfaaS Go.Proofs
set_option linter.unusedVariables false
set_option linter.unusedSimpArgs false
def rows : List (Nat × TI) := [
  (3, ⟨(.int .i64), 1, 8, .v (.int .i64 0)⟩),
  (4, ⟨.bool, 1, 1, .v (.bool false)⟩),
  (5, ⟨(.int .u8), 1, 1, .v (.int .u8 0)⟩),
  (9, ⟨.str, 1, 16, .v (.str ⟨#[]⟩)⟩),
  (22, ⟨(.slice 39), 1, 24, .nil0 (some 4)⟩),
  (25, ⟨(.slice 5), 1, 24, .nil0 none⟩),
  (26, ⟨(.int .i64), 1, 8, .v (.int .i64 0)⟩),
  (39, ⟨(.struct [(0, 3), (1, 3), (2, 25), (3, 22)]), 4, 64, .agg [.v (.int .i64 0), .v (.int .i64 0), .nil0 none, .nil0 (some 4)]⟩),
  (49, ⟨(.ptr 3), 1, 8, .v .nilp⟩),
  (51, ⟨(.ptr 53), 1, 8, .v .nilp⟩),
  (53, ⟨(.struct [(0, 3)]), 1, 8, .v (.agg [(.int .i64 0)])⟩),
  (64, ⟨(.slice 25), 1, 24, .nil0 none⟩)]
set_option maxRecDepth 100000 in
theorem rows_ok : rowsAre Try.prog rows = true := by kernel_rfl
def cmps : List Nat := []
theorem cmps_ok : cmpsAre Try.prog cmps = true := by kernel_rfl
def S : Seat Try.prog := ⟨rows, rows_ok, Try.checked.mixed, cmps, cmps_ok⟩
def md (g : FuncId) (i : Nat) : Nat := (bif Nat.beq g 44 && Nat.beq i 0 then 1 else (bif Nat.beq g 42 && Nat.beq i 0 then 2 else (bif Nat.beq g 40 && Nat.beq i 0 then 1 else (bif Nat.beq g 28 && Nat.beq i 1 then 1 else (bif Nat.beq g 16 && Nat.beq i 0 then 1 else 0)))))
def setRun {X : Type} (e : CV) (j n : Nat) (cs : List CV) (K : CV → Option X) : Option X := match e with
  | .agg ds => grd (Nat.ble (j + n) ds.length) (K (.agg (putRun ds j cs)))
  | _ => none
def setCell {X : Type} (e : CV) (j : Nat) (c : CV) (K : CV → Option X) : Option X := match e with
  | .agg ds => grd (Nat.blt j ds.length) (K (.agg (ds.set j c)))
  | _ => none
abbrev f38_R : Type 1 := (X : Type) → (Bool → Option X) → Int → Int → Option X
def f38_out (u : Bool) : Out := ⟨(.v (CV.bool u)), []⟩
def f38_cOf (R : f38_R) : FnC := fun X xs ns K => match xs, ns with
  | [(.v (CV.int .i64 x0)), (.v (CV.int .i64 x1))], [] => R X (fun u => K (f38_out u)) x0 x1
  | _, _ => none
def f38_plan : Nat → Option (List Nat × List Wk)
  | 0 => some ([0, 1], [])
  | 1 => some ([0, 1], [])
  | 2 => some ([0, 5], [])
  | 3 => some ([0], [])
  | 4 => some ([0, 5], [])
  | 5 => some ([0], [])
  | 6 => some ([0, 5], [])
  | 7 => some ([0], [])
  | 8 => some ([], [])
  | _ => none
def f38_C : Fns := noC
theorem f38_Cok : CsOk Try.prog (f38_C) := noC_ok
def f38_cx : Cx := mkCx (tabOf rows) (f38_C) md (cmpIn cmps) f38_plan (f38_Cok)
def f38_T {X : Type} (k : Nat) (K : Bool → Option X)  (x0 : Int) (x1 : Int) : Option X :=
(bif (x1 == (-1)) then
(bif (x0 == 0) then
K (true)
else
(bif (x0 == 2) then
K (true)
else
K ((x0 == 3))))
else
(bif (x1 == 0) then
(bif (x0 == 2) then
K (true)
else
K ((x0 == 3)))
else
(bif (x1 == 2) then
K ((x0 == 1))
else
K (false))))
/-- "outpost/tlv.inside" -/
def f38_A (k : Nat) : f38_R := fun X K x0 x1 => f38_T k K  x0 x1
set_option maxRecDepth 100000 in
theorem f38_ev' {X : Type} (k : Nat) (K : Out → Option X) (x0 : Int) (x1 : Int) : evFn (f38_cx) [] k Try.f38.ntmps Try.f38.results.toList (Try.f38.body.getD .skip) [(.v (CV.int .i64 x0)), (.v (CV.int .i64 x1))] [] K = f38_T k (fun u => K (f38_out u)) x0 x1 := by kernel_rfl
theorem f38_ev {X : Type} (k : Nat) (K : Out → Option X) (x0 : Int) (x1 : Int) : evFn (f38_cx) [] k Try.f38.ntmps Try.f38.results.toList (Try.f38.body.getD .skip) [(.v (CV.int .i64 x0)), (.v (CV.int .i64 x1))] [] K = f38_A k X (fun u => K (f38_out u)) x0 x1 := (f38_ev' k K x0 x1).trans rfl
theorem f38_okA (k : Nat) : AnsOk Try.prog 38 (f38_cOf (f38_A k)) := by
  intro X xs ns K x h
  unfold f38_cOf at h ⊢
  split at h
  · exact ans_main S (f38_Cok) Try.func38 (ent_of Try.func38 (by kernel_rfl) rfl) rfl (fun X K => f38_ev k K _ _) h
  · cases h
/-- "outpost/tlv.inside" -/
def f38 {X : Type} (k : Nat) (K : Bool → Option X) (x0 : Int) (x1 : Int) : Option X := f38_A k X K x0 x1
theorem f38_ok (k : Nat) : AnsOk Try.prog 38 (f38_cOf (fun X => @f38 X k)) := f38_okA k
abbrev f34_R : Type 1 := (X : Type) → (Bool → Option X) → Int → Option X
def f34_out (u : Bool) : Out := ⟨(.v (CV.bool u)), []⟩
def f34_cOf (R : f34_R) : FnC := fun X xs ns K => match xs, ns with
  | [(.v (CV.int .i64 x0))], [] => R X (fun u => K (f34_out u)) x0
  | _, _ => none
def f34_plan : Nat → Option (List Nat × List Wk)
  | 0 => some ([0], [])
  | 1 => some ([0], [])
  | _ => none
def f34_C : Fns := noC
theorem f34_Cok : CsOk Try.prog (f34_C) := noC_ok
def f34_cx : Cx := mkCx (tabOf rows) (f34_C) md (cmpIn cmps) f34_plan (f34_Cok)
def f34_T {X : Type} (k : Nat) (K : Bool → Option X)  (x0 : Int) : Option X :=
(bif (x0 == 0) then
K (true)
else
K ((x0 == 2)))
/-- "outpost/tlv.holds" -/
def f34_A (k : Nat) : f34_R := fun X K x0 => f34_T k K  x0
set_option maxRecDepth 100000 in
theorem f34_ev' {X : Type} (k : Nat) (K : Out → Option X) (x0 : Int) : evFn (f34_cx) [] k Try.f34.ntmps Try.f34.results.toList (Try.f34.body.getD .skip) [(.v (CV.int .i64 x0))] [] K = f34_T k (fun u => K (f34_out u)) x0 := by kernel_rfl
theorem f34_ev {X : Type} (k : Nat) (K : Out → Option X) (x0 : Int) : evFn (f34_cx) [] k Try.f34.ntmps Try.f34.results.toList (Try.f34.body.getD .skip) [(.v (CV.int .i64 x0))] [] K = f34_A k X (fun u => K (f34_out u)) x0 := (f34_ev' k K x0).trans rfl
theorem f34_okA (k : Nat) : AnsOk Try.prog 34 (f34_cOf (f34_A k)) := by
  intro X xs ns K x h
  unfold f34_cOf at h ⊢
  split at h
  · exact ans_main S (f34_Cok) Try.func34 (ent_of Try.func34 (by kernel_rfl) rfl) rfl (fun X K => f34_ev k K _) h
  · cases h
/-- "outpost/tlv.holds" -/
def f34 {X : Type} (k : Nat) (K : Bool → Option X) (x0 : Int) : Option X := f34_A k X K x0
theorem f34_ok (k : Nat) : AnsOk Try.prog 34 (f34_cOf (fun X => @f34 X k)) := f34_okA k
abbrev f26_R : Type 1 := (X : Type) → (Bool × Int → Option X) → (List CV) → Int → Int → Option X
def f26_out (u : Bool × Int) : Out := ⟨(.v (CV.bool u.1)), [([1002], (.obj [(.v (CV.int .i64 u.2))]))]⟩
def f26_cOf (R : f26_R) : FnC := fun X xs ns K => match xs, ns with
  | [(.sl false (some 4) x0), (.v (CV.int .i64 x1)), (.ptr [1002] 0 0 0)], [([1002], (.obj [(.v (CV.int .i64 x2))]))] => R X (fun u => K (f26_out u)) x0 x1 x2
  | _, _ => none
def f26_plan : Nat → Option (List Nat × List Wk)
  | 0 => some ([0, 1, 2], [])
  | 1 => some ([0, 1, 2], [])
  | 2 => some ([1, 2, 9, 10, 11], [])
  | 3 => some ([1, 2, 9, 10, 11], [])
  | 4 => some ([1, 2, 8, 9, 10, 11], [])
  | 5 => some ([1, 2, 8, 9, 10, 11], [])
  | 6 => some ([], [])
  | 7 => some ([1, 2, 8, 9, 10, 11], [])
  | 8 => some ([], [])
  | 9 => some ([1, 2, 9, 10, 11], [])
  | 10 => some ([], [])
  | _ => none
def f26_C (R_f38 : f38_R) (R_f34 : f34_R) (R_f26 : f26_R) : Fns := (orC 26 (f26_cOf R_f26) (orC 34 (f34_cOf R_f34) (orC 38 (f38_cOf R_f38) noC)))
theorem f26_Cok (R_f38 : f38_R) (R_f34 : f34_R) (R_f26 : f26_R) (hR_f38 : AnsOk Try.prog 38 (f38_cOf R_f38)) (hR_f34 : AnsOk Try.prog 34 (f34_cOf R_f34)) (hR_f26 : AnsOk Try.prog 26 (f26_cOf R_f26)) : CsOk Try.prog (f26_C R_f38 R_f34 R_f26) := (orC_ok hR_f26 (orC_ok hR_f34 (orC_ok hR_f38 noC_ok)))
def f26_cx (R_f38 : f38_R) (R_f34 : f34_R) (R_f26 : f26_R) (hR_f38 : AnsOk Try.prog 38 (f38_cOf R_f38)) (hR_f34 : AnsOk Try.prog 34 (f34_cOf R_f34)) (hR_f26 : AnsOk Try.prog 26 (f26_cOf R_f26)) : Cx := mkCx (tabOf rows) (f26_C R_f38 R_f34 R_f26) md (cmpIn cmps) f26_plan (f26_Cok R_f38 R_f34 R_f26 hR_f38 hR_f34 hR_f26)
def f26_S1 (v : Int × (List CV) × Int × Int × Int) : St := ⟨[.undef, (.v (CV.int .i64 v.1)), (.ptr [1002] 0 0 0), .undef, .undef, .undef, .undef, .undef, .undef, (.sl false (some 4) v.2.1), (.v (CV.int .i64 v.2.2.1)), (.v (CV.int .i64 v.2.2.2.1)), .undef, .undef, .undef, .undef, .undef, .undef, .undef, .undef, .undef, .undef, .undef, .undef, .undef, .undef, .undef, .undef, .undef, .undef, .undef, .undef, .undef, .undef, .undef, .undef, .undef, .undef, .undef, .undef, .undef, .undef, .undef, .undef, .undef, .undef, .undef, .undef, .undef, .undef, .undef, .undef, .undef, .undef, .undef, .undef, .undef, .undef, .undef, .undef, .undef, .undef, .undef, .undef, .undef, .undef, .undef, .undef, .undef, .undef, .undef, .undef], [([1002], (.obj [(.v (CV.int .i64 v.2.2.2.2))]))]⟩
def f26_J1 {X : Type} (R_f38 : f38_R) (R_f34 : f34_R) (R_f26 : f26_R) (k : Nat) (K : Bool × Int → Option X) (rec1 : Int × (List CV) × Int × Int × Int → Option X) (v4_0 : Int × (List CV) × Int × Int × Int) (v32 : Int) : Option X :=
rec1 (v4_0.1, v4_0.2.1, v4_0.2.2.1, (IntKind.wrap .i64 (v4_0.2.2.2.1 + 1)), v32)
def f26_T1 {X : Type} (R_f38 : f38_R) (R_f34 : f34_R) (R_f26 : f26_R) (k : Nat) (K : Bool × Int → Option X)   (rec1 : Int × (List CV) × Int × Int × Int → Option X) (v4_0 : Int × (List CV) × Int × Int × Int) : Option X :=
(bif (decide (v4_0.2.2.2.1 < v4_0.2.2.1)) then
grd (decide (0 ≤ v4_0.2.2.2.1)) <|
Option.bind (v4_0.2.1)[(Int.toNat v4_0.2.2.2.1)]? fun e33 =>
grd (CV.isA 4 e33) <|
grd (CV.isI .i64 (CV.cellD 0 e33)) <|
grd (CV.isI .i64 (CV.cellD 1 e33)) <|
grd (CV.isL none (CV.cellD 2 e33)) <|
grd (CV.isL (some 4) (CV.cellD 3 e33)) <|
(bif (decide ((IntKind.wrap .i64 (v4_0.2.2.2.2 - 1)) < 0)) then
K (false, (IntKind.wrap .i64 (v4_0.2.2.2.2 - 1)))
else
R_f38 _ (fun u35 =>
(bif (!u35) then
K (false, (IntKind.wrap .i64 (v4_0.2.2.2.2 - 1)))
else
(bif (decide ((CV.toI (CV.cellD 1 e33)) < 0)) then
K (false, (IntKind.wrap .i64 (v4_0.2.2.2.2 - 1)))
else
(bif (decide ((CV.toI (CV.cellD 1 e33)) > 65535)) then
K (false, (IntKind.wrap .i64 (v4_0.2.2.2.2 - 1)))
else
R_f34 _ (fun u36 =>
(bif u36 then
(bif (decide ((Nat.cast ((List.length (CV.toL (CV.cellD 2 e33)))) : Int) > 0)) then
K (false, (IntKind.wrap .i64 (v4_0.2.2.2.2 - 1)))
else
R_f34 _ (fun u37 =>
(bif (!u37) then
(bif (decide ((Nat.cast ((List.length (CV.toL (CV.cellD 3 e33)))) : Int) > 0)) then
K (false, (IntKind.wrap .i64 (v4_0.2.2.2.2 - 1)))
else
R_f26 _ (fun u38 =>
(bif (!u38.1) then
K (false, u38.2)
else
f26_J1 R_f38 R_f34 R_f26 k K rec1 v4_0 (u38.2))) ((CV.toL (CV.cellD 3 e33))) ((CV.toI (CV.cellD 0 e33))) ((IntKind.wrap .i64 (v4_0.2.2.2.2 - 1))))
else
R_f26 _ (fun u39 =>
(bif (!u39.1) then
K (false, u39.2)
else
f26_J1 R_f38 R_f34 R_f26 k K rec1 v4_0 (u39.2))) ((CV.toL (CV.cellD 3 e33))) ((CV.toI (CV.cellD 0 e33))) ((IntKind.wrap .i64 (v4_0.2.2.2.2 - 1))))) ((CV.toI (CV.cellD 0 e33))))
else
R_f34 _ (fun u40 =>
(bif (!u40) then
(bif (decide ((Nat.cast ((List.length (CV.toL (CV.cellD 3 e33)))) : Int) > 0)) then
K (false, (IntKind.wrap .i64 (v4_0.2.2.2.2 - 1)))
else
R_f26 _ (fun u41 =>
(bif (!u41.1) then
K (false, u41.2)
else
f26_J1 R_f38 R_f34 R_f26 k K rec1 v4_0 (u41.2))) ((CV.toL (CV.cellD 3 e33))) ((CV.toI (CV.cellD 0 e33))) ((IntKind.wrap .i64 (v4_0.2.2.2.2 - 1))))
else
R_f26 _ (fun u42 =>
(bif (!u42.1) then
K (false, u42.2)
else
f26_J1 R_f38 R_f34 R_f26 k K rec1 v4_0 (u42.2))) ((CV.toL (CV.cellD 3 e33))) ((CV.toI (CV.cellD 0 e33))) ((IntKind.wrap .i64 (v4_0.2.2.2.2 - 1))))) ((CV.toI (CV.cellD 0 e33))))) ((CV.toI (CV.cellD 0 e33))))))) ((CV.toI (CV.cellD 0 e33))) (v4_0.1))
else
K (true, v4_0.2.2.2.2))
def f26_L1 {X : Type} (R_f38 : f38_R) (R_f34 : f34_R) (R_f26 : f26_R) (k : Nat) (K : Bool × Int → Option X)  (rec1 : Int × (List CV) × Int × Int × Int → Option X) (v : Int × (List CV) × Int × Int × Int) : Option X := f26_T1 R_f38 R_f34 R_f26 k K   rec1 v
set_option maxRecDepth 100000 in
theorem f26_L1_ev {X : Type} (R_f38 : f38_R) (R_f34 : f34_R) (R_f26 : f26_R) (hR_f38 : AnsOk Try.prog 38 (f38_cOf R_f38)) (hR_f34 : AnsOk Try.prog 34 (f34_cOf R_f34)) (hR_f26 : AnsOk Try.prog 26 (f26_cOf R_f26)) (k : Nat) (K : Out → Option X)  (r1 : St → Option X) (v : Int × (List CV) × Int × Int × Int) : loopB (f26_cx R_f38 R_f34 R_f26 hR_f38 hR_f34 hR_f26) k [.r, .l, .r, .b] (Try.f26.body.getD .skip) (retK (f26_cx R_f38 R_f34 R_f26 hR_f38 hR_f34 hR_f26) [] Try.f26.results.toList K) [] r1 (f26_S1 v) = f26_T1 R_f38 R_f34 R_f26 k (fun u => K (f26_out u))   (fun v => r1 (f26_S1 v)) v := by kernel_rfl
theorem f26_L1_it {X : Type} (R_f38 : f38_R) (R_f34 : f34_R) (R_f26 : f26_R) (hR_f38 : AnsOk Try.prog 38 (f38_cOf R_f38)) (hR_f34 : AnsOk Try.prog 34 (f34_cOf R_f34)) (hR_f26 : AnsOk Try.prog 26 (f26_cOf R_f26)) (k : Nat) (K : Out → Option X)  : (fun v => iter (loopB (f26_cx R_f38 R_f34 R_f26 hR_f38 hR_f34 hR_f26) k [.r, .l, .r, .b] (Try.f26.body.getD .skip) (retK (f26_cx R_f38 R_f34 R_f26 hR_f38 hR_f34 hR_f26) [] Try.f26.results.toList K) []) k (f26_S1 v)) = iterV (f26_L1 R_f38 R_f34 R_f26 k (fun u => K (f26_out u)) ) k :=
  iter_map (fun r1 v => (f26_L1_ev R_f38 R_f34 R_f26 hR_f38 hR_f34 hR_f26 k K  r1 v).trans rfl) k
def f26_T {X : Type} (R_f38 : f38_R) (R_f34 : f34_R) (R_f26 : f26_R) (k : Nat) (K : Bool × Int → Option X) (loop1 : Int × (List CV) × Int × Int × Int → Option X) (x0 : List CV) (x1 : Int) (x2 : Int) : Option X :=
loop1 (x1, x0, (Nat.cast ((List.length x0)) : Int), 0, x2)
/-- "outpost/tlv.right" -/
def f26_A (R_f38 : f38_R) (R_f34 : f34_R) (R_f26 : f26_R) (k : Nat) : f26_R := fun X K x0 x1 x2 => f26_T R_f38 R_f34 R_f26 k K (iterV (f26_L1 R_f38 R_f34 R_f26 k K) k) x0 x1 x2
set_option maxRecDepth 100000 in
theorem f26_ev' {X : Type} (R_f38 : f38_R) (R_f34 : f34_R) (R_f26 : f26_R) (hR_f38 : AnsOk Try.prog 38 (f38_cOf R_f38)) (hR_f34 : AnsOk Try.prog 34 (f34_cOf R_f34)) (hR_f26 : AnsOk Try.prog 26 (f26_cOf R_f26)) (k : Nat) (K : Out → Option X) (x0 : List CV) (x1 : Int) (x2 : Int) : evFn (f26_cx R_f38 R_f34 R_f26 hR_f38 hR_f34 hR_f26) [] k Try.f26.ntmps Try.f26.results.toList (Try.f26.body.getD .skip) [(.sl false (some 4) x0), (.v (CV.int .i64 x1)), (.ptr [1002] 0 0 0)] [([1002], (.obj [(.v (CV.int .i64 x2))]))] K = f26_T R_f38 R_f34 R_f26 k (fun u => K (f26_out u)) (fun v => iter (loopB (f26_cx R_f38 R_f34 R_f26 hR_f38 hR_f34 hR_f26) k [.r, .l, .r, .b] (Try.f26.body.getD .skip) (retK (f26_cx R_f38 R_f34 R_f26 hR_f38 hR_f34 hR_f26) [] Try.f26.results.toList K) []) k (f26_S1 v)) x0 x1 x2 := by kernel_rfl
theorem f26_ev {X : Type} (R_f38 : f38_R) (R_f34 : f34_R) (R_f26 : f26_R) (hR_f38 : AnsOk Try.prog 38 (f38_cOf R_f38)) (hR_f34 : AnsOk Try.prog 34 (f34_cOf R_f34)) (hR_f26 : AnsOk Try.prog 26 (f26_cOf R_f26)) (k : Nat) (K : Out → Option X) (x0 : List CV) (x1 : Int) (x2 : Int) : evFn (f26_cx R_f38 R_f34 R_f26 hR_f38 hR_f34 hR_f26) [] k Try.f26.ntmps Try.f26.results.toList (Try.f26.body.getD .skip) [(.sl false (some 4) x0), (.v (CV.int .i64 x1)), (.ptr [1002] 0 0 0)] [([1002], (.obj [(.v (CV.int .i64 x2))]))] K = f26_A R_f38 R_f34 R_f26 k X (fun u => K (f26_out u)) x0 x1 x2 := (f26_ev' R_f38 R_f34 R_f26 hR_f38 hR_f34 hR_f26 k K x0 x1 x2).trans (by rw [f26_L1_it R_f38 R_f34 R_f26 hR_f38 hR_f34 hR_f26 k K]; rfl)
theorem f26_okA (R_f38 : f38_R) (R_f34 : f34_R) (R_f26 : f26_R) (hR_f38 : AnsOk Try.prog 38 (f38_cOf R_f38)) (hR_f34 : AnsOk Try.prog 34 (f34_cOf R_f34)) (hR_f26 : AnsOk Try.prog 26 (f26_cOf R_f26)) (k : Nat) : AnsOk Try.prog 26 (f26_cOf (f26_A R_f38 R_f34 R_f26 k)) := by
  intro X xs ns K x h
  unfold f26_cOf at h ⊢
  split at h
  · exact ans_main S (f26_Cok R_f38 R_f34 R_f26 hR_f38 hR_f34 hR_f26) Try.func26 (ent_of Try.func26 (by kernel_rfl) rfl) rfl (fun X K => f26_ev R_f38 R_f34 R_f26 hR_f38 hR_f34 hR_f26 k K _ _ _) h
  · cases h
def f26_r : Nat → f26_R
  | 0 => fun _ _ _ _ _ => none
  | k + 1 => f26_A (fun X => @f38 X k) (fun X => @f34 X k) (f26_r k) k
theorem f26_okr : ∀ k, AnsOk Try.prog 26 (f26_cOf (f26_r k))
  | 0 => by
    intro X xs ns K x h
    unfold f26_cOf at h
    split at h <;> cases h
  | k + 1 => f26_okA (fun X => @f38 X k) (fun X => @f34 X k) (f26_r k) (f38_ok k) (f34_ok k) (f26_okr k) k
def f26 {X : Type} (k : Nat) (K : Bool × Int → Option X) (x0 : List CV) (x1 : Int) (x2 : Int) : Option X := f26_r k X K x0 x1 x2
theorem f26_ok (k : Nat) : AnsOk Try.prog 26 (f26_cOf (fun X => @f26 X k)) := f26_okr k
abbrev f13_R : Type 1 := (X : Type) → (Bool → Option X) → (List CV) → Option X
def f13_out (u : Bool) : Out := ⟨(.v (CV.bool u)), []⟩
def f13_cOf (R : f13_R) : FnC := fun X xs ns K => match xs, ns with
  | [(.sl false (some 4) x0)], [] => R X (fun u => K (f13_out u)) x0
  | _, _ => none
def f13_plan : Nat → Option (List Nat × List Wk)
  | 0 => some ([0], [])
  | 1 => some ([0], [])
  | 2 => some ([0, 3], [])
  | _ => none
def f13_C (R_f26 : f26_R) : Fns := (orC 26 (f26_cOf R_f26) noC)
theorem f13_Cok (R_f26 : f26_R) (hR_f26 : AnsOk Try.prog 26 (f26_cOf R_f26)) : CsOk Try.prog (f13_C R_f26) := (orC_ok hR_f26 noC_ok)
def f13_cx (R_f26 : f26_R) (hR_f26 : AnsOk Try.prog 26 (f26_cOf R_f26)) : Cx := mkCx (tabOf rows) (f13_C R_f26) md (cmpIn cmps) f13_plan (f13_Cok R_f26 hR_f26)
def f13_T {X : Type} (R_f26 : f26_R) (k : Nat) (K : Bool → Option X)  (x0 : List CV) : Option X :=
R_f26 _ (fun u1 =>
K (u1.1)) (x0) ((-1)) (64)
/-- "outpost/tlv.Right" -/
def f13_A (R_f26 : f26_R) (k : Nat) : f13_R := fun X K x0 => f13_T R_f26 k K  x0
set_option maxRecDepth 100000 in
theorem f13_ev' {X : Type} (R_f26 : f26_R) (hR_f26 : AnsOk Try.prog 26 (f26_cOf R_f26)) (k : Nat) (K : Out → Option X) (x0 : List CV) : evFn (f13_cx R_f26 hR_f26) [] k Try.f13.ntmps Try.f13.results.toList (Try.f13.body.getD .skip) [(.sl false (some 4) x0)] [] K = f13_T R_f26 k (fun u => K (f13_out u)) x0 := by kernel_rfl
theorem f13_ev {X : Type} (R_f26 : f26_R) (hR_f26 : AnsOk Try.prog 26 (f26_cOf R_f26)) (k : Nat) (K : Out → Option X) (x0 : List CV) : evFn (f13_cx R_f26 hR_f26) [] k Try.f13.ntmps Try.f13.results.toList (Try.f13.body.getD .skip) [(.sl false (some 4) x0)] [] K = f13_A R_f26 k X (fun u => K (f13_out u)) x0 := (f13_ev' R_f26 hR_f26 k K x0).trans rfl
theorem f13_okA (R_f26 : f26_R) (hR_f26 : AnsOk Try.prog 26 (f26_cOf R_f26)) (k : Nat) : AnsOk Try.prog 13 (f13_cOf (f13_A R_f26 k)) := by
  intro X xs ns K x h
  unfold f13_cOf at h ⊢
  split at h
  · exact ans_main S (f13_Cok R_f26 hR_f26) Try.func13 (ent_of Try.func13 (by kernel_rfl) rfl) rfl (fun X K => f13_ev R_f26 hR_f26 k K _) h
  · cases h
/-- "outpost/tlv.Right" -/
def f13 {X : Type} (k : Nat) (K : Bool → Option X) (x0 : List CV) : Option X := f13_A (fun X => @f26 X k) k X K x0
theorem f13_ok (k : Nat) : AnsOk Try.prog 13 (f13_cOf (fun X => @f13 X k)) := f13_okA (fun X => @f26 X k) (f26_ok k) k
abbrev f43_R : Type 1 := (X : Type) → (Nat × (List CV) → Option X) → Int → Option X
def f43_out (u : Nat × (List CV)) : Out := ⟨(.osl [2000] none 0 u.1), [([2000], (.row false none u.2))]⟩
def f43_cOf (R : f43_R) : FnC := fun X xs ns K => match xs, ns with
  | [(.v (CV.int .i64 x0))], [] => R X (fun u => K (f43_out u)) x0
  | _, _ => none
def f43_plan : Nat → Option (List Nat × List Wk)
  | 0 => some ([0], [])
  | 1 => some ([0], [])
  | 2 => some ([0], [])
  | 3 => some ([0], [])
  | _ => none
def f43_C : Fns := noC
theorem f43_Cok : CsOk Try.prog (f43_C) := noC_ok
def f43_cx : Cx := mkCx (tabOf rows) (f43_C) md (cmpIn cmps) f43_plan (f43_Cok)
def f43_T {X : Type} (k : Nat) (K : Nat × (List CV) → Option X)  (x0 : Int) : Option X :=
(bif (decide (x0 > 255)) then
K (2, (List.take 2 [(CV.int .u8 (IntKind.wrap .u8 (Int.fdiv x0 (2 ^ 8)))), (CV.int .u8 (IntKind.wrap .u8 x0))]))
else
K (1, (List.take 1 [(CV.int .u8 (IntKind.wrap .u8 x0))])))
/-- "outpost/tlv.tail" -/
def f43_A (k : Nat) : f43_R := fun X K x0 => f43_T k K  x0
set_option maxRecDepth 100000 in
theorem f43_ev' {X : Type} (k : Nat) (K : Out → Option X) (x0 : Int) : evFn (f43_cx) [] k Try.f43.ntmps Try.f43.results.toList (Try.f43.body.getD .skip) [(.v (CV.int .i64 x0))] [] K = f43_T k (fun u => K (f43_out u)) x0 := by kernel_rfl
theorem f43_ev {X : Type} (k : Nat) (K : Out → Option X) (x0 : Int) : evFn (f43_cx) [] k Try.f43.ntmps Try.f43.results.toList (Try.f43.body.getD .skip) [(.v (CV.int .i64 x0))] [] K = f43_A k X (fun u => K (f43_out u)) x0 := (f43_ev' k K x0).trans rfl
theorem f43_okA (k : Nat) : AnsOk Try.prog 43 (f43_cOf (f43_A k)) := by
  intro X xs ns K x h
  unfold f43_cOf at h ⊢
  split at h
  · exact ans_main S (f43_Cok) Try.func43 (ent_of Try.func43 (by kernel_rfl) rfl) rfl (fun X K => f43_ev k K _) h
  · cases h
/-- "outpost/tlv.tail" -/
def f43 {X : Type} (k : Nat) (K : Nat × (List CV) → Option X) (x0 : Int) : Option X := f43_A k X K x0
theorem f43_ok (k : Nat) : AnsOk Try.prog 43 (f43_cOf (fun X => @f43 X k)) := f43_okA k
abbrev f42_R : Type 1 := (X : Type) → ((List CV) → Option X) → Int → Option X
def f42_out (u : (List CV)) : Out := ⟨(.osl [2000] none 0 0), [([2000], (.row false none u))]⟩
def f42_cOf (R : f42_R) : FnC := fun X xs ns K => match xs, ns with
  | [(.nil0 none), (.v (CV.int .i64 x0))], [] => R X (fun u => K (f42_out u)) x0
  | _, _ => none
def f42_plan : Nat → Option (List Nat × List Wk)
  | 0 => some ([0, 1], [])
  | 1 => some ([0, 1], [])
  | 2 => some ([0, 1], [])
  | 3 => some ([0, 1], [])
  | 4 => some ([0, 1], [])
  | 5 => some ([0, 1], [])
  | 6 => some ([0], [⟨0, [], some [0]⟩])
  | _ => none
def f42_C : Fns := noC
theorem f42_Cok : CsOk Try.prog (f42_C) := noC_ok
def f42_cx : Cx := mkCx (tabOf rows) (f42_C) md (cmpIn cmps) f42_plan (f42_Cok)
def f42_J1 {X : Type} (k : Nat) (K : (List CV) → Option X)  (v1 : (List CV)) : Option X :=
K ((List.take 0 v1))
def f42_T {X : Type} (k : Nat) (K : (List CV) → Option X)  (x0 : Int) : Option X :=
(bif (decide (x0 < 0)) then
none
else
(bif (decide ((IntKind.wrap .i64 (x0 - 0)) > 0)) then
grd (decide (0 ≤ (IntKind.wrap .i64 (x0 - 0)))) <|
grd (decide (((IntKind.wrap .i64 (x0 - 0)) * 1) ≤ 140737488355328)) <|
grd (decide (0 ≤ ((Nat.cast ((List.length (List.replicate (Int.toNat (IntKind.wrap .i64 (x0 - 0))) (CV.int .u8 0)))) : Int) - 0))) <|
f42_J1 k K ((List.replicate (Int.toNat (IntKind.wrap .i64 (x0 - 0))) (CV.int .u8 0)))
else
f42_J1 k K ([])))
/-- "slices.Grow[[]byte,byte]" -/
def f42_A (k : Nat) : f42_R := fun X K x0 => f42_T k K  x0
set_option maxRecDepth 100000 in
theorem f42_ev' {X : Type} (k : Nat) (K : Out → Option X) (x0 : Int) : evFn (f42_cx) [] k Try.f42.ntmps Try.f42.results.toList (Try.f42.body.getD .skip) [(.nil0 none), (.v (CV.int .i64 x0))] [] K = f42_T k (fun u => K (f42_out u)) x0 := by kernel_rfl
theorem f42_ev {X : Type} (k : Nat) (K : Out → Option X) (x0 : Int) : evFn (f42_cx) [] k Try.f42.ntmps Try.f42.results.toList (Try.f42.body.getD .skip) [(.nil0 none), (.v (CV.int .i64 x0))] [] K = f42_A k X (fun u => K (f42_out u)) x0 := (f42_ev' k K x0).trans rfl
theorem f42_okA (k : Nat) : AnsOk Try.prog 42 (f42_cOf (f42_A k)) := by
  intro X xs ns K x h
  unfold f42_cOf at h ⊢
  split at h
  · exact ans_main S (f42_Cok) Try.func42 (ent_of Try.func42 (by kernel_rfl) rfl) rfl (fun X K => f42_ev k K _) h
  · cases h
/-- "slices.Grow[[]byte,byte]" -/
def f42 {X : Type} (k : Nat) (K : (List CV) → Option X) (x0 : Int) : Option X := f42_A k X K x0
theorem f42_ok (k : Nat) : AnsOk Try.prog 42 (f42_cOf (fun X => @f42 X k)) := f42_okA k
abbrev f35_R : Type 1 := (X : Type) → (Nat × (List CV) → Option X) → (List CV) → Option X
def f35_out (u : Nat × (List CV)) : Out := ⟨(.osl [2000] none 0 u.1), [([2000], (.row false none u.2))]⟩
def f35_cOf (R : f35_R) : FnC := fun X xs ns K => match xs, ns with
  | [(.sl false none x0)], [] => R X (fun u => K (f35_out u)) x0
  | _, _ => none
def f35_plan : Nat → Option (List Nat × List Wk)
  | 0 => some ([0], [])
  | 1 => some ([0], [])
  | 2 => some ([0, 3], [])
  | 3 => some ([0, 3, 9, 10, 11], [])
  | 4 => some ([0, 3, 9, 10, 11], [])
  | 5 => some ([0, 3, 5, 9, 10, 11], [])
  | 6 => some ([0, 3, 9, 10, 11], [])
  | 7 => some ([0, 3, 9, 10, 11], [])
  | 8 => some ([0, 3, 9, 10, 11], [])
  | 9 => some ([0, 3], [])
  | 10 => some ([0, 6], [])
  | 11 => some ([6, 25, 26, 27], [])
  | 12 => some ([6, 25, 26, 27], [])
  | 13 => some ([6, 8, 25, 26, 27], [])
  | 14 => some ([6, 25, 26, 27], [])
  | 15 => some ([6], [])
  | _ => none
def f35_C (R_f42 : f42_R) : Fns := (orC 42 (f42_cOf R_f42) noC)
theorem f35_Cok (R_f42 : f42_R) (hR_f42 : AnsOk Try.prog 42 (f42_cOf R_f42)) : CsOk Try.prog (f35_C R_f42) := (orC_ok hR_f42 noC_ok)
def f35_cx (R_f42 : f42_R) (hR_f42 : AnsOk Try.prog 42 (f42_cOf R_f42)) : Cx := mkCx (tabOf rows) (f35_C R_f42) md (cmpIn cmps) f35_plan (f35_Cok R_f42 hR_f42)
def f35_S1 (v : (List CV) × Int × (List CV) × Int × Int) : St := ⟨[(.sl false none v.1), .undef, .undef, (.v (CV.int .i64 v.2.1)), .undef, .undef, .undef, .undef, .undef, (.sl false none v.2.2.1), (.v (CV.int .i64 v.2.2.2.1)), (.v (CV.int .i64 v.2.2.2.2)), .undef, .undef, .undef, .undef, .undef, .undef, .undef, .undef, .undef, .undef, .undef, .undef, .undef, .undef, .undef, .undef, .undef, .undef, .undef, .undef, .undef, .undef, .undef, .undef], []⟩
def f35_S2 (v : Nat × (List CV) × Int × Int × (List CV)) : St := ⟨[.undef, .undef, .undef, .undef, .undef, .undef, (.osl [6] none 0 v.1), .undef, .undef, .undef, .undef, .undef, .undef, .undef, .undef, .undef, .undef, .undef, .undef, .undef, .undef, .undef, .undef, .undef, .undef, (.sl false none v.2.1), (.v (CV.int .i64 v.2.2.1)), (.v (CV.int .i64 v.2.2.2.1)), .undef, .undef, .undef, .undef, .undef, .undef, .undef, .undef], [([6], (.row false none v.2.2.2.2))]⟩
def f35_T2 {X : Type} (R_f42 : f42_R) (k : Nat) (K : Nat × (List CV) → Option X)   (rec2 : Nat × (List CV) × Int × Int × (List CV) → Option X) (v7_6 : Nat × (List CV) × Int × Int × (List CV)) : Option X :=
(bif (decide (v7_6.2.2.2.1 < v7_6.2.2.1)) then
grd (decide (0 ≤ v7_6.2.2.2.1)) <|
Option.bind (v7_6.2.1)[(Int.toNat v7_6.2.2.2.1)]? fun e11 =>
grd (CV.isL none e11) <|
grd (decide ((v7_6.1 + (List.length (CV.toL e11))) * 1 ≤ 140737488355328)) <|
rec2 ((v7_6.1 + (List.length (CV.toL e11))), v7_6.2.1, v7_6.2.2.1, (IntKind.wrap .i64 (v7_6.2.2.2.1 + 1)), ((List.take v7_6.1 v7_6.2.2.2.2) ++ (CV.toL e11)))
else
K (v7_6.1, (List.take (0 + v7_6.1) v7_6.2.2.2.2)))
def f35_L2 {X : Type} (R_f42 : f42_R) (k : Nat) (K : Nat × (List CV) → Option X)  (rec2 : Nat × (List CV) × Int × Int × (List CV) → Option X) (v : Nat × (List CV) × Int × Int × (List CV)) : Option X := f35_T2 R_f42 k K   rec2 v
set_option maxRecDepth 100000 in
theorem f35_L2_ev {X : Type} (R_f42 : f42_R) (hR_f42 : AnsOk Try.prog 42 (f42_cOf R_f42)) (k : Nat) (K : Out → Option X)  (r2 : St → Option X) (v : Nat × (List CV) × Int × Int × (List CV)) : loopB (f35_cx R_f42 hR_f42) k [.r, .r, .r, .r, .l, .r, .b] (Try.f35.body.getD .skip) (retK (f35_cx R_f42 hR_f42) [] Try.f35.results.toList K) [] r2 (f35_S2 v) = f35_T2 R_f42 k (fun u => K (f35_out u))   (fun v => r2 (f35_S2 v)) v := by kernel_rfl
theorem f35_L2_it {X : Type} (R_f42 : f42_R) (hR_f42 : AnsOk Try.prog 42 (f42_cOf R_f42)) (k : Nat) (K : Out → Option X)  : (fun v => iter (loopB (f35_cx R_f42 hR_f42) k [.r, .r, .r, .r, .l, .r, .b] (Try.f35.body.getD .skip) (retK (f35_cx R_f42 hR_f42) [] Try.f35.results.toList K) []) k (f35_S2 v)) = iterV (f35_L2 R_f42 k (fun u => K (f35_out u)) ) k :=
  iter_map (fun r2 v => (f35_L2_ev R_f42 hR_f42 k K  r2 v).trans rfl) k
def f35_T1 {X : Type} (R_f42 : f42_R) (k : Nat) (K : Nat × (List CV) → Option X)  (loop2 : Nat × (List CV) × Int × Int × (List CV) → Option X) (rec1 : (List CV) × Int × (List CV) × Int × Int → Option X) (v5_0 : (List CV) × Int × (List CV) × Int × Int) : Option X :=
(bif (decide (v5_0.2.2.2.2 < v5_0.2.2.2.1)) then
grd (decide (0 ≤ v5_0.2.2.2.2)) <|
Option.bind (v5_0.2.2.1)[(Int.toNat v5_0.2.2.2.2)]? fun e5 =>
grd (CV.isL none e5) <|
(bif (decide ((IntKind.wrap .i64 (v5_0.2.1 + (Nat.cast ((List.length (CV.toL e5))) : Int))) < 0)) then
none
else
rec1 (v5_0.1, (IntKind.wrap .i64 (v5_0.2.1 + (Nat.cast ((List.length (CV.toL e5))) : Int))), v5_0.2.2.1, v5_0.2.2.2.1, (IntKind.wrap .i64 (v5_0.2.2.2.2 + 1))))
else
R_f42 _ (fun u6 =>
loop2 (0, v5_0.1, (Nat.cast ((List.length v5_0.1)) : Int), 0, u6)) (v5_0.2.1))
def f35_L1 {X : Type} (R_f42 : f42_R) (k : Nat) (K : Nat × (List CV) → Option X)  (rec1 : (List CV) × Int × (List CV) × Int × Int → Option X) (v : (List CV) × Int × (List CV) × Int × Int) : Option X := f35_T1 R_f42 k K  (iterV (f35_L2 R_f42 k K ) k) rec1 v
set_option maxRecDepth 100000 in
theorem f35_L1_ev {X : Type} (R_f42 : f42_R) (hR_f42 : AnsOk Try.prog 42 (f42_cOf R_f42)) (k : Nat) (K : Out → Option X)  (r1 : St → Option X) (v : (List CV) × Int × (List CV) × Int × Int) : loopB (f35_cx R_f42 hR_f42) k [.r, .r, .l, .r, .b] (Try.f35.body.getD .skip) (retK (f35_cx R_f42 hR_f42) [] Try.f35.results.toList K) [] r1 (f35_S1 v) = f35_T1 R_f42 k (fun u => K (f35_out u))  (fun v => iter (loopB (f35_cx R_f42 hR_f42) k [.r, .r, .r, .r, .l, .r, .b] (Try.f35.body.getD .skip) (retK (f35_cx R_f42 hR_f42) [] Try.f35.results.toList K) []) k (f35_S2 v)) (fun v => r1 (f35_S1 v)) v := by kernel_rfl
theorem f35_L1_it {X : Type} (R_f42 : f42_R) (hR_f42 : AnsOk Try.prog 42 (f42_cOf R_f42)) (k : Nat) (K : Out → Option X)  : (fun v => iter (loopB (f35_cx R_f42 hR_f42) k [.r, .r, .l, .r, .b] (Try.f35.body.getD .skip) (retK (f35_cx R_f42 hR_f42) [] Try.f35.results.toList K) []) k (f35_S1 v)) = iterV (f35_L1 R_f42 k (fun u => K (f35_out u)) ) k :=
  iter_map (fun r1 v => (f35_L1_ev R_f42 hR_f42 k K  r1 v).trans (by rw [f35_L2_it R_f42 hR_f42 k K ]; rfl)) k
def f35_T {X : Type} (R_f42 : f42_R) (k : Nat) (K : Nat × (List CV) → Option X) (loop1 : (List CV) × Int × (List CV) × Int × Int → Option X) (x0 : List CV) : Option X :=
loop1 (x0, 0, x0, (Nat.cast ((List.length x0)) : Int), 0)
/-- "slices.Concat[[]byte,byte]" -/
def f35_A (R_f42 : f42_R) (k : Nat) : f35_R := fun X K x0 => f35_T R_f42 k K (iterV (f35_L1 R_f42 k K) k) x0
set_option maxRecDepth 100000 in
theorem f35_ev' {X : Type} (R_f42 : f42_R) (hR_f42 : AnsOk Try.prog 42 (f42_cOf R_f42)) (k : Nat) (K : Out → Option X) (x0 : List CV) : evFn (f35_cx R_f42 hR_f42) [] k Try.f35.ntmps Try.f35.results.toList (Try.f35.body.getD .skip) [(.sl false none x0)] [] K = f35_T R_f42 k (fun u => K (f35_out u)) (fun v => iter (loopB (f35_cx R_f42 hR_f42) k [.r, .r, .l, .r, .b] (Try.f35.body.getD .skip) (retK (f35_cx R_f42 hR_f42) [] Try.f35.results.toList K) []) k (f35_S1 v)) x0 := by kernel_rfl
theorem f35_ev {X : Type} (R_f42 : f42_R) (hR_f42 : AnsOk Try.prog 42 (f42_cOf R_f42)) (k : Nat) (K : Out → Option X) (x0 : List CV) : evFn (f35_cx R_f42 hR_f42) [] k Try.f35.ntmps Try.f35.results.toList (Try.f35.body.getD .skip) [(.sl false none x0)] [] K = f35_A R_f42 k X (fun u => K (f35_out u)) x0 := (f35_ev' R_f42 hR_f42 k K x0).trans (by rw [f35_L1_it R_f42 hR_f42 k K]; rfl)
theorem f35_okA (R_f42 : f42_R) (hR_f42 : AnsOk Try.prog 42 (f42_cOf R_f42)) (k : Nat) : AnsOk Try.prog 35 (f35_cOf (f35_A R_f42 k)) := by
  intro X xs ns K x h
  unfold f35_cOf at h ⊢
  split at h
  · exact ans_main S (f35_Cok R_f42 hR_f42) Try.func35 (ent_of Try.func35 (by kernel_rfl) rfl) rfl (fun X K => f35_ev R_f42 hR_f42 k K _) h
  · cases h
/-- "slices.Concat[[]byte,byte]" -/
def f35 {X : Type} (k : Nat) (K : Nat × (List CV) → Option X) (x0 : List CV) : Option X := f35_A (fun X => @f42 X k) k X K x0
theorem f35_ok (k : Nat) : AnsOk Try.prog 35 (f35_cOf (fun X => @f35 X k)) := f35_okA (fun X => @f42 X k) (f42_ok k) k
abbrev f36_R : Type 1 := (X : Type) → (Nat × (List CV) → Option X) → CV → Int → Option X
def f36_out (u : Nat × (List CV)) : Out := ⟨(.osl [2000] none 0 u.1), [([2000], (.row false none u.2))]⟩
def f36_cOf (R : f36_R) : FnC := fun X xs ns K => match xs, ns with
  | [(.v x0), (.v (CV.int .i64 x1))], [] => R X (fun u => K (f36_out u)) x0 x1
  | _, _ => none
def f36_plan : Nat → Option (List Nat × List Wk)
  | 0 => some ([0, 1], [])
  | 1 => some ([1, 2], [])
  | 2 => some ([1, 2, 5], [])
  | 3 => some ([1, 5, 6], [])
  | 4 => some ([1, 5, 6], [])
  | 5 => some ([1, 5, 6], [])
  | 6 => some ([5, 6, 7], [])
  | _ => none
def f36_C (R_f43 : f43_R) (R_f35 : f35_R) : Fns := (orC 35 (f35_cOf R_f35) (orC 43 (f43_cOf R_f43) noC))
theorem f36_Cok (R_f43 : f43_R) (R_f35 : f35_R) (hR_f43 : AnsOk Try.prog 43 (f43_cOf R_f43)) (hR_f35 : AnsOk Try.prog 35 (f35_cOf R_f35)) : CsOk Try.prog (f36_C R_f43 R_f35) := (orC_ok hR_f35 (orC_ok hR_f43 noC_ok))
def f36_cx (R_f43 : f43_R) (R_f35 : f35_R) (hR_f43 : AnsOk Try.prog 43 (f43_cOf R_f43)) (hR_f35 : AnsOk Try.prog 35 (f35_cOf R_f35)) : Cx := mkCx (tabOf rows) (f36_C R_f43 R_f35) md (cmpIn cmps) f36_plan (f36_Cok R_f43 R_f35 hR_f43 hR_f35)
def f36_T {X : Type} (R_f43 : f43_R) (R_f35 : f35_R) (k : Nat) (K : Nat × (List CV) → Option X)  (x0 : CV) (x1 : Int) : Option X :=
grd (CV.isA 4 x0) <|
grd (CV.isI .i64 (CV.cellD 0 x0)) <|
grd (CV.isI .i64 (CV.cellD 1 x0)) <|
grd (CV.isL none (CV.cellD 2 x0)) <|
grd (CV.isL (some 4) (CV.cellD 3 x0)) <|
R_f43 _ (fun u1 =>
(bif (decide (x1 ≤ 7)) then
grd (decide ((1 + (List.length (List.take u1.1 (List.drop 0 u1.2)))) * 1 ≤ 140737488355328)) <|
K ((1 + (List.length (List.take u1.1 (List.drop 0 u1.2)))), (List.take (0 + (1 + (List.length (List.take u1.1 (List.drop 0 u1.2))))) ((List.take 1 [(CV.int .u8 (IntKind.wrap .u8 (bop .or .i64 (bop .or .i64 (IntKind.wrap .i64 ((CV.toI (CV.cellD 0 x0)) * 2 ^ 6)) (IntKind.wrap .i64 ((IntKind.wrap .i64 ((Nat.cast (u1.1) : Int) - 1)) * 2 ^ 5))) x1)))]) ++ (List.take u1.1 (List.drop 0 u1.2)))))
else
R_f43 _ (fun u2 =>
R_f35 _ (fun u3 =>
K (u3.1, (List.take (0 + u3.1) u3.2))) ((List.take 3 (List.drop 0 [(CV.slc none (List.take 1 (List.drop 0 [(CV.int .u8 (IntKind.wrap .u8 (bop .or .i64 (bop .or .i64 (IntKind.wrap .i64 ((CV.toI (CV.cellD 0 x0)) * 2 ^ 6)) (IntKind.wrap .i64 ((IntKind.wrap .i64 ((Nat.cast (u1.1) : Int) - 1)) * 2 ^ 5))) (IntKind.wrap .i64 ((Nat.cast (u2.1) : Int) * 2 ^ 3)))))]))), (CV.slc none (List.take u1.1 (List.drop 0 u1.2))), (CV.slc none (List.take u2.1 (List.drop 0 u2.2)))])))) (x1))) ((CV.toI (CV.cellD 1 x0)))
/-- "outpost/tlv.head" -/
def f36_A (R_f43 : f43_R) (R_f35 : f35_R) (k : Nat) : f36_R := fun X K x0 x1 => f36_T R_f43 R_f35 k K  x0 x1
set_option maxRecDepth 100000 in
theorem f36_ev' {X : Type} (R_f43 : f43_R) (R_f35 : f35_R) (hR_f43 : AnsOk Try.prog 43 (f43_cOf R_f43)) (hR_f35 : AnsOk Try.prog 35 (f35_cOf R_f35)) (k : Nat) (K : Out → Option X) (x0 : CV) (x1 : Int) : evFn (f36_cx R_f43 R_f35 hR_f43 hR_f35) [] k Try.f36.ntmps Try.f36.results.toList (Try.f36.body.getD .skip) [(.v x0), (.v (CV.int .i64 x1))] [] K = f36_T R_f43 R_f35 k (fun u => K (f36_out u)) x0 x1 := by kernel_rfl
theorem f36_ev {X : Type} (R_f43 : f43_R) (R_f35 : f35_R) (hR_f43 : AnsOk Try.prog 43 (f43_cOf R_f43)) (hR_f35 : AnsOk Try.prog 35 (f35_cOf R_f35)) (k : Nat) (K : Out → Option X) (x0 : CV) (x1 : Int) : evFn (f36_cx R_f43 R_f35 hR_f43 hR_f35) [] k Try.f36.ntmps Try.f36.results.toList (Try.f36.body.getD .skip) [(.v x0), (.v (CV.int .i64 x1))] [] K = f36_A R_f43 R_f35 k X (fun u => K (f36_out u)) x0 x1 := (f36_ev' R_f43 R_f35 hR_f43 hR_f35 k K x0 x1).trans rfl
theorem f36_okA (R_f43 : f43_R) (R_f35 : f35_R) (hR_f43 : AnsOk Try.prog 43 (f43_cOf R_f43)) (hR_f35 : AnsOk Try.prog 35 (f35_cOf R_f35)) (k : Nat) : AnsOk Try.prog 36 (f36_cOf (f36_A R_f43 R_f35 k)) := by
  intro X xs ns K x h
  unfold f36_cOf at h ⊢
  split at h
  · exact ans_main S (f36_Cok R_f43 R_f35 hR_f43 hR_f35) Try.func36 (ent_of Try.func36 (by kernel_rfl) rfl) rfl (fun X K => f36_ev R_f43 R_f35 hR_f43 hR_f35 k K _ _) h
  · cases h
/-- "outpost/tlv.head" -/
def f36 {X : Type} (k : Nat) (K : Nat × (List CV) → Option X) (x0 : CV) (x1 : Int) : Option X := f36_A (fun X => @f43 X k) (fun X => @f35 X k) k X K x0 x1
theorem f36_ok (k : Nat) : AnsOk Try.prog 36 (f36_cOf (fun X => @f36 X k)) := f36_okA (fun X => @f43 X k) (fun X => @f35 X k) (f43_ok k) (f35_ok k) k
abbrev f24_R : Type 1 := (X : Type) → (Nat × Int × (List CV) → Option X) → (List CV) → Option X
def f24_out (u : Nat × Int × (List CV)) : Out := ⟨(.tup [(.osl [0, 2000] none 0 u.1), (.v (CV.int .i64 u.2.1))]), [([0, 2000], (.row false none u.2.2))]⟩
def f24_cOf (R : f24_R) : FnC := fun X xs ns K => match xs, ns with
  | [(.sl false (some 4) x0)], [] => R X (fun u => K (f24_out u)) x0
  | _, _ => none
def f24_plan : Nat → Option (List Nat × List Wk)
  | 0 => some ([0], [])
  | 1 => some ([0], [])
  | 2 => some ([0, 4], [])
  | 3 => some ([4, 9, 10, 11], [⟨4, [], some [4]⟩])
  | 4 => some ([4, 9, 10, 11], [])
  | 5 => some ([4, 6, 9, 10, 11], [])
  | 6 => some ([4, 6, 7, 9, 10, 11], [])
  | 7 => some ([4, 6, 9, 10, 11], [])
  | 8 => some ([4, 6, 9, 10, 11], [])
  | 9 => some ([4, 6, 7, 8, 9, 10, 11], [])
  | 10 => some ([8], [])
  | 11 => some ([4, 6, 7, 9, 10, 11], [⟨7, [], none⟩])
  | 12 => some ([], [])
  | 13 => some ([4, 6, 7, 9, 10, 11], [])
  | 14 => some ([4, 9, 10, 11], [])
  | 15 => some ([4], [])
  | _ => none
def f24_C (R_f34 : f34_R) (R_f36 : f36_R) (R_f35 : f35_R) (R_f24 : f24_R) : Fns := (orC 24 (f24_cOf R_f24) (orC 34 (f34_cOf R_f34) (orC 35 (f35_cOf R_f35) (orC 36 (f36_cOf R_f36) noC))))
theorem f24_Cok (R_f34 : f34_R) (R_f36 : f36_R) (R_f35 : f35_R) (R_f24 : f24_R) (hR_f34 : AnsOk Try.prog 34 (f34_cOf R_f34)) (hR_f36 : AnsOk Try.prog 36 (f36_cOf R_f36)) (hR_f35 : AnsOk Try.prog 35 (f35_cOf R_f35)) (hR_f24 : AnsOk Try.prog 24 (f24_cOf R_f24)) : CsOk Try.prog (f24_C R_f34 R_f36 R_f35 R_f24) := (orC_ok hR_f24 (orC_ok hR_f34 (orC_ok hR_f35 (orC_ok hR_f36 noC_ok))))
def f24_cx (R_f34 : f34_R) (R_f36 : f36_R) (R_f35 : f35_R) (R_f24 : f24_R) (hR_f34 : AnsOk Try.prog 34 (f34_cOf R_f34)) (hR_f36 : AnsOk Try.prog 36 (f36_cOf R_f36)) (hR_f35 : AnsOk Try.prog 35 (f35_cOf R_f35)) (hR_f24 : AnsOk Try.prog 24 (f24_cOf R_f24)) : Cx := mkCx (tabOf rows) (f24_C R_f34 R_f36 R_f35 R_f24) md (cmpIn cmps) f24_plan (f24_Cok R_f34 R_f36 R_f35 R_f24 hR_f34 hR_f36 hR_f35 hR_f24)
def f24_S1 (v : Nat × (List CV) × Int × Int × (List CV)) : St := ⟨[.undef, .undef, .undef, .undef, (.osl [4] none 0 v.1), .undef, .undef, .undef, .undef, (.sl false (some 4) v.2.1), (.v (CV.int .i64 v.2.2.1)), (.v (CV.int .i64 v.2.2.2.1)), .undef, .undef, .undef, .undef, .undef, .undef, .undef, .undef, .undef, .undef, .undef, .undef, .undef, .undef, .undef, .undef, .undef, .undef, .undef, .undef, .undef, .undef, .undef, .undef, .undef, .undef, .undef, .undef, .undef, .undef], [([4], (.row false none v.2.2.2.2))]⟩
def f24_J1 {X : Type} (R_f34 : f34_R) (R_f36 : f36_R) (R_f35 : f35_R) (R_f24 : f24_R) (k : Nat) (K : Nat × Int × (List CV) → Option X) (e23 : CV) (rec1 : Nat × (List CV) × Int × Int × (List CV) → Option X) (v5_0 : Nat × (List CV) × Int × Int × (List CV)) (v26 : (List CV)) : Option X :=
(bif (decide ((Nat.cast ((List.length v26)) : Int) > 65535)) then
K (0, 2, (List.take 0 []))
else
R_f36 _ (fun u27 =>
R_f35 _ (fun u28 =>
rec1 (u28.1, v5_0.2.1, v5_0.2.2.1, (IntKind.wrap .i64 (v5_0.2.2.2.1 + 1)), u28.2)) ((List.take 3 (List.drop 0 [(CV.slc none (List.take v5_0.1 (List.drop 0 v5_0.2.2.2.2))), (CV.slc none (List.take u27.1 (List.drop 0 u27.2))), (CV.slc none v26)])))) ((CV.agg [(CV.int .i64 (CV.toI (CV.cellD 0 e23))), (CV.int .i64 (CV.toI (CV.cellD 1 e23))), (CV.slc none (CV.toL (CV.cellD 2 e23))), (CV.slc (some 4) (CV.toL (CV.cellD 3 e23)))])) ((Nat.cast ((List.length v26)) : Int)))
def f24_T1 {X : Type} (R_f34 : f34_R) (R_f36 : f36_R) (R_f35 : f35_R) (R_f24 : f24_R) (k : Nat) (K : Nat × Int × (List CV) → Option X)   (rec1 : Nat × (List CV) × Int × Int × (List CV) → Option X) (v5_0 : Nat × (List CV) × Int × Int × (List CV)) : Option X :=
(bif (decide (v5_0.2.2.2.1 < v5_0.2.2.1)) then
grd (decide (0 ≤ v5_0.2.2.2.1)) <|
Option.bind (v5_0.2.1)[(Int.toNat v5_0.2.2.2.1)]? fun e23 =>
grd (CV.isA 4 e23) <|
grd (CV.isI .i64 (CV.cellD 0 e23)) <|
grd (CV.isI .i64 (CV.cellD 1 e23)) <|
grd (CV.isL none (CV.cellD 2 e23)) <|
grd (CV.isL (some 4) (CV.cellD 3 e23)) <|
R_f34 _ (fun u29 =>
(bif u29 then
R_f24 _ (fun u30 =>
(bif (u30.2.1 != 0) then
K (0, u30.2.1, (List.take 0 []))
else
f24_J1 R_f34 R_f36 R_f35 R_f24 k K e23 rec1 v5_0 ((List.take u30.1 (List.drop 0 u30.2.2))))) ((CV.toL (CV.cellD 3 e23)))
else
f24_J1 R_f34 R_f36 R_f35 R_f24 k K e23 rec1 v5_0 ((CV.toL (CV.cellD 2 e23))))) ((CV.toI (CV.cellD 0 e23)))
else
K (v5_0.1, 0, (List.take (0 + v5_0.1) v5_0.2.2.2.2)))
def f24_L1 {X : Type} (R_f34 : f34_R) (R_f36 : f36_R) (R_f35 : f35_R) (R_f24 : f24_R) (k : Nat) (K : Nat × Int × (List CV) → Option X)  (rec1 : Nat × (List CV) × Int × Int × (List CV) → Option X) (v : Nat × (List CV) × Int × Int × (List CV)) : Option X := f24_T1 R_f34 R_f36 R_f35 R_f24 k K   rec1 v
set_option maxRecDepth 100000 in
theorem f24_L1_ev {X : Type} (R_f34 : f34_R) (R_f36 : f36_R) (R_f35 : f35_R) (R_f24 : f24_R) (hR_f34 : AnsOk Try.prog 34 (f34_cOf R_f34)) (hR_f36 : AnsOk Try.prog 36 (f36_cOf R_f36)) (hR_f35 : AnsOk Try.prog 35 (f35_cOf R_f35)) (hR_f24 : AnsOk Try.prog 24 (f24_cOf R_f24)) (k : Nat) (K : Out → Option X)  (r1 : St → Option X) (v : Nat × (List CV) × Int × Int × (List CV)) : loopB (f24_cx R_f34 R_f36 R_f35 R_f24 hR_f34 hR_f36 hR_f35 hR_f24) k [.r, .r, .l, .r, .b] (Try.f24.body.getD .skip) (retK (f24_cx R_f34 R_f36 R_f35 R_f24 hR_f34 hR_f36 hR_f35 hR_f24) [⟨0, [0], some [0, 2000]⟩] Try.f24.results.toList K) [] r1 (f24_S1 v) = f24_T1 R_f34 R_f36 R_f35 R_f24 k (fun u => K (f24_out u))   (fun v => r1 (f24_S1 v)) v := by kernel_rfl
theorem f24_L1_it {X : Type} (R_f34 : f34_R) (R_f36 : f36_R) (R_f35 : f35_R) (R_f24 : f24_R) (hR_f34 : AnsOk Try.prog 34 (f34_cOf R_f34)) (hR_f36 : AnsOk Try.prog 36 (f36_cOf R_f36)) (hR_f35 : AnsOk Try.prog 35 (f35_cOf R_f35)) (hR_f24 : AnsOk Try.prog 24 (f24_cOf R_f24)) (k : Nat) (K : Out → Option X)  : (fun v => iter (loopB (f24_cx R_f34 R_f36 R_f35 R_f24 hR_f34 hR_f36 hR_f35 hR_f24) k [.r, .r, .l, .r, .b] (Try.f24.body.getD .skip) (retK (f24_cx R_f34 R_f36 R_f35 R_f24 hR_f34 hR_f36 hR_f35 hR_f24) [⟨0, [0], some [0, 2000]⟩] Try.f24.results.toList K) []) k (f24_S1 v)) = iterV (f24_L1 R_f34 R_f36 R_f35 R_f24 k (fun u => K (f24_out u)) ) k :=
  iter_map (fun r1 v => (f24_L1_ev R_f34 R_f36 R_f35 R_f24 hR_f34 hR_f36 hR_f35 hR_f24 k K  r1 v).trans rfl) k
def f24_T {X : Type} (R_f34 : f34_R) (R_f36 : f36_R) (R_f35 : f35_R) (R_f24 : f24_R) (k : Nat) (K : Nat × Int × (List CV) → Option X) (loop1 : Nat × (List CV) × Int × Int × (List CV) → Option X) (x0 : List CV) : Option X :=
loop1 (0, x0, (Nat.cast ((List.length x0)) : Int), 0, [])
/-- "outpost/tlv.write" -/
def f24_A (R_f34 : f34_R) (R_f36 : f36_R) (R_f35 : f35_R) (R_f24 : f24_R) (k : Nat) : f24_R := fun X K x0 => f24_T R_f34 R_f36 R_f35 R_f24 k K (iterV (f24_L1 R_f34 R_f36 R_f35 R_f24 k K) k) x0
set_option maxRecDepth 100000 in
theorem f24_ev' {X : Type} (R_f34 : f34_R) (R_f36 : f36_R) (R_f35 : f35_R) (R_f24 : f24_R) (hR_f34 : AnsOk Try.prog 34 (f34_cOf R_f34)) (hR_f36 : AnsOk Try.prog 36 (f36_cOf R_f36)) (hR_f35 : AnsOk Try.prog 35 (f35_cOf R_f35)) (hR_f24 : AnsOk Try.prog 24 (f24_cOf R_f24)) (k : Nat) (K : Out → Option X) (x0 : List CV) : evFn (f24_cx R_f34 R_f36 R_f35 R_f24 hR_f34 hR_f36 hR_f35 hR_f24) [⟨0, [0], some [0, 2000]⟩] k Try.f24.ntmps Try.f24.results.toList (Try.f24.body.getD .skip) [(.sl false (some 4) x0)] [] K = f24_T R_f34 R_f36 R_f35 R_f24 k (fun u => K (f24_out u)) (fun v => iter (loopB (f24_cx R_f34 R_f36 R_f35 R_f24 hR_f34 hR_f36 hR_f35 hR_f24) k [.r, .r, .l, .r, .b] (Try.f24.body.getD .skip) (retK (f24_cx R_f34 R_f36 R_f35 R_f24 hR_f34 hR_f36 hR_f35 hR_f24) [⟨0, [0], some [0, 2000]⟩] Try.f24.results.toList K) []) k (f24_S1 v)) x0 := by kernel_rfl
theorem f24_ev {X : Type} (R_f34 : f34_R) (R_f36 : f36_R) (R_f35 : f35_R) (R_f24 : f24_R) (hR_f34 : AnsOk Try.prog 34 (f34_cOf R_f34)) (hR_f36 : AnsOk Try.prog 36 (f36_cOf R_f36)) (hR_f35 : AnsOk Try.prog 35 (f35_cOf R_f35)) (hR_f24 : AnsOk Try.prog 24 (f24_cOf R_f24)) (k : Nat) (K : Out → Option X) (x0 : List CV) : evFn (f24_cx R_f34 R_f36 R_f35 R_f24 hR_f34 hR_f36 hR_f35 hR_f24) [⟨0, [0], some [0, 2000]⟩] k Try.f24.ntmps Try.f24.results.toList (Try.f24.body.getD .skip) [(.sl false (some 4) x0)] [] K = f24_A R_f34 R_f36 R_f35 R_f24 k X (fun u => K (f24_out u)) x0 := (f24_ev' R_f34 R_f36 R_f35 R_f24 hR_f34 hR_f36 hR_f35 hR_f24 k K x0).trans (by rw [f24_L1_it R_f34 R_f36 R_f35 R_f24 hR_f34 hR_f36 hR_f35 hR_f24 k K]; rfl)
theorem f24_okA (R_f34 : f34_R) (R_f36 : f36_R) (R_f35 : f35_R) (R_f24 : f24_R) (hR_f34 : AnsOk Try.prog 34 (f34_cOf R_f34)) (hR_f36 : AnsOk Try.prog 36 (f36_cOf R_f36)) (hR_f35 : AnsOk Try.prog 35 (f35_cOf R_f35)) (hR_f24 : AnsOk Try.prog 24 (f24_cOf R_f24)) (k : Nat) : AnsOk Try.prog 24 (f24_cOf (f24_A R_f34 R_f36 R_f35 R_f24 k)) := by
  intro X xs ns K x h
  unfold f24_cOf at h ⊢
  split at h
  · exact ans_main S (f24_Cok R_f34 R_f36 R_f35 R_f24 hR_f34 hR_f36 hR_f35 hR_f24) Try.func24 (ent_of Try.func24 (by kernel_rfl) rfl) rfl (fun X K => f24_ev R_f34 R_f36 R_f35 R_f24 hR_f34 hR_f36 hR_f35 hR_f24 k K _) h
  · cases h
def f24_r : Nat → f24_R
  | 0 => fun _ _ _ => none
  | k + 1 => f24_A (fun X => @f34 X k) (fun X => @f36 X k) (fun X => @f35 X k) (f24_r k) k
theorem f24_okr : ∀ k, AnsOk Try.prog 24 (f24_cOf (f24_r k))
  | 0 => by
    intro X xs ns K x h
    unfold f24_cOf at h
    split at h <;> cases h
  | k + 1 => f24_okA (fun X => @f34 X k) (fun X => @f36 X k) (fun X => @f35 X k) (f24_r k) (f34_ok k) (f36_ok k) (f35_ok k) (f24_okr k) k
def f24 {X : Type} (k : Nat) (K : Nat × Int × (List CV) → Option X) (x0 : List CV) : Option X := f24_r k X K x0
theorem f24_ok (k : Nat) : AnsOk Try.prog 24 (f24_cOf (fun X => @f24 X k)) := f24_okr k
abbrev f11_R : Type 1 := (X : Type) → (Nat × Int × (List CV) → Option X) → (List CV) → Option X
def f11_out (u : Nat × Int × (List CV)) : Out := ⟨(.tup [(.osl [0, 2000] none 0 u.1), (.v (CV.int .i64 u.2.1))]), [([0, 2000], (.row false none u.2.2))]⟩
def f11_cOf (R : f11_R) : FnC := fun X xs ns K => match xs, ns with
  | [(.sl false (some 4) x0)], [] => R X (fun u => K (f11_out u)) x0
  | _, _ => none
def f11_plan : Nat → Option (List Nat × List Wk)
  | 0 => some ([0], [])
  | 1 => some ([0], [])
  | 2 => some ([], [])
  | 3 => some ([0], [])
  | _ => none
def f11_C (R_f13 : f13_R) (R_f24 : f24_R) : Fns := (orC 13 (f13_cOf R_f13) (orC 24 (f24_cOf R_f24) noC))
theorem f11_Cok (R_f13 : f13_R) (R_f24 : f24_R) (hR_f13 : AnsOk Try.prog 13 (f13_cOf R_f13)) (hR_f24 : AnsOk Try.prog 24 (f24_cOf R_f24)) : CsOk Try.prog (f11_C R_f13 R_f24) := (orC_ok hR_f13 (orC_ok hR_f24 noC_ok))
def f11_cx (R_f13 : f13_R) (R_f24 : f24_R) (hR_f13 : AnsOk Try.prog 13 (f13_cOf R_f13)) (hR_f24 : AnsOk Try.prog 24 (f24_cOf R_f24)) : Cx := mkCx (tabOf rows) (f11_C R_f13 R_f24) md (cmpIn cmps) f11_plan (f11_Cok R_f13 R_f24 hR_f13 hR_f24)
def f11_T {X : Type} (R_f13 : f13_R) (R_f24 : f24_R) (k : Nat) (K : Nat × Int × (List CV) → Option X)  (x0 : List CV) : Option X :=
R_f13 _ (fun u2 =>
(bif (!u2) then
K (0, 1, (List.take 0 []))
else
R_f24 _ (fun u3 =>
K (u3.1, u3.2.1, (List.take (0 + u3.1) u3.2.2))) (x0))) (x0)
/-- "outpost/tlv.Write" -/
def f11_A (R_f13 : f13_R) (R_f24 : f24_R) (k : Nat) : f11_R := fun X K x0 => f11_T R_f13 R_f24 k K  x0
set_option maxRecDepth 100000 in
theorem f11_ev' {X : Type} (R_f13 : f13_R) (R_f24 : f24_R) (hR_f13 : AnsOk Try.prog 13 (f13_cOf R_f13)) (hR_f24 : AnsOk Try.prog 24 (f24_cOf R_f24)) (k : Nat) (K : Out → Option X) (x0 : List CV) : evFn (f11_cx R_f13 R_f24 hR_f13 hR_f24) [⟨0, [0], some [0, 2000]⟩] k Try.f11.ntmps Try.f11.results.toList (Try.f11.body.getD .skip) [(.sl false (some 4) x0)] [] K = f11_T R_f13 R_f24 k (fun u => K (f11_out u)) x0 := by kernel_rfl
theorem f11_ev {X : Type} (R_f13 : f13_R) (R_f24 : f24_R) (hR_f13 : AnsOk Try.prog 13 (f13_cOf R_f13)) (hR_f24 : AnsOk Try.prog 24 (f24_cOf R_f24)) (k : Nat) (K : Out → Option X) (x0 : List CV) : evFn (f11_cx R_f13 R_f24 hR_f13 hR_f24) [⟨0, [0], some [0, 2000]⟩] k Try.f11.ntmps Try.f11.results.toList (Try.f11.body.getD .skip) [(.sl false (some 4) x0)] [] K = f11_A R_f13 R_f24 k X (fun u => K (f11_out u)) x0 := (f11_ev' R_f13 R_f24 hR_f13 hR_f24 k K x0).trans rfl
theorem f11_okA (R_f13 : f13_R) (R_f24 : f24_R) (hR_f13 : AnsOk Try.prog 13 (f13_cOf R_f13)) (hR_f24 : AnsOk Try.prog 24 (f24_cOf R_f24)) (k : Nat) : AnsOk Try.prog 11 (f11_cOf (f11_A R_f13 R_f24 k)) := by
  intro X xs ns K x h
  unfold f11_cOf at h ⊢
  split at h
  · exact ans_main S (f11_Cok R_f13 R_f24 hR_f13 hR_f24) Try.func11 (ent_of Try.func11 (by kernel_rfl) rfl) rfl (fun X K => f11_ev R_f13 R_f24 hR_f13 hR_f24 k K _) h
  · cases h
/-- "outpost/tlv.Write" -/
def f11 {X : Type} (k : Nat) (K : Nat × Int × (List CV) → Option X) (x0 : List CV) : Option X := f11_A (fun X => @f13 X k) (fun X => @f24 X k) k X K x0
theorem f11_ok (k : Nat) : AnsOk Try.prog 11 (f11_cOf (fun X => @f11 X k)) := f11_okA (fun X => @f13 X k) (fun X => @f24 X k) (f13_ok k) (f24_ok k) k
abbrev f44_R : Type 1 := (X : Type) → (Int × (List CV) × Bool → Option X) → (List CV) → Int → Option X
def f44_out (u : Int × (List CV) × Bool) : Out := ⟨(.tup [(.v (CV.int .i64 u.1)), (.sl true none u.2.1), (.v (CV.bool u.2.2))]), []⟩
def f44_cOf (R : f44_R) : FnC := fun X xs ns K => match xs, ns with
  | [(.sl true none x0), (.v (CV.int .i64 x1))], [] => R X (fun u => K (f44_out u)) x0 x1
  | _, _ => none
def f44_plan : Nat → Option (List Nat × List Wk)
  | 0 => some ([0, 1], [])
  | 1 => some ([0, 1], [])
  | 2 => some ([], [])
  | 3 => some ([0, 1], [])
  | 4 => some ([0, 1, 7], [])
  | 5 => some ([0, 1, 7, 16, 17, 18], [])
  | 6 => some ([0, 1, 7, 16, 17, 18], [])
  | 7 => some ([0, 1, 7, 9, 16, 17, 18], [])
  | 8 => some ([0, 1, 7, 16, 17, 18], [])
  | 9 => some ([0, 1, 7], [])
  | _ => none
def f44_C : Fns := noC
theorem f44_Cok : CsOk Try.prog (f44_C) := noC_ok
def f44_cx : Cx := mkCx (tabOf rows) (f44_C) md (cmpIn cmps) f44_plan (f44_Cok)
def f44_S1 (v : (List CV) × Int × Int × (List CV) × Int × Int) : St := ⟨[(.sl true none v.1), (.v (CV.int .i64 v.2.1)), .undef, .undef, .undef, .undef, .undef, (.v (CV.int .i64 v.2.2.1)), .undef, .undef, .undef, .undef, .undef, .undef, .undef, .undef, (.sl true none v.2.2.2.1), (.v (CV.int .i64 v.2.2.2.2.1)), (.v (CV.int .i64 v.2.2.2.2.2)), .undef, .undef, .undef, .undef, .undef, .undef, .undef, .undef, .undef, .undef, .undef, .undef, .undef], []⟩
def f44_T1 {X : Type} (k : Nat) (K : Int × (List CV) × Bool → Option X)   (rec1 : (List CV) × Int × Int × (List CV) × Int × Int → Option X) (v6_0 : (List CV) × Int × Int × (List CV) × Int × Int) : Option X :=
(bif (decide (v6_0.2.2.2.2.2 < v6_0.2.2.2.2.1)) then
grd (decide (0 ≤ v6_0.2.2.2.2.2)) <|
Option.bind (v6_0.2.2.2.1)[(Int.toNat v6_0.2.2.2.2.2)]? fun e5 =>
grd (CV.isI .u8 e5) <|
rec1 (v6_0.1, v6_0.2.1, (bop .or .i64 (IntKind.wrap .i64 (v6_0.2.2.1 * 2 ^ 8)) (IntKind.wrap .i64 (CV.toI e5))), v6_0.2.2.2.1, v6_0.2.2.2.2.1, (IntKind.wrap .i64 (v6_0.2.2.2.2.2 + 1)))
else
grd (decide (0 ≤ v6_0.2.1)) <|
grd (decide (v6_0.2.1 ≤ (Nat.cast ((List.length v6_0.1)) : Int))) <|
grd (decide ((Nat.cast ((List.length v6_0.1)) : Int) ≤ (Nat.cast ((List.length v6_0.1)) : Int))) <|
K (v6_0.2.2.1, (List.take ((List.length v6_0.1) - (Int.toNat v6_0.2.1)) (List.drop (Int.toNat v6_0.2.1) v6_0.1)), true))
def f44_L1 {X : Type} (k : Nat) (K : Int × (List CV) × Bool → Option X)  (rec1 : (List CV) × Int × Int × (List CV) × Int × Int → Option X) (v : (List CV) × Int × Int × (List CV) × Int × Int) : Option X := f44_T1 k K   rec1 v
set_option maxRecDepth 100000 in
theorem f44_L1_ev {X : Type} (k : Nat) (K : Out → Option X)  (r1 : St → Option X) (v : (List CV) × Int × Int × (List CV) × Int × Int) : loopB (f44_cx) k [.r, .r, .r, .l, .r, .b] (Try.f44.body.getD .skip) (retK (f44_cx) [⟨0, [1], none⟩] Try.f44.results.toList K) [] r1 (f44_S1 v) = f44_T1 k (fun u => K (f44_out u))   (fun v => r1 (f44_S1 v)) v := by kernel_rfl
theorem f44_L1_it {X : Type} (k : Nat) (K : Out → Option X)  : (fun v => iter (loopB (f44_cx) k [.r, .r, .r, .l, .r, .b] (Try.f44.body.getD .skip) (retK (f44_cx) [⟨0, [1], none⟩] Try.f44.results.toList K) []) k (f44_S1 v)) = iterV (f44_L1 k (fun u => K (f44_out u)) ) k :=
  iter_map (fun r1 v => (f44_L1_ev k K  r1 v).trans rfl) k
def f44_T {X : Type} (k : Nat) (K : Int × (List CV) × Bool → Option X) (loop1 : (List CV) × Int × Int × (List CV) × Int × Int → Option X) (x0 : List CV) (x1 : Int) : Option X :=
(bif (decide ((Nat.cast ((List.length x0)) : Int) < x1)) then
K (0, [], false)
else
grd (decide (0 ≤ x1)) <|
grd (decide (x1 ≤ (Nat.cast ((List.length x0)) : Int))) <|
loop1 (x0, x1, 0, (List.take ((Int.toNat x1) - 0) (List.drop 0 x0)), (Nat.cast ((List.length (List.take ((Int.toNat x1) - 0) (List.drop 0 x0)))) : Int), 0))
/-- "outpost/tlv.number" -/
def f44_A (k : Nat) : f44_R := fun X K x0 x1 => f44_T k K (iterV (f44_L1 k K) k) x0 x1
set_option maxRecDepth 100000 in
theorem f44_ev' {X : Type} (k : Nat) (K : Out → Option X) (x0 : List CV) (x1 : Int) : evFn (f44_cx) [⟨0, [1], none⟩] k Try.f44.ntmps Try.f44.results.toList (Try.f44.body.getD .skip) [(.sl true none x0), (.v (CV.int .i64 x1))] [] K = f44_T k (fun u => K (f44_out u)) (fun v => iter (loopB (f44_cx) k [.r, .r, .r, .l, .r, .b] (Try.f44.body.getD .skip) (retK (f44_cx) [⟨0, [1], none⟩] Try.f44.results.toList K) []) k (f44_S1 v)) x0 x1 := by kernel_rfl
theorem f44_ev {X : Type} (k : Nat) (K : Out → Option X) (x0 : List CV) (x1 : Int) : evFn (f44_cx) [⟨0, [1], none⟩] k Try.f44.ntmps Try.f44.results.toList (Try.f44.body.getD .skip) [(.sl true none x0), (.v (CV.int .i64 x1))] [] K = f44_A k X (fun u => K (f44_out u)) x0 x1 := (f44_ev' k K x0 x1).trans (by rw [f44_L1_it k K]; rfl)
theorem f44_okA (k : Nat) : AnsOk Try.prog 44 (f44_cOf (f44_A k)) := by
  intro X xs ns K x h
  unfold f44_cOf at h ⊢
  split at h
  · exact ans_main S (f44_Cok) Try.func44 (ent_of Try.func44 (by kernel_rfl) rfl) rfl (fun X K => f44_ev k K _ _) h
  · cases h
/-- "outpost/tlv.number" -/
def f44 {X : Type} (k : Nat) (K : Int × (List CV) × Bool → Option X) (x0 : List CV) (x1 : Int) : Option X := f44_A k X K x0 x1
theorem f44_ok (k : Nat) : AnsOk Try.prog 44 (f44_cOf (fun X => @f44 X k)) := f44_okA k
abbrev f40_R : Type 1 := (X : Type) → (Int × Int × Int × (List CV) × Bool × (List CV) × (List CV) → Option X) → (List CV) → Int → Option X
def f40_out (u : Int × Int × Int × (List CV) × Bool × (List CV) × (List CV)) : Out := ⟨(.tup [(.agg [(.v (CV.int .i64 u.1)), (.v (CV.int .i64 u.2.1)), (.osl [2, 0, 2000] none 0 0), (.osl [3, 0, 2000] (some 4) 0 0)]), (.v (CV.int .i64 u.2.2.1)), (.sl true none u.2.2.2.1), (.v (CV.bool u.2.2.2.2.1))]), [([2, 0, 2000], (.row false none u.2.2.2.2.2.1)), ([3, 0, 2000], (.row false (some 4) u.2.2.2.2.2.2))]⟩
def f40_cOf (R : f40_R) : FnC := fun X xs ns K => match xs, ns with
  | [(.sl true none x0), (.v (CV.int .i64 x1))], [] => R X (fun u => K (f40_out u)) x0 x1
  | _, _ => none
def f40_plan : Nat → Option (List Nat × List Wk)
  | 0 => some ([0, 1], [])
  | 1 => some ([0, 1, 4], [])
  | 2 => some ([0, 1, 4, 8], [])
  | 3 => some ([0, 1, 4, 8, 9], [])
  | 4 => some ([4, 9], [])
  | 5 => some ([0, 4, 8, 9], [])
  | 6 => some ([4, 8, 9, 10, 11, 12], [])
  | 7 => some ([4, 9], [])
  | 8 => some ([4, 8, 9, 10, 11, 12], [])
  | 9 => some ([4, 8, 9, 11, 12], [])
  | 10 => some ([4, 8, 9, 11, 12, 13], [])
  | 11 => some ([4, 9, 11, 12, 13, 14], [])
  | 12 => some ([4, 9, 11, 14], [])
  | 13 => some ([4, 9, 11, 12, 13], [])
  | _ => none
def f40_C (R_f38 : f38_R) (R_f44 : f44_R) : Fns := (orC 38 (f38_cOf R_f38) (orC 44 (f44_cOf R_f44) noC))
theorem f40_Cok (R_f38 : f38_R) (R_f44 : f44_R) (hR_f38 : AnsOk Try.prog 38 (f38_cOf R_f38)) (hR_f44 : AnsOk Try.prog 44 (f44_cOf R_f44)) : CsOk Try.prog (f40_C R_f38 R_f44) := (orC_ok hR_f38 (orC_ok hR_f44 noC_ok))
def f40_cx (R_f38 : f38_R) (R_f44 : f44_R) (hR_f38 : AnsOk Try.prog 38 (f38_cOf R_f38)) (hR_f44 : AnsOk Try.prog 44 (f44_cOf R_f44)) : Cx := mkCx (tabOf rows) (f40_C R_f38 R_f44) md (cmpIn cmps) f40_plan (f40_Cok R_f38 R_f44 hR_f38 hR_f44)
def f40_J1 {X : Type} (R_f38 : f38_R) (R_f44 : f44_R) (k : Nat) (K : Int × Int × Int × (List CV) × Bool × (List CV) × (List CV) → Option X) (e1 : CV) (u4 : Int × (List CV) × Bool) (v6 : (List CV) × Bool × Int) : Option X :=
K ((Int.fdiv (IntKind.wrap .i64 (CV.toI e1)) (2 ^ 6)), u4.1, v6.2.2, v6.1, v6.2.1, (List.take 0 []), (List.take 0 []))
def f40_T {X : Type} (R_f38 : f38_R) (R_f44 : f44_R) (k : Nat) (K : Int × Int × Int × (List CV) × Bool × (List CV) × (List CV) → Option X)  (x0 : List CV) (x1 : Int) : Option X :=
Option.bind (x0)[0]? fun e1 =>
grd (CV.isI .u8 e1) <|
R_f38 _ (fun u3 =>
(bif (!u3) then
K ((Int.fdiv (IntKind.wrap .i64 (CV.toI e1)) (2 ^ 6)), 0, 0, [], false, (List.take 0 []), (List.take 0 []))
else
grd (decide (1 ≤ (Nat.cast ((List.length x0)) : Int))) <|
grd (decide ((Nat.cast ((List.length x0)) : Int) ≤ (Nat.cast ((List.length x0)) : Int))) <|
R_f44 _ (fun u4 =>
(bif (!u4.2.2) then
K ((Int.fdiv (IntKind.wrap .i64 (CV.toI e1)) (2 ^ 6)), 0, 0, [], false, (List.take 0 []), (List.take 0 []))
else
(bif (decide ((bop .and .i64 (Int.fdiv (IntKind.wrap .i64 (CV.toI e1)) (2 ^ 3)) 3) > 0)) then
R_f44 _ (fun u7 =>
f40_J1 R_f38 R_f44 k K e1 u4 (u7.2.1, u7.2.2, u7.1)) (u4.2.1) ((bop .and .i64 (Int.fdiv (IntKind.wrap .i64 (CV.toI e1)) (2 ^ 3)) 3))
else
f40_J1 R_f38 R_f44 k K e1 u4 (u4.2.1, u4.2.2, (bop .and .i64 (IntKind.wrap .i64 (CV.toI e1)) 7))))) ((List.take ((List.length x0) - 1) (List.drop 1 x0))) ((IntKind.wrap .i64 (1 + (bop .and .i64 (Int.fdiv (IntKind.wrap .i64 (CV.toI e1)) (2 ^ 5)) 1)))))) ((Int.fdiv (IntKind.wrap .i64 (CV.toI e1)) (2 ^ 6))) (x1)
/-- "outpost/tlv.item" -/
def f40_A (R_f38 : f38_R) (R_f44 : f44_R) (k : Nat) : f40_R := fun X K x0 x1 => f40_T R_f38 R_f44 k K  x0 x1
set_option maxRecDepth 100000 in
theorem f40_ev' {X : Type} (R_f38 : f38_R) (R_f44 : f44_R) (hR_f38 : AnsOk Try.prog 38 (f38_cOf R_f38)) (hR_f44 : AnsOk Try.prog 44 (f44_cOf R_f44)) (k : Nat) (K : Out → Option X) (x0 : List CV) (x1 : Int) : evFn (f40_cx R_f38 R_f44 hR_f38 hR_f44) [⟨0, [2], none⟩] k Try.f40.ntmps Try.f40.results.toList (Try.f40.body.getD .skip) [(.sl true none x0), (.v (CV.int .i64 x1))] [] K = f40_T R_f38 R_f44 k (fun u => K (f40_out u)) x0 x1 := by kernel_rfl
theorem f40_ev {X : Type} (R_f38 : f38_R) (R_f44 : f44_R) (hR_f38 : AnsOk Try.prog 38 (f38_cOf R_f38)) (hR_f44 : AnsOk Try.prog 44 (f44_cOf R_f44)) (k : Nat) (K : Out → Option X) (x0 : List CV) (x1 : Int) : evFn (f40_cx R_f38 R_f44 hR_f38 hR_f44) [⟨0, [2], none⟩] k Try.f40.ntmps Try.f40.results.toList (Try.f40.body.getD .skip) [(.sl true none x0), (.v (CV.int .i64 x1))] [] K = f40_A R_f38 R_f44 k X (fun u => K (f40_out u)) x0 x1 := (f40_ev' R_f38 R_f44 hR_f38 hR_f44 k K x0 x1).trans rfl
theorem f40_okA (R_f38 : f38_R) (R_f44 : f44_R) (hR_f38 : AnsOk Try.prog 38 (f38_cOf R_f38)) (hR_f44 : AnsOk Try.prog 44 (f44_cOf R_f44)) (k : Nat) : AnsOk Try.prog 40 (f40_cOf (f40_A R_f38 R_f44 k)) := by
  intro X xs ns K x h
  unfold f40_cOf at h ⊢
  split at h
  · exact ans_main S (f40_Cok R_f38 R_f44 hR_f38 hR_f44) Try.func40 (ent_of Try.func40 (by kernel_rfl) rfl) rfl (fun X K => f40_ev R_f38 R_f44 hR_f38 hR_f44 k K _ _) h
  · cases h
/-- "outpost/tlv.item" -/
def f40 {X : Type} (k : Nat) (K : Int × Int × Int × (List CV) × Bool × (List CV) × (List CV) → Option X) (x0 : List CV) (x1 : Int) : Option X := f40_A (fun X => @f38 X k) (fun X => @f44 X k) k X K x0 x1
theorem f40_ok (k : Nat) : AnsOk Try.prog 40 (f40_cOf (fun X => @f40 X k)) := f40_okA (fun X => @f38 X k) (fun X => @f44 X k) (f38_ok k) (f44_ok k) k
def f41_plan : Nat → Option (List Nat × List Wk)
  | 0 => some ([0], [])
  | 1 => some ([0], [])
  | 2 => some ([], [])
  | 3 => some ([0], [])
  | _ => none
def f41_cx : Cx := mkCx (tabOf rows) noC md (cmpIn cmps) f41_plan (noC_ok (P := Try.prog))
/-- "slices.Clone[[]byte,byte]" -/
def f41 {X : Type} (k : Nat) (K : List CV → Option X) (x0 : List CV) : Option X := grd (decide ((0 + List.length x0) * 1 ≤ 140737488355328)) (K x0)
def f41_out (u : List CV) : Out := ⟨.osl [2000] none 0 (List.length u), [([2000], .row false none u)]⟩
set_option maxRecDepth 100000 in
theorem f41_fn (x0 : List CV) (hl : (decide ((0 + List.length x0) * 1 ≤ 140737488355328)) = true) : FnOk Try.prog 41 [.sl false none x0] [] (f41_out x0) := by
  refine nilsplit (cx := f41_cx) (xs := x0) (p := false) (sh := none) (fuel := 1) (ws := [⟨0, [], some [2000]⟩]) (tabOf_tabOk S.hr) (tabOf_noOther S.hr) (CsOk.fns (noC_ok (P := Try.prog)) (cmpsAre_ok cmps_ok)) S.hm Try.func41 rfl rfl Try.underlying25 (s1 := ⟨[(.sl false none x0), .undef, (.nil0 none), .undef, .undef, .undef, .undef, .undef], []⟩) (s2 := ⟨[(.sl false none x0), .undef, .undef, .undef, .undef, .undef, .undef, .undef], []⟩) (s3 := ⟨[(.sl false none x0), .undef, .undef, (.sl false none x0), .undef, .undef, .undef, .undef], []⟩) ?_ ?_ ?_ rfl ?_ (fun h => ?_) ⟨rfl, rfl⟩
  · kernel_rfl
  · kernel_rfl
  · kernel_rfl
  · refine Eq.trans (b := grd (decide ((0 + List.length x0) * 1 ≤ 140737488355328)) (some ⟨.osl [2000] none 0 (0 + List.length x0), [([2000], .row false none (List.take (0 + (0 + List.length x0)) (List.take 0 [] ++ x0)))]⟩)) (by kernel_rfl) ?_
    rw [hl]
    simp [grd, f41_out]
  · subst h
    kernel_rfl
abbrev f41_R : Type 1 := (X : Type) → (List CV → Option X) → List CV → Option X
def f41_cOf (R : f41_R) : FnC := fun X xs ns K => match xs, ns with
  | [.sl false none x0], [] => R X (fun u => K (f41_out u)) x0
  | _, _ => none
theorem f41_ok (k : Nat) : AnsOk Try.prog 41 (f41_cOf (fun X => @f41 X k)) := by
  intro X xs ns K x h
  unfold f41_cOf at h ⊢
  split at h
  · next x0 =>
    obtain ⟨h1, h2⟩ := grd_some (show grd (decide ((0 + List.length x0) * 1 ≤ 140737488355328)) (K (f41_out x0)) = some x from h)
    exact ⟨trivial, _, (f41_fn x0 h1).toX (ent_of Try.func41 (by kernel_rfl) rfl), h2, fun Y K' => by show grd _ _ = _; rw [h1]; rfl⟩
  · cases h
abbrev f28_R : Type 1 := (X : Type) → (Nat × Int × Int × (List CV) → Option X) → (List CV) → Int → Int → Option X
def f28_out (u : Nat × Int × Int × (List CV)) : Out := ⟨(.tup [(.osl [0, 2000] (some 4) 0 u.1), (.v (CV.int .i64 u.2.1))]), [([1000], (.obj [(.v (CV.int .i64 u.2.2.1))])), ([0, 2000], (.row false (some 4) u.2.2.2))]⟩
def f28_cOf (R : f28_R) : FnC := fun X xs ns K => match xs, ns with
  | [(.ptr [1000] 0 0 0), (.sl true none x0), (.v (CV.int .i64 x1))], [([1000], (.obj [(.v (CV.int .i64 x2))]))] => R X (fun u => K (f28_out u)) x0 x1 x2
  | _, _ => none
def f28_plan : Nat → Option (List Nat × List Wk)
  | 0 => some ([0, 1, 2], [])
  | 1 => some ([0, 1, 2], [])
  | 2 => some ([0, 1, 2, 8], [⟨8, [], some [8]⟩])
  | 3 => some ([0, 1, 2, 8], [])
  | 4 => some ([0, 2, 8, 9, 10, 11, 12], [])
  | 5 => some ([], [])
  | 6 => some ([0, 2, 8, 9, 10, 11], [])
  | 7 => some ([0, 2, 8, 9, 10, 11], [])
  | 8 => some ([], [])
  | 9 => some ([0, 2, 8, 9, 10, 11], [])
  | 10 => some ([], [])
  | 11 => some ([0, 2, 8, 9, 10, 11], [])
  | 12 => some ([0, 2, 8, 9, 10, 11], [])
  | 13 => some ([0, 2, 8, 9, 10, 11, 13, 14], [])
  | 14 => some ([14], [])
  | 15 => some ([0, 2, 8, 9, 10, 11, 13], [])
  | 16 => some ([0, 2, 8, 9, 10, 11], [])
  | 17 => some ([0, 2, 8, 9, 10, 11], [])
  | 18 => some ([0, 2, 8, 10, 11], [])
  | 19 => some ([8], [])
  | _ => none
def f28_C (R_f40 : f40_R) (R_f34 : f34_R) (R_f41 : f41_R) (R_f28 : f28_R) : Fns := (orC 28 (f28_cOf R_f28) (orC 34 (f34_cOf R_f34) (orC 40 (f40_cOf R_f40) (orC 41 (f41_cOf R_f41) noC))))
theorem f28_Cok (R_f40 : f40_R) (R_f34 : f34_R) (R_f41 : f41_R) (R_f28 : f28_R) (hR_f40 : AnsOk Try.prog 40 (f40_cOf R_f40)) (hR_f34 : AnsOk Try.prog 34 (f34_cOf R_f34)) (hR_f41 : AnsOk Try.prog 41 (f41_cOf R_f41)) (hR_f28 : AnsOk Try.prog 28 (f28_cOf R_f28)) : CsOk Try.prog (f28_C R_f40 R_f34 R_f41 R_f28) := (orC_ok hR_f28 (orC_ok hR_f34 (orC_ok hR_f40 (orC_ok hR_f41 noC_ok))))
def f28_cx (R_f40 : f40_R) (R_f34 : f34_R) (R_f41 : f41_R) (R_f28 : f28_R) (hR_f40 : AnsOk Try.prog 40 (f40_cOf R_f40)) (hR_f34 : AnsOk Try.prog 34 (f34_cOf R_f34)) (hR_f41 : AnsOk Try.prog 41 (f41_cOf R_f41)) (hR_f28 : AnsOk Try.prog 28 (f28_cOf R_f28)) : Cx := mkCx (tabOf rows) (f28_C R_f40 R_f34 R_f41 R_f28) md (cmpIn cmps) f28_plan (f28_Cok R_f40 R_f34 R_f41 R_f28 hR_f40 hR_f34 hR_f41 hR_f28)
def f28_S1 (v : (List CV) × Int × Nat × (List CV) × Int) : St := ⟨[(.ptr [1000] 0 0 0), (.sl true none v.1), (.v (CV.int .i64 v.2.1)), .undef, .undef, .undef, .undef, .undef, (.osl [8] (some 4) 0 v.2.2.1), .undef, .undef, .undef, .undef, .undef, .undef, .undef, .undef, .undef, .undef, .undef, .undef, .undef, .undef, .undef, .undef, .undef, .undef, .undef, .undef, .undef, .undef, .undef, .undef, .undef, .undef, .undef, .undef, .undef, .undef, .undef, .undef, .undef, .undef, .undef, .undef, .undef, .undef, .undef, .undef, .undef, .undef, .undef, .undef, .undef, .undef, .undef, .undef, .undef, .undef, .undef, .undef, .undef, .undef, .undef, .undef, .undef, .undef, .undef, .undef, .undef, .undef, .undef, .undef, .undef, .undef], [([8], (.row false (some 4) v.2.2.2.1)), ([1000], (.obj [(.v (CV.int .i64 v.2.2.2.2))]))]⟩
def f28_J1 {X : Type} (R_f40 : f40_R) (R_f34 : f34_R) (R_f41 : f41_R) (R_f28 : f28_R) (k : Nat) (K : Nat × Int × Int × (List CV) → Option X) (rec1 : (List CV) × Int × Nat × (List CV) × Int → Option X) (u9 : Int × Int × Int × (List CV) × Bool × (List CV) × (List CV)) (v4_0 : (List CV) × Int × Nat × (List CV) × Int) (v13 : Nat × Nat × (List CV) × (List CV) × Int) : Option X :=
grd (decide ((v4_0.2.2.1 + (List.length (List.take 1 (List.drop 0 [(CV.agg [(CV.int .i64 u9.1), (CV.int .i64 u9.2.1), (CV.slc none (List.take v13.1 (List.drop 0 v13.2.2.1))), (CV.slc (some 4) (List.take v13.2.1 (List.drop 0 v13.2.2.2.1)))])])))) * 64 ≤ 140737488355328)) <|
grd (decide (0 ≤ u9.2.2.1)) <|
grd (decide (u9.2.2.1 ≤ (Nat.cast ((List.length u9.2.2.2.1)) : Int))) <|
grd (decide ((Nat.cast ((List.length u9.2.2.2.1)) : Int) ≤ (Nat.cast ((List.length u9.2.2.2.1)) : Int))) <|
rec1 ((List.take ((List.length u9.2.2.2.1) - (Int.toNat u9.2.2.1)) (List.drop (Int.toNat u9.2.2.1) u9.2.2.2.1)), v4_0.2.1, (v4_0.2.2.1 + (List.length (List.take 1 (List.drop 0 [(CV.agg [(CV.int .i64 u9.1), (CV.int .i64 u9.2.1), (CV.slc none (List.take v13.1 (List.drop 0 v13.2.2.1))), (CV.slc (some 4) (List.take v13.2.1 (List.drop 0 v13.2.2.2.1)))])])))), ((List.take v4_0.2.2.1 v4_0.2.2.2.1) ++ (List.take 1 (List.drop 0 [(CV.agg [(CV.int .i64 u9.1), (CV.int .i64 u9.2.1), (CV.slc none (List.take v13.1 (List.drop 0 v13.2.2.1))), (CV.slc (some 4) (List.take v13.2.1 (List.drop 0 v13.2.2.2.1)))])]))), v13.2.2.2.2)
def f28_T1 {X : Type} (R_f40 : f40_R) (R_f34 : f34_R) (R_f41 : f41_R) (R_f28 : f28_R) (k : Nat) (K : Nat × Int × Int × (List CV) → Option X)   (rec1 : (List CV) × Int × Nat × (List CV) × Int → Option X) (v4_0 : (List CV) × Int × Nat × (List CV) × Int) : Option X :=
(bif (decide ((Nat.cast ((List.length v4_0.1)) : Int) > 0)) then
R_f40 _ (fun u9 =>
(bif (!u9.2.2.2.2.1) then
K (0, 20, v4_0.2.2.2.2, (List.take 0 []))
else
(bif (decide ((IntKind.wrap .i64 (v4_0.2.2.2.2 - 1)) < 0)) then
K (0, 3, (IntKind.wrap .i64 (v4_0.2.2.2.2 - 1)), (List.take 0 []))
else
(bif (decide (u9.2.2.1 > (Nat.cast ((List.length u9.2.2.2.1)) : Int))) then
K (0, 20, (IntKind.wrap .i64 (v4_0.2.2.2.2 - 1)), (List.take 0 []))
else
R_f34 _ (fun u14 =>
(bif u14 then
grd (decide (0 ≤ u9.2.2.1)) <|
grd (decide (u9.2.2.1 ≤ (Nat.cast ((List.length u9.2.2.2.1)) : Int))) <|
R_f28 _ (fun u15 =>
(bif (u15.2.1 != 0) then
K (0, u15.2.1, u15.2.2.1, (List.take 0 []))
else
f28_J1 R_f40 R_f34 R_f41 R_f28 k K rec1 u9 v4_0 (0, u15.1, u9.2.2.2.2.2.1, u15.2.2.2, u15.2.2.1))) ((List.take ((Int.toNat u9.2.2.1) - 0) (List.drop 0 u9.2.2.2.1))) (u9.1) ((IntKind.wrap .i64 (v4_0.2.2.2.2 - 1)))
else
grd (decide (0 ≤ u9.2.2.1)) <|
grd (decide (u9.2.2.1 ≤ (Nat.cast ((List.length u9.2.2.2.1)) : Int))) <|
R_f41 _ (fun u16 =>
f28_J1 R_f40 R_f34 R_f41 R_f28 k K rec1 u9 v4_0 ((List.length u16), 0, u16, u9.2.2.2.2.2.2, (IntKind.wrap .i64 (v4_0.2.2.2.2 - 1)))) ((List.take ((Int.toNat u9.2.2.1) - 0) (List.drop 0 u9.2.2.2.1))))) (u9.1))))) (v4_0.1) (v4_0.2.1)
else
K (v4_0.2.2.1, 0, v4_0.2.2.2.2, (List.take (0 + v4_0.2.2.1) v4_0.2.2.2.1)))
def f28_L1 {X : Type} (R_f40 : f40_R) (R_f34 : f34_R) (R_f41 : f41_R) (R_f28 : f28_R) (k : Nat) (K : Nat × Int × Int × (List CV) → Option X)  (rec1 : (List CV) × Int × Nat × (List CV) × Int → Option X) (v : (List CV) × Int × Nat × (List CV) × Int) : Option X := f28_T1 R_f40 R_f34 R_f41 R_f28 k K   rec1 v
set_option maxRecDepth 100000 in
theorem f28_L1_ev {X : Type} (R_f40 : f40_R) (R_f34 : f34_R) (R_f41 : f41_R) (R_f28 : f28_R) (hR_f40 : AnsOk Try.prog 40 (f40_cOf R_f40)) (hR_f34 : AnsOk Try.prog 34 (f34_cOf R_f34)) (hR_f41 : AnsOk Try.prog 41 (f41_cOf R_f41)) (hR_f28 : AnsOk Try.prog 28 (f28_cOf R_f28)) (k : Nat) (K : Out → Option X)  (r1 : St → Option X) (v : (List CV) × Int × Nat × (List CV) × Int) : loopB (f28_cx R_f40 R_f34 R_f41 R_f28 hR_f40 hR_f34 hR_f41 hR_f28) k [.r, .r, .l, .b] (Try.f28.body.getD .skip) (retK (f28_cx R_f40 R_f34 R_f41 R_f28 hR_f40 hR_f34 hR_f41 hR_f28) [⟨0, [0], some [0, 2000]⟩] Try.f28.results.toList K) [] r1 (f28_S1 v) = f28_T1 R_f40 R_f34 R_f41 R_f28 k (fun u => K (f28_out u))   (fun v => r1 (f28_S1 v)) v := by kernel_rfl
theorem f28_L1_it {X : Type} (R_f40 : f40_R) (R_f34 : f34_R) (R_f41 : f41_R) (R_f28 : f28_R) (hR_f40 : AnsOk Try.prog 40 (f40_cOf R_f40)) (hR_f34 : AnsOk Try.prog 34 (f34_cOf R_f34)) (hR_f41 : AnsOk Try.prog 41 (f41_cOf R_f41)) (hR_f28 : AnsOk Try.prog 28 (f28_cOf R_f28)) (k : Nat) (K : Out → Option X)  : (fun v => iter (loopB (f28_cx R_f40 R_f34 R_f41 R_f28 hR_f40 hR_f34 hR_f41 hR_f28) k [.r, .r, .l, .b] (Try.f28.body.getD .skip) (retK (f28_cx R_f40 R_f34 R_f41 R_f28 hR_f40 hR_f34 hR_f41 hR_f28) [⟨0, [0], some [0, 2000]⟩] Try.f28.results.toList K) []) k (f28_S1 v)) = iterV (f28_L1 R_f40 R_f34 R_f41 R_f28 k (fun u => K (f28_out u)) ) k :=
  iter_map (fun r1 v => (f28_L1_ev R_f40 R_f34 R_f41 R_f28 hR_f40 hR_f34 hR_f41 hR_f28 k K  r1 v).trans rfl) k
def f28_T {X : Type} (R_f40 : f40_R) (R_f34 : f34_R) (R_f41 : f41_R) (R_f28 : f28_R) (k : Nat) (K : Nat × Int × Int × (List CV) → Option X) (loop1 : (List CV) × Int × Nat × (List CV) × Int → Option X) (x0 : List CV) (x1 : Int) (x2 : Int) : Option X :=
loop1 (x0, x1, 0, [], x2)
/-- "(*outpost/tlv.reader).read" -/
def f28_A (R_f40 : f40_R) (R_f34 : f34_R) (R_f41 : f41_R) (R_f28 : f28_R) (k : Nat) : f28_R := fun X K x0 x1 x2 => f28_T R_f40 R_f34 R_f41 R_f28 k K (iterV (f28_L1 R_f40 R_f34 R_f41 R_f28 k K) k) x0 x1 x2
set_option maxRecDepth 100000 in
theorem f28_ev' {X : Type} (R_f40 : f40_R) (R_f34 : f34_R) (R_f41 : f41_R) (R_f28 : f28_R) (hR_f40 : AnsOk Try.prog 40 (f40_cOf R_f40)) (hR_f34 : AnsOk Try.prog 34 (f34_cOf R_f34)) (hR_f41 : AnsOk Try.prog 41 (f41_cOf R_f41)) (hR_f28 : AnsOk Try.prog 28 (f28_cOf R_f28)) (k : Nat) (K : Out → Option X) (x0 : List CV) (x1 : Int) (x2 : Int) : evFn (f28_cx R_f40 R_f34 R_f41 R_f28 hR_f40 hR_f34 hR_f41 hR_f28) [⟨0, [0], some [0, 2000]⟩] k Try.f28.ntmps Try.f28.results.toList (Try.f28.body.getD .skip) [(.ptr [1000] 0 0 0), (.sl true none x0), (.v (CV.int .i64 x1))] [([1000], (.obj [(.v (CV.int .i64 x2))]))] K = f28_T R_f40 R_f34 R_f41 R_f28 k (fun u => K (f28_out u)) (fun v => iter (loopB (f28_cx R_f40 R_f34 R_f41 R_f28 hR_f40 hR_f34 hR_f41 hR_f28) k [.r, .r, .l, .b] (Try.f28.body.getD .skip) (retK (f28_cx R_f40 R_f34 R_f41 R_f28 hR_f40 hR_f34 hR_f41 hR_f28) [⟨0, [0], some [0, 2000]⟩] Try.f28.results.toList K) []) k (f28_S1 v)) x0 x1 x2 := by kernel_rfl
theorem f28_ev {X : Type} (R_f40 : f40_R) (R_f34 : f34_R) (R_f41 : f41_R) (R_f28 : f28_R) (hR_f40 : AnsOk Try.prog 40 (f40_cOf R_f40)) (hR_f34 : AnsOk Try.prog 34 (f34_cOf R_f34)) (hR_f41 : AnsOk Try.prog 41 (f41_cOf R_f41)) (hR_f28 : AnsOk Try.prog 28 (f28_cOf R_f28)) (k : Nat) (K : Out → Option X) (x0 : List CV) (x1 : Int) (x2 : Int) : evFn (f28_cx R_f40 R_f34 R_f41 R_f28 hR_f40 hR_f34 hR_f41 hR_f28) [⟨0, [0], some [0, 2000]⟩] k Try.f28.ntmps Try.f28.results.toList (Try.f28.body.getD .skip) [(.ptr [1000] 0 0 0), (.sl true none x0), (.v (CV.int .i64 x1))] [([1000], (.obj [(.v (CV.int .i64 x2))]))] K = f28_A R_f40 R_f34 R_f41 R_f28 k X (fun u => K (f28_out u)) x0 x1 x2 := (f28_ev' R_f40 R_f34 R_f41 R_f28 hR_f40 hR_f34 hR_f41 hR_f28 k K x0 x1 x2).trans (by rw [f28_L1_it R_f40 R_f34 R_f41 R_f28 hR_f40 hR_f34 hR_f41 hR_f28 k K]; rfl)
theorem f28_okA (R_f40 : f40_R) (R_f34 : f34_R) (R_f41 : f41_R) (R_f28 : f28_R) (hR_f40 : AnsOk Try.prog 40 (f40_cOf R_f40)) (hR_f34 : AnsOk Try.prog 34 (f34_cOf R_f34)) (hR_f41 : AnsOk Try.prog 41 (f41_cOf R_f41)) (hR_f28 : AnsOk Try.prog 28 (f28_cOf R_f28)) (k : Nat) : AnsOk Try.prog 28 (f28_cOf (f28_A R_f40 R_f34 R_f41 R_f28 k)) := by
  intro X xs ns K x h
  unfold f28_cOf at h ⊢
  split at h
  · exact ans_main S (f28_Cok R_f40 R_f34 R_f41 R_f28 hR_f40 hR_f34 hR_f41 hR_f28) Try.func28 (ent_of Try.func28 (by kernel_rfl) rfl) rfl (fun X K => f28_ev R_f40 R_f34 R_f41 R_f28 hR_f40 hR_f34 hR_f41 hR_f28 k K _ _ _) h
  · cases h
def f28_r : Nat → f28_R
  | 0 => fun _ _ _ _ _ => none
  | k + 1 => f28_A (fun X => @f40 X k) (fun X => @f34 X k) (fun X => @f41 X k) (f28_r k) k
theorem f28_okr : ∀ k, AnsOk Try.prog 28 (f28_cOf (f28_r k))
  | 0 => by
    intro X xs ns K x h
    unfold f28_cOf at h
    split at h <;> cases h
  | k + 1 => f28_okA (fun X => @f40 X k) (fun X => @f34 X k) (fun X => @f41 X k) (f28_r k) (f40_ok k) (f34_ok k) (f41_ok k) (f28_okr k) k
def f28 {X : Type} (k : Nat) (K : Nat × Int × Int × (List CV) → Option X) (x0 : List CV) (x1 : Int) (x2 : Int) : Option X := f28_r k X K x0 x1 x2
theorem f28_ok (k : Nat) : AnsOk Try.prog 28 (f28_cOf (fun X => @f28 X k)) := f28_okr k
abbrev f16_R : Type 1 := (X : Type) → (Nat × Int × (List CV) → Option X) → (List CV) → Option X
def f16_out (u : Nat × Int × (List CV)) : Out := ⟨(.tup [(.osl [0, 2000] (some 4) 0 u.1), (.v (CV.int .i64 u.2.1))]), [([0, 2000], (.row false (some 4) u.2.2))]⟩
def f16_cOf (R : f16_R) : FnC := fun X xs ns K => match xs, ns with
  | [(.sl true none x0)], [] => R X (fun u => K (f16_out u)) x0
  | _, _ => none
def f16_plan : Nat → Option (List Nat × List Wk)
  | 0 => some ([0], [])
  | 1 => some ([0], [])
  | 2 => some ([0, 4], [])
  | _ => none
def f16_C (R_f28 : f28_R) : Fns := (orC 28 (f28_cOf R_f28) noC)
theorem f16_Cok (R_f28 : f28_R) (hR_f28 : AnsOk Try.prog 28 (f28_cOf R_f28)) : CsOk Try.prog (f16_C R_f28) := (orC_ok hR_f28 noC_ok)
def f16_cx (R_f28 : f28_R) (hR_f28 : AnsOk Try.prog 28 (f28_cOf R_f28)) : Cx := mkCx (tabOf rows) (f16_C R_f28) md (cmpIn cmps) f16_plan (f16_Cok R_f28 hR_f28)
def f16_T {X : Type} (R_f28 : f28_R) (k : Nat) (K : Nat × Int × (List CV) → Option X)  (x0 : List CV) : Option X :=
R_f28 _ (fun u1 =>
K (u1.1, u1.2.1, (List.take (0 + u1.1) u1.2.2.2))) (x0) ((-1)) (64)
/-- "outpost/tlv.Read" -/
def f16_A (R_f28 : f28_R) (k : Nat) : f16_R := fun X K x0 => f16_T R_f28 k K  x0
set_option maxRecDepth 100000 in
theorem f16_ev' {X : Type} (R_f28 : f28_R) (hR_f28 : AnsOk Try.prog 28 (f28_cOf R_f28)) (k : Nat) (K : Out → Option X) (x0 : List CV) : evFn (f16_cx R_f28 hR_f28) [] k Try.f16.ntmps Try.f16.results.toList (Try.f16.body.getD .skip) [(.sl true none x0)] [] K = f16_T R_f28 k (fun u => K (f16_out u)) x0 := by kernel_rfl
theorem f16_ev {X : Type} (R_f28 : f28_R) (hR_f28 : AnsOk Try.prog 28 (f28_cOf R_f28)) (k : Nat) (K : Out → Option X) (x0 : List CV) : evFn (f16_cx R_f28 hR_f28) [] k Try.f16.ntmps Try.f16.results.toList (Try.f16.body.getD .skip) [(.sl true none x0)] [] K = f16_A R_f28 k X (fun u => K (f16_out u)) x0 := (f16_ev' R_f28 hR_f28 k K x0).trans rfl
theorem f16_okA (R_f28 : f28_R) (hR_f28 : AnsOk Try.prog 28 (f28_cOf R_f28)) (k : Nat) : AnsOk Try.prog 16 (f16_cOf (f16_A R_f28 k)) := by
  intro X xs ns K x h
  unfold f16_cOf at h ⊢
  split at h
  · exact ans_main S (f16_Cok R_f28 hR_f28) Try.func16 (ent_of Try.func16 (by kernel_rfl) rfl) rfl (fun X K => f16_ev R_f28 hR_f28 k K _) h
  · cases h
/-- "outpost/tlv.Read" -/
def f16 {X : Type} (k : Nat) (K : Nat × Int × (List CV) → Option X) (x0 : List CV) : Option X := f16_A (fun X => @f28 X k) k X K x0
theorem f16_ok (k : Nat) : AnsOk Try.prog 16 (f16_cOf (fun X => @f16 X k)) := f16_okA (fun X => @f28 X k) (f28_ok k) k
abbrev f30_R : Type 1 := (X : Type) → (Int × Int × Nat × Nat × (List CV) × (List CV) → Option X) → CV → Option X
def f30_out (u : Int × Int × Nat × Nat × (List CV) × (List CV)) : Out := ⟨(.agg [(.v (CV.int .i64 u.1)), (.v (CV.int .i64 u.2.1)), (.osl [2, 2000] none 0 u.2.2.1), (.osl [3, 2000] (some 4) 0 u.2.2.2.1)]), [([2, 2000], (.row false none u.2.2.2.2.1)), ([3, 2000], (.row false (some 4) u.2.2.2.2.2))]⟩
def f30_cOf (R : f30_R) : FnC := fun X xs ns K => match xs, ns with
  | [(.v x0)], [] => R X (fun u => K (f30_out u)) x0
  | _, _ => none
def f30_plan : Nat → Option (List Nat × List Wk)
  | 0 => some ([0], [])
  | 1 => some ([1, 2], [])
  | 2 => some ([1, 2, 3], [])
  | 3 => some ([2, 3, 15, 16, 17], [])
  | 4 => some ([2, 3, 15, 16, 17], [])
  | 5 => some ([2, 3, 5, 15, 16, 17], [])
  | 6 => some ([2, 3, 15, 16, 17], [])
  | 7 => some ([2, 3], [])
  | _ => none
def f30_C (R_f41 : f41_R) (R_f30 : f30_R) : Fns := (orC 30 (f30_cOf R_f30) (orC 41 (f41_cOf R_f41) noC))
theorem f30_Cok (R_f41 : f41_R) (R_f30 : f30_R) (hR_f41 : AnsOk Try.prog 41 (f41_cOf R_f41)) (hR_f30 : AnsOk Try.prog 30 (f30_cOf R_f30)) : CsOk Try.prog (f30_C R_f41 R_f30) := (orC_ok hR_f30 (orC_ok hR_f41 noC_ok))
def f30_cx (R_f41 : f41_R) (R_f30 : f30_R) (hR_f41 : AnsOk Try.prog 41 (f41_cOf R_f41)) (hR_f30 : AnsOk Try.prog 30 (f30_cOf R_f30)) : Cx := mkCx (tabOf rows) (f30_C R_f41 R_f30) md (cmpIn cmps) f30_plan (f30_Cok R_f41 R_f30 hR_f41 hR_f30)
def f30_S1 (v : (List CV) × Int × Int × Int × Int × Nat × Nat × (List CV) × (List CV)) : St := ⟨[.undef, .undef, (.ptr [2] 0 0 0), (.ptr [3] 0 0 0), .undef, .undef, .undef, .undef, .undef, .undef, .undef, .undef, .undef, .undef, .undef, (.sl true (some 4) v.1), (.v (CV.int .i64 v.2.1)), (.v (CV.int .i64 v.2.2.1)), .undef, .undef, .undef, .undef, .undef, .undef, .undef, .undef, .undef, .undef, .undef, .undef], [([2], (.obj [(.v (CV.int .i64 0)), (.v (CV.int .i64 0)), (.osl [2, 2] none 0 0), (.osl [3, 2] (some 4) 0 0)])), ([2, 2], (.row false none [])), ([3, 2], (.row false (some 4) [])), ([3], (.obj [(.v (CV.int .i64 v.2.2.2.1)), (.v (CV.int .i64 v.2.2.2.2.1)), (.osl [2, 3] none 0 v.2.2.2.2.2.1), (.osl [3, 3] (some 4) 0 v.2.2.2.2.2.2.1)])), ([2, 3], (.row false none v.2.2.2.2.2.2.2.1)), ([3, 3], (.row false (some 4) v.2.2.2.2.2.2.2.2))]⟩
def f30_T1 {X : Type} (R_f41 : f41_R) (R_f30 : f30_R) (k : Nat) (K : Int × Int × Nat × Nat × (List CV) × (List CV) → Option X)   (rec1 : (List CV) × Int × Int × Int × Int × Nat × Nat × (List CV) × (List CV) → Option X) (v5_1 : (List CV) × Int × Int × Int × Int × Nat × Nat × (List CV) × (List CV)) : Option X :=
(bif (decide (v5_1.2.2.1 < v5_1.2.1)) then
grd (decide (0 ≤ v5_1.2.2.1)) <|
Option.bind (v5_1.1)[(Int.toNat v5_1.2.2.1)]? fun e9 =>
grd (CV.isA 4 e9) <|
grd (CV.isI .i64 (CV.cellD 0 e9)) <|
grd (CV.isI .i64 (CV.cellD 1 e9)) <|
grd (CV.isL none (CV.cellD 2 e9)) <|
grd (CV.isL (some 4) (CV.cellD 3 e9)) <|
R_f30 _ (fun u10 =>
grd (decide ((v5_1.2.2.2.2.2.2.1 + (List.length (List.take 1 (List.drop 0 [(CV.agg [(CV.int .i64 u10.1), (CV.int .i64 u10.2.1), (CV.slc none (List.take u10.2.2.1 (List.drop 0 u10.2.2.2.2.1))), (CV.slc (some 4) (List.take u10.2.2.2.1 (List.drop 0 u10.2.2.2.2.2)))])])))) * 64 ≤ 140737488355328)) <|
rec1 (v5_1.1, v5_1.2.1, (IntKind.wrap .i64 (v5_1.2.2.1 + 1)), v5_1.2.2.2.1, v5_1.2.2.2.2.1, v5_1.2.2.2.2.2.1, (v5_1.2.2.2.2.2.2.1 + (List.length (List.take 1 (List.drop 0 [(CV.agg [(CV.int .i64 u10.1), (CV.int .i64 u10.2.1), (CV.slc none (List.take u10.2.2.1 (List.drop 0 u10.2.2.2.2.1))), (CV.slc (some 4) (List.take u10.2.2.2.1 (List.drop 0 u10.2.2.2.2.2)))])])))), v5_1.2.2.2.2.2.2.2.1, ((List.take v5_1.2.2.2.2.2.2.1 v5_1.2.2.2.2.2.2.2.2) ++ (List.take 1 (List.drop 0 [(CV.agg [(CV.int .i64 u10.1), (CV.int .i64 u10.2.1), (CV.slc none (List.take u10.2.2.1 (List.drop 0 u10.2.2.2.2.1))), (CV.slc (some 4) (List.take u10.2.2.2.1 (List.drop 0 u10.2.2.2.2.2)))])]))))) ((CV.agg [(CV.int .i64 (CV.toI (CV.cellD 0 e9))), (CV.int .i64 (CV.toI (CV.cellD 1 e9))), (CV.slc none (CV.toL (CV.cellD 2 e9))), (CV.slc (some 4) (CV.toL (CV.cellD 3 e9)))]))
else
K (v5_1.2.2.2.1, v5_1.2.2.2.2.1, v5_1.2.2.2.2.2.1, v5_1.2.2.2.2.2.2.1, (List.take (0 + v5_1.2.2.2.2.2.1) v5_1.2.2.2.2.2.2.2.1), (List.take (0 + v5_1.2.2.2.2.2.2.1) v5_1.2.2.2.2.2.2.2.2)))
def f30_L1 {X : Type} (R_f41 : f41_R) (R_f30 : f30_R) (k : Nat) (K : Int × Int × Nat × Nat × (List CV) × (List CV) → Option X)  (rec1 : (List CV) × Int × Int × Int × Int × Nat × Nat × (List CV) × (List CV) → Option X) (v : (List CV) × Int × Int × Int × Int × Nat × Nat × (List CV) × (List CV)) : Option X := f30_T1 R_f41 R_f30 k K   rec1 v
set_option maxRecDepth 100000 in
theorem f30_L1_ev {X : Type} (R_f41 : f41_R) (R_f30 : f30_R) (hR_f41 : AnsOk Try.prog 41 (f41_cOf R_f41)) (hR_f30 : AnsOk Try.prog 30 (f30_cOf R_f30)) (k : Nat) (K : Out → Option X)  (r1 : St → Option X) (v : (List CV) × Int × Int × Int × Int × Nat × Nat × (List CV) × (List CV)) : loopB (f30_cx R_f41 R_f30 hR_f41 hR_f30) k [.r, .r, .l, .r, .b] (Try.f30.body.getD .skip) (retK (f30_cx R_f41 R_f30 hR_f41 hR_f30) [] Try.f30.results.toList K) [] r1 (f30_S1 v) = f30_T1 R_f41 R_f30 k (fun u => K (f30_out u))   (fun v => r1 (f30_S1 v)) v := by kernel_rfl
theorem f30_L1_it {X : Type} (R_f41 : f41_R) (R_f30 : f30_R) (hR_f41 : AnsOk Try.prog 41 (f41_cOf R_f41)) (hR_f30 : AnsOk Try.prog 30 (f30_cOf R_f30)) (k : Nat) (K : Out → Option X)  : (fun v => iter (loopB (f30_cx R_f41 R_f30 hR_f41 hR_f30) k [.r, .r, .l, .r, .b] (Try.f30.body.getD .skip) (retK (f30_cx R_f41 R_f30 hR_f41 hR_f30) [] Try.f30.results.toList K) []) k (f30_S1 v)) = iterV (f30_L1 R_f41 R_f30 k (fun u => K (f30_out u)) ) k :=
  iter_map (fun r1 v => (f30_L1_ev R_f41 R_f30 hR_f41 hR_f30 k K  r1 v).trans rfl) k
def f30_T {X : Type} (R_f41 : f41_R) (R_f30 : f30_R) (k : Nat) (K : Int × Int × Nat × Nat × (List CV) × (List CV) → Option X) (loop1 : (List CV) × Int × Int × Int × Int × Nat × Nat × (List CV) × (List CV) → Option X) (x0 : CV) : Option X :=
grd (CV.isA 4 x0) <|
grd (CV.isI .i64 (CV.cellD 0 x0)) <|
grd (CV.isI .i64 (CV.cellD 1 x0)) <|
grd (CV.isL none (CV.cellD 2 x0)) <|
grd (CV.isL (some 4) (CV.cellD 3 x0)) <|
R_f41 _ (fun u1 =>
loop1 ((CV.toL (CV.cellD 3 x0)), (Nat.cast ((List.length (CV.toL (CV.cellD 3 x0)))) : Int), 0, (CV.toI (CV.cellD 0 x0)), (CV.toI (CV.cellD 1 x0)), (List.length u1), 0, u1, [])) ((CV.toL (CV.cellD 2 x0)))
/-- "outpost/tlv.copied" -/
def f30_A (R_f41 : f41_R) (R_f30 : f30_R) (k : Nat) : f30_R := fun X K x0 => f30_T R_f41 R_f30 k K (iterV (f30_L1 R_f41 R_f30 k K) k) x0
set_option maxRecDepth 100000 in
theorem f30_ev' {X : Type} (R_f41 : f41_R) (R_f30 : f30_R) (hR_f41 : AnsOk Try.prog 41 (f41_cOf R_f41)) (hR_f30 : AnsOk Try.prog 30 (f30_cOf R_f30)) (k : Nat) (K : Out → Option X) (x0 : CV) : evFn (f30_cx R_f41 R_f30 hR_f41 hR_f30) [] k Try.f30.ntmps Try.f30.results.toList (Try.f30.body.getD .skip) [(.v x0)] [] K = f30_T R_f41 R_f30 k (fun u => K (f30_out u)) (fun v => iter (loopB (f30_cx R_f41 R_f30 hR_f41 hR_f30) k [.r, .r, .l, .r, .b] (Try.f30.body.getD .skip) (retK (f30_cx R_f41 R_f30 hR_f41 hR_f30) [] Try.f30.results.toList K) []) k (f30_S1 v)) x0 := by kernel_rfl
theorem f30_ev {X : Type} (R_f41 : f41_R) (R_f30 : f30_R) (hR_f41 : AnsOk Try.prog 41 (f41_cOf R_f41)) (hR_f30 : AnsOk Try.prog 30 (f30_cOf R_f30)) (k : Nat) (K : Out → Option X) (x0 : CV) : evFn (f30_cx R_f41 R_f30 hR_f41 hR_f30) [] k Try.f30.ntmps Try.f30.results.toList (Try.f30.body.getD .skip) [(.v x0)] [] K = f30_A R_f41 R_f30 k X (fun u => K (f30_out u)) x0 := (f30_ev' R_f41 R_f30 hR_f41 hR_f30 k K x0).trans (by rw [f30_L1_it R_f41 R_f30 hR_f41 hR_f30 k K]; rfl)
theorem f30_okA (R_f41 : f41_R) (R_f30 : f30_R) (hR_f41 : AnsOk Try.prog 41 (f41_cOf R_f41)) (hR_f30 : AnsOk Try.prog 30 (f30_cOf R_f30)) (k : Nat) : AnsOk Try.prog 30 (f30_cOf (f30_A R_f41 R_f30 k)) := by
  intro X xs ns K x h
  unfold f30_cOf at h ⊢
  split at h
  · exact ans_main S (f30_Cok R_f41 R_f30 hR_f41 hR_f30) Try.func30 (ent_of Try.func30 (by kernel_rfl) rfl) rfl (fun X K => f30_ev R_f41 R_f30 hR_f41 hR_f30 k K _) h
  · cases h
def f30_r : Nat → f30_R
  | 0 => fun _ _ _ => none
  | k + 1 => f30_A (fun X => @f41 X k) (f30_r k) k
theorem f30_okr : ∀ k, AnsOk Try.prog 30 (f30_cOf (f30_r k))
  | 0 => by
    intro X xs ns K x h
    unfold f30_cOf at h
    split at h <;> cases h
  | k + 1 => f30_okA (fun X => @f41 X k) (f30_r k) (f41_ok k) (f30_okr k) k
def f30 {X : Type} (k : Nat) (K : Int × Int × Nat × Nat × (List CV) × (List CV) → Option X) (x0 : CV) : Option X := f30_r k X K x0
theorem f30_ok (k : Nat) : AnsOk Try.prog 30 (f30_cOf (fun X => @f30 X k)) := f30_okr k
abbrev f19_R : Type 1 := (X : Type) → (Int × Int × Nat × Nat × Bool × (List CV) × (List CV) → Option X) → (List CV) → Int → Int → Option X
def f19_out (u : Int × Int × Nat × Nat × Bool × (List CV) × (List CV)) : Out := ⟨(.tup [(.agg [(.v (CV.int .i64 u.1)), (.v (CV.int .i64 u.2.1)), (.osl [2, 0, 2000] none 0 u.2.2.1), (.osl [3, 0, 2000] (some 4) 0 u.2.2.2.1)]), (.v (CV.bool u.2.2.2.2.1))]), [([2, 0, 2000], (.row false none u.2.2.2.2.2.1)), ([3, 0, 2000], (.row false (some 4) u.2.2.2.2.2.2))]⟩
def f19_cOf (R : f19_R) : FnC := fun X xs ns K => match xs, ns with
  | [(.sl false (some 4) x0), (.v (CV.int .i64 x1)), (.v (CV.int .i64 x2))], [] => R X (fun u => K (f19_out u)) x0 x1 x2
  | _, _ => none
def f19_plan : Nat → Option (List Nat × List Wk)
  | 0 => some ([0, 1, 2], [])
  | 1 => some ([0, 1, 2, 6], [])
  | 2 => some ([1, 2, 6, 10, 11, 12], [])
  | 3 => some ([1, 2, 6, 10, 11, 12], [])
  | 4 => some ([1, 2, 6, 9, 10, 11, 12], [])
  | 5 => some ([6, 9], [])
  | 6 => some ([1, 2, 6, 10, 11, 12], [])
  | 7 => some ([6], [])
  | _ => none
def f19_C (R_f30 : f30_R) : Fns := (orC 30 (f30_cOf R_f30) noC)
theorem f19_Cok (R_f30 : f30_R) (hR_f30 : AnsOk Try.prog 30 (f30_cOf R_f30)) : CsOk Try.prog (f19_C R_f30) := (orC_ok hR_f30 noC_ok)
def f19_cx (R_f30 : f30_R) (hR_f30 : AnsOk Try.prog 30 (f30_cOf R_f30)) : Cx := mkCx (tabOf rows) (f19_C R_f30) md (cmpIn cmps) f19_plan (f19_Cok R_f30 hR_f30)
def f19_S1 (v : Int × Int × (List CV) × Int × Int) : St := ⟨[.undef, (.v (CV.int .i64 v.1)), (.v (CV.int .i64 v.2.1)), .undef, .undef, .undef, (.ptr [6] 0 0 0), .undef, .undef, .undef, (.sl false (some 4) v.2.2.1), (.v (CV.int .i64 v.2.2.2.1)), (.v (CV.int .i64 v.2.2.2.2)), .undef, .undef, .undef, .undef, .undef, .undef, .undef, .undef, .undef, .undef, .undef, .undef, .undef, .undef, .undef, .undef, .undef], [([6], (.obj [(.v (CV.int .i64 0)), (.v (CV.int .i64 0)), (.osl [2, 6] none 0 0), (.osl [3, 6] (some 4) 0 0)])), ([2, 6], (.row false none [])), ([3, 6], (.row false (some 4) []))]⟩
def f19_J1 {X : Type} (R_f30 : f30_R) (k : Nat) (K : Int × Int × Nat × Nat × Bool × (List CV) × (List CV) → Option X) (rec1 : Int × Int × (List CV) × Int × Int → Option X) (v4_0 : Int × Int × (List CV) × Int × Int) (v8 : Unit) : Option X :=
rec1 (v4_0.1, v4_0.2.1, v4_0.2.2.1, v4_0.2.2.2.1, (IntKind.wrap .i64 (v4_0.2.2.2.2 + 1)))
def f19_T1 {X : Type} (R_f30 : f30_R) (k : Nat) (K : Int × Int × Nat × Nat × Bool × (List CV) × (List CV) → Option X)   (rec1 : Int × Int × (List CV) × Int × Int → Option X) (v4_0 : Int × Int × (List CV) × Int × Int) : Option X :=
(bif (decide (v4_0.2.2.2.2 < v4_0.2.2.2.1)) then
grd (decide (0 ≤ v4_0.2.2.2.2)) <|
Option.bind (v4_0.2.2.1)[(Int.toNat v4_0.2.2.2.2)]? fun e9 =>
grd (CV.isA 4 e9) <|
grd (CV.isI .i64 (CV.cellD 0 e9)) <|
grd (CV.isI .i64 (CV.cellD 1 e9)) <|
grd (CV.isL none (CV.cellD 2 e9)) <|
grd (CV.isL (some 4) (CV.cellD 3 e9)) <|
(bif ((CV.toI (CV.cellD 0 e9)) == v4_0.1) then
(bif ((CV.toI (CV.cellD 1 e9)) == v4_0.2.1) then
R_f30 _ (fun u10 =>
K (u10.1, u10.2.1, u10.2.2.1, u10.2.2.2.1, true, (List.take (0 + u10.2.2.1) u10.2.2.2.2.1), (List.take (0 + u10.2.2.2.1) u10.2.2.2.2.2))) ((CV.agg [(CV.int .i64 (CV.toI (CV.cellD 0 e9))), (CV.int .i64 (CV.toI (CV.cellD 1 e9))), (CV.slc none (CV.toL (CV.cellD 2 e9))), (CV.slc (some 4) (CV.toL (CV.cellD 3 e9)))]))
else
f19_J1 R_f30 k K rec1 v4_0 (()))
else
f19_J1 R_f30 k K rec1 v4_0 (()))
else
K (0, 0, 0, 0, false, (List.take 0 []), (List.take 0 [])))
def f19_L1 {X : Type} (R_f30 : f30_R) (k : Nat) (K : Int × Int × Nat × Nat × Bool × (List CV) × (List CV) → Option X)  (rec1 : Int × Int × (List CV) × Int × Int → Option X) (v : Int × Int × (List CV) × Int × Int) : Option X := f19_T1 R_f30 k K   rec1 v
set_option maxRecDepth 100000 in
theorem f19_L1_ev {X : Type} (R_f30 : f30_R) (hR_f30 : AnsOk Try.prog 30 (f30_cOf R_f30)) (k : Nat) (K : Out → Option X)  (r1 : St → Option X) (v : Int × Int × (List CV) × Int × Int) : loopB (f19_cx R_f30 hR_f30) k [.r, .l, .r, .b] (Try.f19.body.getD .skip) (retK (f19_cx R_f30 hR_f30) [] Try.f19.results.toList K) [] r1 (f19_S1 v) = f19_T1 R_f30 k (fun u => K (f19_out u))   (fun v => r1 (f19_S1 v)) v := by kernel_rfl
theorem f19_L1_it {X : Type} (R_f30 : f30_R) (hR_f30 : AnsOk Try.prog 30 (f30_cOf R_f30)) (k : Nat) (K : Out → Option X)  : (fun v => iter (loopB (f19_cx R_f30 hR_f30) k [.r, .l, .r, .b] (Try.f19.body.getD .skip) (retK (f19_cx R_f30 hR_f30) [] Try.f19.results.toList K) []) k (f19_S1 v)) = iterV (f19_L1 R_f30 k (fun u => K (f19_out u)) ) k :=
  iter_map (fun r1 v => (f19_L1_ev R_f30 hR_f30 k K  r1 v).trans rfl) k
def f19_T {X : Type} (R_f30 : f30_R) (k : Nat) (K : Int × Int × Nat × Nat × Bool × (List CV) × (List CV) → Option X) (loop1 : Int × Int × (List CV) × Int × Int → Option X) (x0 : List CV) (x1 : Int) (x2 : Int) : Option X :=
loop1 (x1, x2, x0, (Nat.cast ((List.length x0)) : Int), 0)
/-- "outpost/tlv.Find" -/
def f19_A (R_f30 : f30_R) (k : Nat) : f19_R := fun X K x0 x1 x2 => f19_T R_f30 k K (iterV (f19_L1 R_f30 k K) k) x0 x1 x2
set_option maxRecDepth 100000 in
theorem f19_ev' {X : Type} (R_f30 : f30_R) (hR_f30 : AnsOk Try.prog 30 (f30_cOf R_f30)) (k : Nat) (K : Out → Option X) (x0 : List CV) (x1 : Int) (x2 : Int) : evFn (f19_cx R_f30 hR_f30) [] k Try.f19.ntmps Try.f19.results.toList (Try.f19.body.getD .skip) [(.sl false (some 4) x0), (.v (CV.int .i64 x1)), (.v (CV.int .i64 x2))] [] K = f19_T R_f30 k (fun u => K (f19_out u)) (fun v => iter (loopB (f19_cx R_f30 hR_f30) k [.r, .l, .r, .b] (Try.f19.body.getD .skip) (retK (f19_cx R_f30 hR_f30) [] Try.f19.results.toList K) []) k (f19_S1 v)) x0 x1 x2 := by kernel_rfl
theorem f19_ev {X : Type} (R_f30 : f30_R) (hR_f30 : AnsOk Try.prog 30 (f30_cOf R_f30)) (k : Nat) (K : Out → Option X) (x0 : List CV) (x1 : Int) (x2 : Int) : evFn (f19_cx R_f30 hR_f30) [] k Try.f19.ntmps Try.f19.results.toList (Try.f19.body.getD .skip) [(.sl false (some 4) x0), (.v (CV.int .i64 x1)), (.v (CV.int .i64 x2))] [] K = f19_A R_f30 k X (fun u => K (f19_out u)) x0 x1 x2 := (f19_ev' R_f30 hR_f30 k K x0 x1 x2).trans (by rw [f19_L1_it R_f30 hR_f30 k K]; rfl)
theorem f19_okA (R_f30 : f30_R) (hR_f30 : AnsOk Try.prog 30 (f30_cOf R_f30)) (k : Nat) : AnsOk Try.prog 19 (f19_cOf (f19_A R_f30 k)) := by
  intro X xs ns K x h
  unfold f19_cOf at h ⊢
  split at h
  · exact ans_main S (f19_Cok R_f30 hR_f30) Try.func19 (ent_of Try.func19 (by kernel_rfl) rfl) rfl (fun X K => f19_ev R_f30 hR_f30 k K _ _ _) h
  · cases h
/-- "outpost/tlv.Find" -/
def f19 {X : Type} (k : Nat) (K : Int × Int × Nat × Nat × Bool × (List CV) × (List CV) → Option X) (x0 : List CV) (x1 : Int) (x2 : Int) : Option X := f19_A (fun X => @f30 X k) k X K x0 x1 x2
theorem f19_ok (k : Nat) : AnsOk Try.prog 19 (f19_cOf (fun X => @f19 X k)) := f19_okA (fun X => @f30 X k) (f30_ok k) k
abbrev f33_R : Type 1 := (X : Type) → (Bool → Option X) → (List CV) → (List CV) → Option X
def f33_out (u : Bool) : Out := ⟨(.v (CV.bool u)), []⟩
def f33_cOf (R : f33_R) : FnC := fun X xs ns K => match xs, ns with
  | [(.sl false none x0), (.sl false none x1)], [] => R X (fun u => K (f33_out u)) x0 x1
  | _, _ => none
def f33_plan : Nat → Option (List Nat × List Wk)
  | 0 => some ([0, 1], [])
  | 1 => some ([0, 1], [])
  | _ => none
def f33_C : Fns := noC
theorem f33_Cok : CsOk Try.prog (f33_C) := noC_ok
def f33_cx : Cx := mkCx (tabOf rows) (f33_C) md (cmpIn cmps) f33_plan (f33_Cok)
def f33_T {X : Type} (k : Nat) (K : Bool → Option X)  (x0 : List CV) (x1 : List CV) : Option X :=
grd (shEq none none && List.all x0 (CV.isI .u8)) <|
grd (shEq none none && List.all x1 (CV.isI .u8)) <|
K (((bytesOf x0).toList == (bytesOf x1).toList))
/-- "bytes.Equal" -/
def f33_A (k : Nat) : f33_R := fun X K x0 x1 => f33_T k K  x0 x1
set_option maxRecDepth 100000 in
theorem f33_ev' {X : Type} (k : Nat) (K : Out → Option X) (x0 : List CV) (x1 : List CV) : evFn (f33_cx) [] k Try.f33.ntmps Try.f33.results.toList (Try.f33.body.getD .skip) [(.sl false none x0), (.sl false none x1)] [] K = f33_T k (fun u => K (f33_out u)) x0 x1 := by kernel_rfl
theorem f33_ev {X : Type} (k : Nat) (K : Out → Option X) (x0 : List CV) (x1 : List CV) : evFn (f33_cx) [] k Try.f33.ntmps Try.f33.results.toList (Try.f33.body.getD .skip) [(.sl false none x0), (.sl false none x1)] [] K = f33_A k X (fun u => K (f33_out u)) x0 x1 := (f33_ev' k K x0 x1).trans rfl
theorem f33_okA (k : Nat) : AnsOk Try.prog 33 (f33_cOf (f33_A k)) := by
  intro X xs ns K x h
  unfold f33_cOf at h ⊢
  split at h
  · exact ans_main S (f33_Cok) Try.func33 (ent_of Try.func33 (by kernel_rfl) rfl) rfl (fun X K => f33_ev k K _ _) h
  · cases h
/-- "bytes.Equal" -/
def f33 {X : Type} (k : Nat) (K : Bool → Option X) (x0 : List CV) (x1 : List CV) : Option X := f33_A k X K x0 x1
theorem f33_ok (k : Nat) : AnsOk Try.prog 33 (f33_cOf (fun X => @f33 X k)) := f33_okA k
abbrev f20_R : Type 1 := (X : Type) → (Bool → Option X) → (List CV) → (List CV) → Option X
def f20_out (u : Bool) : Out := ⟨(.v (CV.bool u)), []⟩
def f20_cOf (R : f20_R) : FnC := fun X xs ns K => match xs, ns with
  | [(.sl false (some 4) x0), (.sl false (some 4) x1)], [] => R X (fun u => K (f20_out u)) x0 x1
  | _, _ => none
abbrev f32_R : Type 1 := (X : Type) → (Bool → Option X) → CV → CV → Option X
def f32_out (u : Bool) : Out := ⟨(.v (CV.bool u)), []⟩
def f32_cOf (R : f32_R) : FnC := fun X xs ns K => match xs, ns with
  | [(.v x0), (.v x1)], [] => R X (fun u => K (f32_out u)) x0 x1
  | _, _ => none
def f32_plan : Nat → Option (List Nat × List Wk)
  | 0 => some ([0, 1], [])
  | 1 => some ([2, 3], [])
  | _ => none
def f32_C (R_f33 : f33_R) (R_f20 : f20_R) : Fns := (orC 20 (f20_cOf R_f20) (orC 33 (f33_cOf R_f33) noC))
theorem f32_Cok (R_f33 : f33_R) (R_f20 : f20_R) (hR_f33 : AnsOk Try.prog 33 (f33_cOf R_f33)) (hR_f20 : AnsOk Try.prog 20 (f20_cOf R_f20)) : CsOk Try.prog (f32_C R_f33 R_f20) := (orC_ok hR_f20 (orC_ok hR_f33 noC_ok))
def f32_cx (R_f33 : f33_R) (R_f20 : f20_R) (hR_f33 : AnsOk Try.prog 33 (f33_cOf R_f33)) (hR_f20 : AnsOk Try.prog 20 (f20_cOf R_f20)) : Cx := mkCx (tabOf rows) (f32_C R_f33 R_f20) md (cmpIn cmps) f32_plan (f32_Cok R_f33 R_f20 hR_f33 hR_f20)
def f32_T {X : Type} (R_f33 : f33_R) (R_f20 : f20_R) (k : Nat) (K : Bool → Option X)  (x0 : CV) (x1 : CV) : Option X :=
grd (CV.isA 4 x0) <|
grd (CV.isI .i64 (CV.cellD 0 x0)) <|
grd (CV.isI .i64 (CV.cellD 1 x0)) <|
grd (CV.isL none (CV.cellD 2 x0)) <|
grd (CV.isL (some 4) (CV.cellD 3 x0)) <|
grd (CV.isA 4 x1) <|
grd (CV.isI .i64 (CV.cellD 0 x1)) <|
grd (CV.isI .i64 (CV.cellD 1 x1)) <|
grd (CV.isL none (CV.cellD 2 x1)) <|
grd (CV.isL (some 4) (CV.cellD 3 x1)) <|
(bif ((CV.toI (CV.cellD 0 x0)) == (CV.toI (CV.cellD 0 x1))) then
(bif ((CV.toI (CV.cellD 1 x0)) == (CV.toI (CV.cellD 1 x1))) then
R_f33 _ (fun u1 =>
(bif u1 then
R_f20 _ (fun u2 =>
K (u2)) ((CV.toL (CV.cellD 3 x0))) ((CV.toL (CV.cellD 3 x1)))
else
K (false))) ((CV.toL (CV.cellD 2 x0))) ((CV.toL (CV.cellD 2 x1)))
else
K (false))
else
K (false))
/-- "outpost/tlv.Same$1" -/
def f32_A (R_f33 : f33_R) (R_f20 : f20_R) (k : Nat) : f32_R := fun X K x0 x1 => f32_T R_f33 R_f20 k K  x0 x1
set_option maxRecDepth 100000 in
theorem f32_ev' {X : Type} (R_f33 : f33_R) (R_f20 : f20_R) (hR_f33 : AnsOk Try.prog 33 (f33_cOf R_f33)) (hR_f20 : AnsOk Try.prog 20 (f20_cOf R_f20)) (k : Nat) (K : Out → Option X) (x0 : CV) (x1 : CV) : evFn (f32_cx R_f33 R_f20 hR_f33 hR_f20) [] k Try.f32.ntmps Try.f32.results.toList (Try.f32.body.getD .skip) [(.v x0), (.v x1)] [] K = f32_T R_f33 R_f20 k (fun u => K (f32_out u)) x0 x1 := by kernel_rfl
theorem f32_ev {X : Type} (R_f33 : f33_R) (R_f20 : f20_R) (hR_f33 : AnsOk Try.prog 33 (f33_cOf R_f33)) (hR_f20 : AnsOk Try.prog 20 (f20_cOf R_f20)) (k : Nat) (K : Out → Option X) (x0 : CV) (x1 : CV) : evFn (f32_cx R_f33 R_f20 hR_f33 hR_f20) [] k Try.f32.ntmps Try.f32.results.toList (Try.f32.body.getD .skip) [(.v x0), (.v x1)] [] K = f32_A R_f33 R_f20 k X (fun u => K (f32_out u)) x0 x1 := (f32_ev' R_f33 R_f20 hR_f33 hR_f20 k K x0 x1).trans rfl
theorem f32_okA (R_f33 : f33_R) (R_f20 : f20_R) (hR_f33 : AnsOk Try.prog 33 (f33_cOf R_f33)) (hR_f20 : AnsOk Try.prog 20 (f20_cOf R_f20)) (k : Nat) : AnsOk Try.prog 32 (f32_cOf (f32_A R_f33 R_f20 k)) := by
  intro X xs ns K x h
  unfold f32_cOf at h ⊢
  split at h
  · exact ans_main S (f32_Cok R_f33 R_f20 hR_f33 hR_f20) Try.func32 (ent_of Try.func32 (by kernel_rfl) rfl) rfl (fun X K => f32_ev R_f33 R_f20 hR_f33 hR_f20 k K _ _) h
  · cases h
/-- "outpost/tlv.Same$1" -/
def f32 {X : Type} (R_f20 : f20_R) (k : Nat) (K : Bool → Option X) (x0 : CV) (x1 : CV) : Option X := f32_A (fun X => @f33 X k) R_f20 k X K x0 x1
theorem f32_ok (R_f20 : f20_R) (hR_f20 : AnsOk Try.prog 20 (f20_cOf R_f20)) (k : Nat) : AnsOk Try.prog 32 (f32_cOf (fun X => @f32 X R_f20 k)) := f32_okA (fun X => @f33 X k) R_f20 (f33_ok k) hR_f20 k
abbrev f31_R : Type 1 := (X : Type) → (Bool → Option X) → (List CV) → (List CV) → Option X
def f31_out (u : Bool) : Out := ⟨(.v (CV.bool u)), []⟩
def f31_cOf (R : f31_R) : FnC := fun X xs ns K => match xs, ns with
  | [(.sl false (some 4) x0), (.sl false (some 4) x1), (.fn 32 [])], [] => R X (fun u => K (f31_out u)) x0 x1
  | _, _ => none
def f31_plan : Nat → Option (List Nat × List Wk)
  | 0 => some ([0, 1, 2], [])
  | 1 => some ([0, 1, 2], [])
  | 2 => some ([], [])
  | 3 => some ([0, 1, 2], [])
  | 4 => some ([1, 2, 15, 16, 17], [])
  | 5 => some ([1, 2, 15, 16, 17], [])
  | 6 => some ([1, 2, 7, 8, 15, 16, 17], [])
  | 7 => some ([1, 2, 8, 9, 15, 16, 17], [])
  | 8 => some ([], [])
  | 9 => some ([1, 2, 15, 16, 17], [])
  | 10 => some ([], [])
  | _ => none
def f31_C (R_f32 : f32_R) : Fns := (orC 32 (f32_cOf R_f32) noC)
theorem f31_Cok (R_f32 : f32_R) (hR_f32 : AnsOk Try.prog 32 (f32_cOf R_f32)) : CsOk Try.prog (f31_C R_f32) := (orC_ok hR_f32 noC_ok)
def f31_cx (R_f32 : f32_R) (hR_f32 : AnsOk Try.prog 32 (f32_cOf R_f32)) : Cx := mkCx (tabOf rows) (f31_C R_f32) md (cmpIn cmps) f31_plan (f31_Cok R_f32 hR_f32)
def f31_S1 (v : (List CV) × (List CV) × Int × Int) : St := ⟨[.undef, (.sl false (some 4) v.1), (.fn 32 []), .undef, .undef, .undef, .undef, .undef, .undef, .undef, .undef, .undef, .undef, .undef, .undef, (.sl false (some 4) v.2.1), (.v (CV.int .i64 v.2.2.1)), (.v (CV.int .i64 v.2.2.2)), .undef, .undef, .undef, .undef, .undef, .undef, .undef, .undef, .undef, .undef, .undef, .undef, .undef, .undef], []⟩
def f31_T1 {X : Type} (R_f32 : f32_R) (k : Nat) (K : Bool → Option X)   (rec1 : (List CV) × (List CV) × Int × Int → Option X) (v5_0 : (List CV) × (List CV) × Int × Int) : Option X :=
(bif (decide (v5_0.2.2.2 < v5_0.2.2.1)) then
grd (decide (0 ≤ v5_0.2.2.2)) <|
Option.bind (v5_0.2.1)[(Int.toNat v5_0.2.2.2)]? fun e11 =>
grd (CV.isA 4 e11) <|
grd (CV.isI .i64 (CV.cellD 0 e11)) <|
grd (CV.isI .i64 (CV.cellD 1 e11)) <|
grd (CV.isL none (CV.cellD 2 e11)) <|
grd (CV.isL (some 4) (CV.cellD 3 e11)) <|
grd (decide (0 ≤ v5_0.2.2.2)) <|
Option.bind (v5_0.1)[(Int.toNat v5_0.2.2.2)]? fun e12 =>
grd (CV.isA 4 e12) <|
grd (CV.isI .i64 (CV.cellD 0 e12)) <|
grd (CV.isI .i64 (CV.cellD 1 e12)) <|
grd (CV.isL none (CV.cellD 2 e12)) <|
grd (CV.isL (some 4) (CV.cellD 3 e12)) <|
R_f32 _ (fun u13 =>
(bif (!u13) then
K (false)
else
rec1 (v5_0.1, v5_0.2.1, v5_0.2.2.1, (IntKind.wrap .i64 (v5_0.2.2.2 + 1))))) ((CV.agg [(CV.int .i64 (CV.toI (CV.cellD 0 e11))), (CV.int .i64 (CV.toI (CV.cellD 1 e11))), (CV.slc none (CV.toL (CV.cellD 2 e11))), (CV.slc (some 4) (CV.toL (CV.cellD 3 e11)))])) ((CV.agg [(CV.int .i64 (CV.toI (CV.cellD 0 e12))), (CV.int .i64 (CV.toI (CV.cellD 1 e12))), (CV.slc none (CV.toL (CV.cellD 2 e12))), (CV.slc (some 4) (CV.toL (CV.cellD 3 e12)))]))
else
K (true))
def f31_L1 {X : Type} (R_f32 : f32_R) (k : Nat) (K : Bool → Option X)  (rec1 : (List CV) × (List CV) × Int × Int → Option X) (v : (List CV) × (List CV) × Int × Int) : Option X := f31_T1 R_f32 k K   rec1 v
set_option maxRecDepth 100000 in
theorem f31_L1_ev {X : Type} (R_f32 : f32_R) (hR_f32 : AnsOk Try.prog 32 (f32_cOf R_f32)) (k : Nat) (K : Out → Option X)  (r1 : St → Option X) (v : (List CV) × (List CV) × Int × Int) : loopB (f31_cx R_f32 hR_f32) k [.r, .r, .l, .r, .b] (Try.f31.body.getD .skip) (retK (f31_cx R_f32 hR_f32) [] Try.f31.results.toList K) [] r1 (f31_S1 v) = f31_T1 R_f32 k (fun u => K (f31_out u))   (fun v => r1 (f31_S1 v)) v := by kernel_rfl
theorem f31_L1_it {X : Type} (R_f32 : f32_R) (hR_f32 : AnsOk Try.prog 32 (f32_cOf R_f32)) (k : Nat) (K : Out → Option X)  : (fun v => iter (loopB (f31_cx R_f32 hR_f32) k [.r, .r, .l, .r, .b] (Try.f31.body.getD .skip) (retK (f31_cx R_f32 hR_f32) [] Try.f31.results.toList K) []) k (f31_S1 v)) = iterV (f31_L1 R_f32 k (fun u => K (f31_out u)) ) k :=
  iter_map (fun r1 v => (f31_L1_ev R_f32 hR_f32 k K  r1 v).trans rfl) k
def f31_T {X : Type} (R_f32 : f32_R) (k : Nat) (K : Bool → Option X) (loop1 : (List CV) × (List CV) × Int × Int → Option X) (x0 : List CV) (x1 : List CV) : Option X :=
(bif ((Nat.cast ((List.length x0)) : Int) != (Nat.cast ((List.length x1)) : Int)) then
K (false)
else
loop1 (x1, x0, (Nat.cast ((List.length x0)) : Int), 0))
/-- "slices.EqualFunc[[]outpost/api.Tlv,[]outpost/api.Tlv,outpost/api.Tlv,outpost/api.Tlv]" -/
def f31_A (R_f32 : f32_R) (k : Nat) : f31_R := fun X K x0 x1 => f31_T R_f32 k K (iterV (f31_L1 R_f32 k K) k) x0 x1
set_option maxRecDepth 100000 in
theorem f31_ev' {X : Type} (R_f32 : f32_R) (hR_f32 : AnsOk Try.prog 32 (f32_cOf R_f32)) (k : Nat) (K : Out → Option X) (x0 : List CV) (x1 : List CV) : evFn (f31_cx R_f32 hR_f32) [] k Try.f31.ntmps Try.f31.results.toList (Try.f31.body.getD .skip) [(.sl false (some 4) x0), (.sl false (some 4) x1), (.fn 32 [])] [] K = f31_T R_f32 k (fun u => K (f31_out u)) (fun v => iter (loopB (f31_cx R_f32 hR_f32) k [.r, .r, .l, .r, .b] (Try.f31.body.getD .skip) (retK (f31_cx R_f32 hR_f32) [] Try.f31.results.toList K) []) k (f31_S1 v)) x0 x1 := by kernel_rfl
theorem f31_ev {X : Type} (R_f32 : f32_R) (hR_f32 : AnsOk Try.prog 32 (f32_cOf R_f32)) (k : Nat) (K : Out → Option X) (x0 : List CV) (x1 : List CV) : evFn (f31_cx R_f32 hR_f32) [] k Try.f31.ntmps Try.f31.results.toList (Try.f31.body.getD .skip) [(.sl false (some 4) x0), (.sl false (some 4) x1), (.fn 32 [])] [] K = f31_A R_f32 k X (fun u => K (f31_out u)) x0 x1 := (f31_ev' R_f32 hR_f32 k K x0 x1).trans (by rw [f31_L1_it R_f32 hR_f32 k K]; rfl)
theorem f31_okA (R_f32 : f32_R) (hR_f32 : AnsOk Try.prog 32 (f32_cOf R_f32)) (k : Nat) : AnsOk Try.prog 31 (f31_cOf (f31_A R_f32 k)) := by
  intro X xs ns K x h
  unfold f31_cOf at h ⊢
  split at h
  · exact ans_main S (f31_Cok R_f32 hR_f32) Try.func31 (ent_of Try.func31 (by kernel_rfl) rfl) rfl (fun X K => f31_ev R_f32 hR_f32 k K _ _) h
  · cases h
/-- "slices.EqualFunc[[]outpost/api.Tlv,[]outpost/api.Tlv,outpost/api.Tlv,outpost/api.Tlv]" -/
def f31 {X : Type} (R_f20 : f20_R) (k : Nat) (K : Bool → Option X) (x0 : List CV) (x1 : List CV) : Option X := f31_A (fun X => @f32 X R_f20 k) k X K x0 x1
theorem f31_ok (R_f20 : f20_R) (hR_f20 : AnsOk Try.prog 20 (f20_cOf R_f20)) (k : Nat) : AnsOk Try.prog 31 (f31_cOf (fun X => @f31 X R_f20 k)) := f31_okA (fun X => @f32 X R_f20 k) (f32_ok R_f20 hR_f20 k) k
def f20_plan : Nat → Option (List Nat × List Wk)
  | 0 => some ([0, 1], [])
  | 1 => some ([0, 1], [])
  | _ => none
def f20_C (R_f31 : f31_R) : Fns := (orC 31 (f31_cOf R_f31) noC)
theorem f20_Cok (R_f31 : f31_R) (hR_f31 : AnsOk Try.prog 31 (f31_cOf R_f31)) : CsOk Try.prog (f20_C R_f31) := (orC_ok hR_f31 noC_ok)
def f20_cx (R_f31 : f31_R) (hR_f31 : AnsOk Try.prog 31 (f31_cOf R_f31)) : Cx := mkCx (tabOf rows) (f20_C R_f31) md (cmpIn cmps) f20_plan (f20_Cok R_f31 hR_f31)
def f20_T {X : Type} (R_f31 : f31_R) (k : Nat) (K : Bool → Option X)  (x0 : List CV) (x1 : List CV) : Option X :=
R_f31 _ (fun u1 =>
K (u1)) (x0) (x1)
/-- "outpost/tlv.Same" -/
def f20_A (R_f31 : f31_R) (k : Nat) : f20_R := fun X K x0 x1 => f20_T R_f31 k K  x0 x1
set_option maxRecDepth 100000 in
theorem f20_ev' {X : Type} (R_f31 : f31_R) (hR_f31 : AnsOk Try.prog 31 (f31_cOf R_f31)) (k : Nat) (K : Out → Option X) (x0 : List CV) (x1 : List CV) : evFn (f20_cx R_f31 hR_f31) [] k Try.f20.ntmps Try.f20.results.toList (Try.f20.body.getD .skip) [(.sl false (some 4) x0), (.sl false (some 4) x1)] [] K = f20_T R_f31 k (fun u => K (f20_out u)) x0 x1 := by kernel_rfl
theorem f20_ev {X : Type} (R_f31 : f31_R) (hR_f31 : AnsOk Try.prog 31 (f31_cOf R_f31)) (k : Nat) (K : Out → Option X) (x0 : List CV) (x1 : List CV) : evFn (f20_cx R_f31 hR_f31) [] k Try.f20.ntmps Try.f20.results.toList (Try.f20.body.getD .skip) [(.sl false (some 4) x0), (.sl false (some 4) x1)] [] K = f20_A R_f31 k X (fun u => K (f20_out u)) x0 x1 := (f20_ev' R_f31 hR_f31 k K x0 x1).trans rfl
theorem f20_okA (R_f31 : f31_R) (hR_f31 : AnsOk Try.prog 31 (f31_cOf R_f31)) (k : Nat) : AnsOk Try.prog 20 (f20_cOf (f20_A R_f31 k)) := by
  intro X xs ns K x h
  unfold f20_cOf at h ⊢
  split at h
  · exact ans_main S (f20_Cok R_f31 hR_f31) Try.func20 (ent_of Try.func20 (by kernel_rfl) rfl) rfl (fun X K => f20_ev R_f31 hR_f31 k K _ _) h
  · cases h
def f20_r : Nat → f20_R
  | 0 => fun _ _ _ _ => none
  | k + 1 => f20_A (fun X => @f31 X (f20_r k) k) k
theorem f20_okr : ∀ k, AnsOk Try.prog 20 (f20_cOf (f20_r k))
  | 0 => by
    intro X xs ns K x h
    unfold f20_cOf at h
    split at h <;> cases h
  | k + 1 => f20_okA (fun X => @f31 X (f20_r k) k) (f31_ok (f20_r k) (f20_okr k) k) k
def f20 {X : Type} (k : Nat) (K : Bool → Option X) (x0 : List CV) (x1 : List CV) : Option X := f20_r k X K x0 x1
theorem f20_ok (k : Nat) : AnsOk Try.prog 20 (f20_cOf (fun X => @f20 X k)) := f20_okr k
abbrev f9_R : Type 1 := (X : Type) → (Bool → Option X) → Option X
def f9_out (u : Bool) : Out := ⟨(.v (CV.bool u)), []⟩
def f9_cOf (R : f9_R) : FnC := fun X xs ns K => match xs, ns with
  | [], [] => R X (fun u => K (f9_out u)) 
  | _, _ => none
def f9_plan : Nat → Option (List Nat × List Wk)
  | 0 => some ([], [])
  | 1 => some ([], [])
  | 2 => some ([1], [])
  | 3 => some ([1, 2, 3], [])
  | 4 => some ([1, 2, 3, 4, 5], [])
  | 5 => some ([1, 2, 3, 4, 5, 6, 7], [])
  | 6 => some ([1, 2, 3, 4, 5, 6, 7, 9], [])
  | 7 => some ([1, 2, 3, 4, 5, 6, 7, 9, 11], [])
  | 8 => some ([1, 2, 3, 4, 5, 6, 7, 9, 11, 12, 13], [])
  | 9 => some ([1, 2, 3, 4, 5, 6, 7, 9, 11, 12, 13, 15], [])
  | _ => none
def f9_C (R_f11 : f11_R) (R_f16 : f16_R) (R_f19 : f19_R) (R_f13 : f13_R) (R_f20 : f20_R) : Fns := (orC 11 (f11_cOf R_f11) (orC 13 (f13_cOf R_f13) (orC 16 (f16_cOf R_f16) (orC 19 (f19_cOf R_f19) (orC 20 (f20_cOf R_f20) noC)))))
theorem f9_Cok (R_f11 : f11_R) (R_f16 : f16_R) (R_f19 : f19_R) (R_f13 : f13_R) (R_f20 : f20_R) (hR_f11 : AnsOk Try.prog 11 (f11_cOf R_f11)) (hR_f16 : AnsOk Try.prog 16 (f16_cOf R_f16)) (hR_f19 : AnsOk Try.prog 19 (f19_cOf R_f19)) (hR_f13 : AnsOk Try.prog 13 (f13_cOf R_f13)) (hR_f20 : AnsOk Try.prog 20 (f20_cOf R_f20)) : CsOk Try.prog (f9_C R_f11 R_f16 R_f19 R_f13 R_f20) := (orC_ok hR_f11 (orC_ok hR_f13 (orC_ok hR_f16 (orC_ok hR_f19 (orC_ok hR_f20 noC_ok)))))
def f9_cx (R_f11 : f11_R) (R_f16 : f16_R) (R_f19 : f19_R) (R_f13 : f13_R) (R_f20 : f20_R) (hR_f11 : AnsOk Try.prog 11 (f11_cOf R_f11)) (hR_f16 : AnsOk Try.prog 16 (f16_cOf R_f16)) (hR_f19 : AnsOk Try.prog 19 (f19_cOf R_f19)) (hR_f13 : AnsOk Try.prog 13 (f13_cOf R_f13)) (hR_f20 : AnsOk Try.prog 20 (f20_cOf R_f20)) : Cx := mkCx (tabOf rows) (f9_C R_f11 R_f16 R_f19 R_f13 R_f20) md (cmpIn cmps) f9_plan (f9_Cok R_f11 R_f16 R_f19 R_f13 R_f20 hR_f11 hR_f16 hR_f19 hR_f13 hR_f20)
def f9_T {X : Type} (R_f11 : f11_R) (R_f16 : f16_R) (R_f19 : f19_R) (R_f13 : f13_R) (R_f20 : f20_R) (k : Nat) (K : Bool → Option X)   : Option X :=
R_f11 _ (fun u1 =>
R_f11 _ (fun u2 =>
R_f16 _ (fun u3 =>
R_f16 _ (fun u4 =>
R_f11 _ (fun u5 =>
R_f19 _ (fun u6 =>
R_f19 _ (fun u7 =>
(bif (u1.2.1 == 0) then
grd (shEq none none && List.all (List.take u1.1 (List.drop 0 u1.2.2)) (CV.isI .u8)) <|
(bif ((bytesOf (List.take u1.1 (List.drop 0 u1.2.2))).toList == (⟨#[193, 1, 7]⟩ : ByteArray).toList) then
(bif (u2.2.1 == 0) then
grd (shEq none none && List.all (List.take u2.1 (List.drop 0 u2.2.2)) (CV.isI .u8)) <|
(bif ((bytesOf (List.take u2.1 (List.drop 0 u2.2.2))).toList == (⟨#[3, 0, 193, 1, 7]⟩ : ByteArray).toList) then
(bif (u3.2.1 == 0) then
(bif ((Nat.cast (u3.1) : Int) == 1) then
grd (decide (0 < (Nat.cast (u3.1) : Int))) <|
Option.bind (u3.2.2)[0]? fun e8 =>
Option.bind (CV.cell e8 3) fun c9 =>
grd (CV.isL (some 4) c9) <|
(bif ((Nat.cast ((List.length (CV.toL c9))) : Int) == 1) then
(bif (u4.2.1 == 20) then
(bif (u5.2.1 == 1) then
(bif u6.2.2.2.2.1 then
grd (decide (0 < (Nat.cast (u6.2.2.1) : Int))) <|
Option.bind (u6.2.2.2.2.2.1)[0]? fun e10 =>
grd (CV.isI .u8 e10) <|
(bif ((CV.toI e10) == 7) then
(bif (!u7.2.2.2.2.1) then
R_f13 _ (fun u11 =>
(bif u11 then
R_f20 _ (fun u12 =>
(bif u12 then
R_f20 _ (fun u13 =>
K ((!u13))) ((List.take u3.1 (List.drop 0 u3.2.2))) ([])
else
K (false))) ((List.take u3.1 (List.drop 0 u3.2.2))) ((List.take u3.1 (List.drop 0 u3.2.2)))
else
K (false))) ((List.take 1 (List.drop 0 [(CV.agg [(CV.int .i64 3), (CV.int .i64 1), (CV.slc none (List.take 1 (List.drop 0 [(CV.int .u8 7)]))), (CV.slc (some 4) (List.take 0 (List.drop 0 [])))])])))
else
K (false))
else
K (false))
else
K (false))
else
K (false))
else
K (false))
else
K (false))
else
K (false))
else
K (false))
else
K (false))
else
K (false))
else
K (false))
else
K (false))) ([]) (3) (1)) ((List.take 1 (List.drop 0 [(CV.agg [(CV.int .i64 3), (CV.int .i64 1), (CV.slc none (List.take 1 (List.drop 0 [(CV.int .u8 7)]))), (CV.slc (some 4) (List.take 0 (List.drop 0 [])))])]))) (3) (1)) ((List.take 1 (List.drop 0 [(CV.agg [(CV.int .i64 1), (CV.int .i64 0), (CV.slc none []), (CV.slc (some 4) [])])])))) ((List.take 1 (List.drop 0 [(CV.int .u8 193)])))) ((List.take u2.1 (List.drop 0 u2.2.2)))) ((List.take 1 (List.drop 0 [(CV.agg [(CV.int .i64 0), (CV.int .i64 0), (CV.slc none []), (CV.slc (some 4) (List.take 1 (List.drop 0 [(CV.agg [(CV.int .i64 3), (CV.int .i64 1), (CV.slc none (List.take 1 (List.drop 0 [(CV.int .u8 7)]))), (CV.slc (some 4) (List.take 0 (List.drop 0 [])))])])))])])))) ((List.take 1 (List.drop 0 [(CV.agg [(CV.int .i64 3), (CV.int .i64 1), (CV.slc none (List.take 1 (List.drop 0 [(CV.int .u8 7)]))), (CV.slc (some 4) (List.take 0 (List.drop 0 [])))])])))
/-- "outpost/outpostlaw15.alive" -/
def f9_A (R_f11 : f11_R) (R_f16 : f16_R) (R_f19 : f19_R) (R_f13 : f13_R) (R_f20 : f20_R) (k : Nat) : f9_R := fun X K  => f9_T R_f11 R_f16 R_f19 R_f13 R_f20 k K  
set_option maxRecDepth 100000 in
theorem f9_ev' {X : Type} (R_f11 : f11_R) (R_f16 : f16_R) (R_f19 : f19_R) (R_f13 : f13_R) (R_f20 : f20_R) (hR_f11 : AnsOk Try.prog 11 (f11_cOf R_f11)) (hR_f16 : AnsOk Try.prog 16 (f16_cOf R_f16)) (hR_f19 : AnsOk Try.prog 19 (f19_cOf R_f19)) (hR_f13 : AnsOk Try.prog 13 (f13_cOf R_f13)) (hR_f20 : AnsOk Try.prog 20 (f20_cOf R_f20)) (k : Nat) (K : Out → Option X)  : evFn (f9_cx R_f11 R_f16 R_f19 R_f13 R_f20 hR_f11 hR_f16 hR_f19 hR_f13 hR_f20) [] k Try.f9.ntmps Try.f9.results.toList (Try.f9.body.getD .skip) [] [] K = f9_T R_f11 R_f16 R_f19 R_f13 R_f20 k (fun u => K (f9_out u))  := by kernel_rfl
theorem f9_ev {X : Type} (R_f11 : f11_R) (R_f16 : f16_R) (R_f19 : f19_R) (R_f13 : f13_R) (R_f20 : f20_R) (hR_f11 : AnsOk Try.prog 11 (f11_cOf R_f11)) (hR_f16 : AnsOk Try.prog 16 (f16_cOf R_f16)) (hR_f19 : AnsOk Try.prog 19 (f19_cOf R_f19)) (hR_f13 : AnsOk Try.prog 13 (f13_cOf R_f13)) (hR_f20 : AnsOk Try.prog 20 (f20_cOf R_f20)) (k : Nat) (K : Out → Option X)  : evFn (f9_cx R_f11 R_f16 R_f19 R_f13 R_f20 hR_f11 hR_f16 hR_f19 hR_f13 hR_f20) [] k Try.f9.ntmps Try.f9.results.toList (Try.f9.body.getD .skip) [] [] K = f9_A R_f11 R_f16 R_f19 R_f13 R_f20 k X (fun u => K (f9_out u))  := (f9_ev' R_f11 R_f16 R_f19 R_f13 R_f20 hR_f11 hR_f16 hR_f19 hR_f13 hR_f20 k K ).trans rfl
theorem f9_okA (R_f11 : f11_R) (R_f16 : f16_R) (R_f19 : f19_R) (R_f13 : f13_R) (R_f20 : f20_R) (hR_f11 : AnsOk Try.prog 11 (f11_cOf R_f11)) (hR_f16 : AnsOk Try.prog 16 (f16_cOf R_f16)) (hR_f19 : AnsOk Try.prog 19 (f19_cOf R_f19)) (hR_f13 : AnsOk Try.prog 13 (f13_cOf R_f13)) (hR_f20 : AnsOk Try.prog 20 (f20_cOf R_f20)) (k : Nat) : AnsOk Try.prog 9 (f9_cOf (f9_A R_f11 R_f16 R_f19 R_f13 R_f20 k)) := by
  intro X xs ns K x h
  unfold f9_cOf at h ⊢
  split at h
  · exact ans_main S (f9_Cok R_f11 R_f16 R_f19 R_f13 R_f20 hR_f11 hR_f16 hR_f19 hR_f13 hR_f20) Try.func9 (ent_of Try.func9 (by kernel_rfl) rfl) rfl (fun X K => f9_ev R_f11 R_f16 R_f19 R_f13 R_f20 hR_f11 hR_f16 hR_f19 hR_f13 hR_f20 k K ) h
  · cases h
/-- "outpost/outpostlaw15.alive" -/
def f9 {X : Type} (k : Nat) (K : Bool → Option X)  : Option X := f9_A (fun X => @f11 X k) (fun X => @f16 X k) (fun X => @f19 X k) (fun X => @f13 X k) (fun X => @f20 X k) k X K 
theorem f9_ok (k : Nat) : AnsOk Try.prog 9 (f9_cOf (fun X => @f9 X k)) := f9_okA (fun X => @f11 X k) (fun X => @f16 X k) (fun X => @f19 X k) (fun X => @f13 X k) (fun X => @f20 X k) (f11_ok k) (f16_ok k) (f19_ok k) (f13_ok k) (f20_ok k) k
abbrev f21_R : Type 1 := (X : Type) → (Int → Option X) → (List CV) → Int → Option X
def f21_out (u : Int) : Out := ⟨(.v (CV.int .i64 u)), []⟩
def f21_cOf (R : f21_R) : FnC := fun X xs ns K => match xs, ns with
  | [(.sl false (some 4) x0), (.v (CV.int .i64 x1))], [] => R X (fun u => K (f21_out u)) x0 x1
  | _, _ => none
def f21_plan : Nat → Option (List Nat × List Wk)
  | 0 => some ([0, 1], [])
  | 1 => some ([0, 1], [])
  | 2 => some ([0, 1, 5], [])
  | 3 => some ([0, 1, 5, 6], [])
  | 4 => some ([0, 1, 5, 6], [])
  | 5 => some ([0, 1, 5, 6], [])
  | 6 => some ([5], [])
  | _ => none
def f21_C (R_f21 : f21_R) : Fns := (orC 21 (f21_cOf R_f21) noC)
theorem f21_Cok (R_f21 : f21_R) (hR_f21 : AnsOk Try.prog 21 (f21_cOf R_f21)) : CsOk Try.prog (f21_C R_f21) := (orC_ok hR_f21 noC_ok)
def f21_cx (R_f21 : f21_R) (hR_f21 : AnsOk Try.prog 21 (f21_cOf R_f21)) : Cx := mkCx (tabOf rows) (f21_C R_f21) md (cmpIn cmps) f21_plan (f21_Cok R_f21 hR_f21)
def f21_S1 (v : (List CV) × Int × Int × Int) : St := ⟨[(.sl false (some 4) v.1), (.v (CV.int .i64 v.2.1)), .undef, .undef, .undef, (.v (CV.int .i64 v.2.2.1)), (.v (CV.int .i64 v.2.2.2)), .undef, .undef, .undef, .undef, .undef, .undef, .undef, .undef, .undef, .undef, .undef, .undef, .undef, .undef, .undef, .undef, .undef, .undef, .undef, .undef, .undef, .undef, .undef, .undef, .undef], []⟩
def f21_T1 {X : Type} (R_f21 : f21_R) (k : Nat) (K : Int → Option X)   (rec1 : (List CV) × Int × Int × Int → Option X) (v5_0 : (List CV) × Int × Int × Int) : Option X :=
(bif (decide (v5_0.2.2.2 < (Nat.cast ((List.length v5_0.1)) : Int))) then
(bif (decide (v5_0.2.2.1 ≤ v5_0.2.1)) then
grd (decide (0 ≤ v5_0.2.2.2)) <|
Option.bind (v5_0.1)[(Int.toNat v5_0.2.2.2)]? fun e11 =>
Option.bind (CV.cell e11 3) fun c12 =>
grd (CV.isL (some 4) c12) <|
R_f21 _ (fun u13 =>
rec1 (v5_0.1, v5_0.2.1, (IntKind.wrap .i64 ((IntKind.wrap .i64 (v5_0.2.2.1 + 1)) + u13)), (IntKind.wrap .i64 (v5_0.2.2.2 + 1)))) ((CV.toL c12)) ((IntKind.wrap .i64 ((IntKind.wrap .i64 (v5_0.2.1 - v5_0.2.2.1)) - 1)))
else
K (v5_0.2.2.1))
else
K (v5_0.2.2.1))
def f21_L1 {X : Type} (R_f21 : f21_R) (k : Nat) (K : Int → Option X)  (rec1 : (List CV) × Int × Int × Int → Option X) (v : (List CV) × Int × Int × Int) : Option X := f21_T1 R_f21 k K   rec1 v
set_option maxRecDepth 100000 in
theorem f21_L1_ev {X : Type} (R_f21 : f21_R) (hR_f21 : AnsOk Try.prog 21 (f21_cOf R_f21)) (k : Nat) (K : Out → Option X)  (r1 : St → Option X) (v : (List CV) × Int × Int × Int) : loopB (f21_cx R_f21 hR_f21) k [.r, .r, .l, .r, .b] (Try.f21.body.getD .skip) (retK (f21_cx R_f21 hR_f21) [] Try.f21.results.toList K) [] r1 (f21_S1 v) = f21_T1 R_f21 k (fun u => K (f21_out u))   (fun v => r1 (f21_S1 v)) v := by kernel_rfl
theorem f21_L1_it {X : Type} (R_f21 : f21_R) (hR_f21 : AnsOk Try.prog 21 (f21_cOf R_f21)) (k : Nat) (K : Out → Option X)  : (fun v => iter (loopB (f21_cx R_f21 hR_f21) k [.r, .r, .l, .r, .b] (Try.f21.body.getD .skip) (retK (f21_cx R_f21 hR_f21) [] Try.f21.results.toList K) []) k (f21_S1 v)) = iterV (f21_L1 R_f21 k (fun u => K (f21_out u)) ) k :=
  iter_map (fun r1 v => (f21_L1_ev R_f21 hR_f21 k K  r1 v).trans rfl) k
def f21_T {X : Type} (R_f21 : f21_R) (k : Nat) (K : Int → Option X) (loop1 : (List CV) × Int × Int × Int → Option X) (x0 : List CV) (x1 : Int) : Option X :=
loop1 (x0, x1, 0, 0)
/-- "outpost/outpostref15.Count" -/
def f21_A (R_f21 : f21_R) (k : Nat) : f21_R := fun X K x0 x1 => f21_T R_f21 k K (iterV (f21_L1 R_f21 k K) k) x0 x1
set_option maxRecDepth 100000 in
theorem f21_ev' {X : Type} (R_f21 : f21_R) (hR_f21 : AnsOk Try.prog 21 (f21_cOf R_f21)) (k : Nat) (K : Out → Option X) (x0 : List CV) (x1 : Int) : evFn (f21_cx R_f21 hR_f21) [] k Try.f21.ntmps Try.f21.results.toList (Try.f21.body.getD .skip) [(.sl false (some 4) x0), (.v (CV.int .i64 x1))] [] K = f21_T R_f21 k (fun u => K (f21_out u)) (fun v => iter (loopB (f21_cx R_f21 hR_f21) k [.r, .r, .l, .r, .b] (Try.f21.body.getD .skip) (retK (f21_cx R_f21 hR_f21) [] Try.f21.results.toList K) []) k (f21_S1 v)) x0 x1 := by kernel_rfl
theorem f21_ev {X : Type} (R_f21 : f21_R) (hR_f21 : AnsOk Try.prog 21 (f21_cOf R_f21)) (k : Nat) (K : Out → Option X) (x0 : List CV) (x1 : Int) : evFn (f21_cx R_f21 hR_f21) [] k Try.f21.ntmps Try.f21.results.toList (Try.f21.body.getD .skip) [(.sl false (some 4) x0), (.v (CV.int .i64 x1))] [] K = f21_A R_f21 k X (fun u => K (f21_out u)) x0 x1 := (f21_ev' R_f21 hR_f21 k K x0 x1).trans (by rw [f21_L1_it R_f21 hR_f21 k K]; rfl)
theorem f21_okA (R_f21 : f21_R) (hR_f21 : AnsOk Try.prog 21 (f21_cOf R_f21)) (k : Nat) : AnsOk Try.prog 21 (f21_cOf (f21_A R_f21 k)) := by
  intro X xs ns K x h
  unfold f21_cOf at h ⊢
  split at h
  · exact ans_main S (f21_Cok R_f21 hR_f21) Try.func21 (ent_of Try.func21 (by kernel_rfl) rfl) rfl (fun X K => f21_ev R_f21 hR_f21 k K _ _) h
  · cases h
def f21_r : Nat → f21_R
  | 0 => fun _ _ _ _ => none
  | k + 1 => f21_A (f21_r k) k
theorem f21_okr : ∀ k, AnsOk Try.prog 21 (f21_cOf (f21_r k))
  | 0 => by
    intro X xs ns K x h
    unfold f21_cOf at h
    split at h <;> cases h
  | k + 1 => f21_okA (f21_r k) (f21_okr k) k
def f21 {X : Type} (k : Nat) (K : Int → Option X) (x0 : List CV) (x1 : Int) : Option X := f21_r k X K x0 x1
theorem f21_ok (k : Nat) : AnsOk Try.prog 21 (f21_cOf (fun X => @f21 X k)) := f21_okr k
abbrev f23_R : Type 1 := (X : Type) → (Int → Option X) → (List CV) → Int → Option X
def f23_out (u : Int) : Out := ⟨(.v (CV.int .i64 u)), []⟩
def f23_cOf (R : f23_R) : FnC := fun X xs ns K => match xs, ns with
  | [(.sl false (some 4) x0), (.v (CV.int .i64 x1))], [] => R X (fun u => K (f23_out u)) x0 x1
  | _, _ => none
def f23_plan : Nat → Option (List Nat × List Wk)
  | 0 => some ([0, 1], [])
  | 1 => some ([0, 1], [])
  | 2 => some ([0, 1, 5], [])
  | 3 => some ([0, 1, 5, 6], [])
  | 4 => some ([0, 1, 5, 6], [])
  | 5 => some ([0, 1, 5, 6], [])
  | 6 => some ([5], [])
  | _ => none
def f23_C (R_f23 : f23_R) : Fns := (orC 23 (f23_cOf R_f23) noC)
theorem f23_Cok (R_f23 : f23_R) (hR_f23 : AnsOk Try.prog 23 (f23_cOf R_f23)) : CsOk Try.prog (f23_C R_f23) := (orC_ok hR_f23 noC_ok)
def f23_cx (R_f23 : f23_R) (hR_f23 : AnsOk Try.prog 23 (f23_cOf R_f23)) : Cx := mkCx (tabOf rows) (f23_C R_f23) md (cmpIn cmps) f23_plan (f23_Cok R_f23 hR_f23)
def f23_S1 (v : (List CV) × Int × Int × Int) : St := ⟨[(.sl false (some 4) v.1), (.v (CV.int .i64 v.2.1)), .undef, .undef, .undef, (.v (CV.int .i64 v.2.2.1)), (.v (CV.int .i64 v.2.2.2)), .undef, .undef, .undef, .undef, .undef, .undef, .undef, .undef, .undef, .undef, .undef, .undef, .undef, .undef, .undef, .undef, .undef, .undef, .undef, .undef, .undef, .undef, .undef, .undef, .undef, .undef, .undef, .undef, .undef, .undef], []⟩
def f23_T1 {X : Type} (R_f23 : f23_R) (k : Nat) (K : Int → Option X)   (rec1 : (List CV) × Int × Int × Int → Option X) (v5_0 : (List CV) × Int × Int × Int) : Option X :=
(bif (decide (v5_0.2.2.2 < (Nat.cast ((List.length v5_0.1)) : Int))) then
(bif (decide (v5_0.2.2.1 ≤ v5_0.2.1)) then
grd (decide (0 ≤ v5_0.2.2.2)) <|
Option.bind (v5_0.1)[(Int.toNat v5_0.2.2.2)]? fun e17 =>
Option.bind (CV.cell e17 2) fun c18 =>
grd (CV.isL none c18) <|
grd (decide (0 ≤ v5_0.2.2.2)) <|
Option.bind (v5_0.1)[(Int.toNat v5_0.2.2.2)]? fun e19 =>
Option.bind (CV.cell e19 3) fun c20 =>
grd (CV.isL (some 4) c20) <|
R_f23 _ (fun u21 =>
rec1 (v5_0.1, v5_0.2.1, (IntKind.wrap .i64 ((IntKind.wrap .i64 (v5_0.2.2.1 + (Nat.cast ((List.length (CV.toL c18))) : Int))) + u21)), (IntKind.wrap .i64 (v5_0.2.2.2 + 1)))) ((CV.toL c20)) ((IntKind.wrap .i64 (v5_0.2.1 - v5_0.2.2.1)))
else
K (v5_0.2.2.1))
else
K (v5_0.2.2.1))
def f23_L1 {X : Type} (R_f23 : f23_R) (k : Nat) (K : Int → Option X)  (rec1 : (List CV) × Int × Int × Int → Option X) (v : (List CV) × Int × Int × Int) : Option X := f23_T1 R_f23 k K   rec1 v
set_option maxRecDepth 100000 in
theorem f23_L1_ev {X : Type} (R_f23 : f23_R) (hR_f23 : AnsOk Try.prog 23 (f23_cOf R_f23)) (k : Nat) (K : Out → Option X)  (r1 : St → Option X) (v : (List CV) × Int × Int × Int) : loopB (f23_cx R_f23 hR_f23) k [.r, .r, .l, .r, .b] (Try.f23.body.getD .skip) (retK (f23_cx R_f23 hR_f23) [] Try.f23.results.toList K) [] r1 (f23_S1 v) = f23_T1 R_f23 k (fun u => K (f23_out u))   (fun v => r1 (f23_S1 v)) v := by kernel_rfl
theorem f23_L1_it {X : Type} (R_f23 : f23_R) (hR_f23 : AnsOk Try.prog 23 (f23_cOf R_f23)) (k : Nat) (K : Out → Option X)  : (fun v => iter (loopB (f23_cx R_f23 hR_f23) k [.r, .r, .l, .r, .b] (Try.f23.body.getD .skip) (retK (f23_cx R_f23 hR_f23) [] Try.f23.results.toList K) []) k (f23_S1 v)) = iterV (f23_L1 R_f23 k (fun u => K (f23_out u)) ) k :=
  iter_map (fun r1 v => (f23_L1_ev R_f23 hR_f23 k K  r1 v).trans rfl) k
def f23_T {X : Type} (R_f23 : f23_R) (k : Nat) (K : Int → Option X) (loop1 : (List CV) × Int × Int × Int → Option X) (x0 : List CV) (x1 : Int) : Option X :=
loop1 (x0, x1, 0, 0)
/-- "outpost/outpostref15.Bytes" -/
def f23_A (R_f23 : f23_R) (k : Nat) : f23_R := fun X K x0 x1 => f23_T R_f23 k K (iterV (f23_L1 R_f23 k K) k) x0 x1
set_option maxRecDepth 100000 in
theorem f23_ev' {X : Type} (R_f23 : f23_R) (hR_f23 : AnsOk Try.prog 23 (f23_cOf R_f23)) (k : Nat) (K : Out → Option X) (x0 : List CV) (x1 : Int) : evFn (f23_cx R_f23 hR_f23) [] k Try.f23.ntmps Try.f23.results.toList (Try.f23.body.getD .skip) [(.sl false (some 4) x0), (.v (CV.int .i64 x1))] [] K = f23_T R_f23 k (fun u => K (f23_out u)) (fun v => iter (loopB (f23_cx R_f23 hR_f23) k [.r, .r, .l, .r, .b] (Try.f23.body.getD .skip) (retK (f23_cx R_f23 hR_f23) [] Try.f23.results.toList K) []) k (f23_S1 v)) x0 x1 := by kernel_rfl
theorem f23_ev {X : Type} (R_f23 : f23_R) (hR_f23 : AnsOk Try.prog 23 (f23_cOf R_f23)) (k : Nat) (K : Out → Option X) (x0 : List CV) (x1 : Int) : evFn (f23_cx R_f23 hR_f23) [] k Try.f23.ntmps Try.f23.results.toList (Try.f23.body.getD .skip) [(.sl false (some 4) x0), (.v (CV.int .i64 x1))] [] K = f23_A R_f23 k X (fun u => K (f23_out u)) x0 x1 := (f23_ev' R_f23 hR_f23 k K x0 x1).trans (by rw [f23_L1_it R_f23 hR_f23 k K]; rfl)
theorem f23_okA (R_f23 : f23_R) (hR_f23 : AnsOk Try.prog 23 (f23_cOf R_f23)) (k : Nat) : AnsOk Try.prog 23 (f23_cOf (f23_A R_f23 k)) := by
  intro X xs ns K x h
  unfold f23_cOf at h ⊢
  split at h
  · exact ans_main S (f23_Cok R_f23 hR_f23) Try.func23 (ent_of Try.func23 (by kernel_rfl) rfl) rfl (fun X K => f23_ev R_f23 hR_f23 k K _ _) h
  · cases h
def f23_r : Nat → f23_R
  | 0 => fun _ _ _ _ => none
  | k + 1 => f23_A (f23_r k) k
theorem f23_okr : ∀ k, AnsOk Try.prog 23 (f23_cOf (f23_r k))
  | 0 => by
    intro X xs ns K x h
    unfold f23_cOf at h
    split at h <;> cases h
  | k + 1 => f23_okA (f23_r k) (f23_okr k) k
def f23 {X : Type} (k : Nat) (K : Int → Option X) (x0 : List CV) (x1 : Int) : Option X := f23_r k X K x0 x1
theorem f23_ok (k : Nat) : AnsOk Try.prog 23 (f23_cOf (fun X => @f23 X k)) := f23_okr k
abbrev f10_R : Type 1 := (X : Type) → (Bool → Option X) → (List CV) → Option X
def f10_out (u : Bool) : Out := ⟨(.v (CV.bool u)), []⟩
def f10_cOf (R : f10_R) : FnC := fun X xs ns K => match xs, ns with
  | [(.sl false (some 4) x0)], [] => R X (fun u => K (f10_out u)) x0
  | _, _ => none
def f10_plan : Nat → Option (List Nat × List Wk)
  | 0 => some ([0], [])
  | 1 => some ([0], [])
  | _ => none
def f10_C (R_f21 : f21_R) (R_f23 : f23_R) : Fns := (orC 21 (f21_cOf R_f21) (orC 23 (f23_cOf R_f23) noC))
theorem f10_Cok (R_f21 : f21_R) (R_f23 : f23_R) (hR_f21 : AnsOk Try.prog 21 (f21_cOf R_f21)) (hR_f23 : AnsOk Try.prog 23 (f23_cOf R_f23)) : CsOk Try.prog (f10_C R_f21 R_f23) := (orC_ok hR_f21 (orC_ok hR_f23 noC_ok))
def f10_cx (R_f21 : f21_R) (R_f23 : f23_R) (hR_f21 : AnsOk Try.prog 21 (f21_cOf R_f21)) (hR_f23 : AnsOk Try.prog 23 (f23_cOf R_f23)) : Cx := mkCx (tabOf rows) (f10_C R_f21 R_f23) md (cmpIn cmps) f10_plan (f10_Cok R_f21 R_f23 hR_f21 hR_f23)
def f10_T {X : Type} (R_f21 : f21_R) (R_f23 : f23_R) (k : Nat) (K : Bool → Option X)  (x0 : List CV) : Option X :=
R_f21 _ (fun u1 =>
(bif (decide (u1 ≤ 100)) then
R_f23 _ (fun u2 =>
K ((decide (u2 ≤ 4000)))) (x0) (4000)
else
K (false))) (x0) (100)
/-- "outpost/outpostlaw15.few" -/
def f10_A (R_f21 : f21_R) (R_f23 : f23_R) (k : Nat) : f10_R := fun X K x0 => f10_T R_f21 R_f23 k K  x0
set_option maxRecDepth 100000 in
theorem f10_ev' {X : Type} (R_f21 : f21_R) (R_f23 : f23_R) (hR_f21 : AnsOk Try.prog 21 (f21_cOf R_f21)) (hR_f23 : AnsOk Try.prog 23 (f23_cOf R_f23)) (k : Nat) (K : Out → Option X) (x0 : List CV) : evFn (f10_cx R_f21 R_f23 hR_f21 hR_f23) [] k Try.f10.ntmps Try.f10.results.toList (Try.f10.body.getD .skip) [(.sl false (some 4) x0)] [] K = f10_T R_f21 R_f23 k (fun u => K (f10_out u)) x0 := by kernel_rfl
theorem f10_ev {X : Type} (R_f21 : f21_R) (R_f23 : f23_R) (hR_f21 : AnsOk Try.prog 21 (f21_cOf R_f21)) (hR_f23 : AnsOk Try.prog 23 (f23_cOf R_f23)) (k : Nat) (K : Out → Option X) (x0 : List CV) : evFn (f10_cx R_f21 R_f23 hR_f21 hR_f23) [] k Try.f10.ntmps Try.f10.results.toList (Try.f10.body.getD .skip) [(.sl false (some 4) x0)] [] K = f10_A R_f21 R_f23 k X (fun u => K (f10_out u)) x0 := (f10_ev' R_f21 R_f23 hR_f21 hR_f23 k K x0).trans rfl
theorem f10_okA (R_f21 : f21_R) (R_f23 : f23_R) (hR_f21 : AnsOk Try.prog 21 (f21_cOf R_f21)) (hR_f23 : AnsOk Try.prog 23 (f23_cOf R_f23)) (k : Nat) : AnsOk Try.prog 10 (f10_cOf (f10_A R_f21 R_f23 k)) := by
  intro X xs ns K x h
  unfold f10_cOf at h ⊢
  split at h
  · exact ans_main S (f10_Cok R_f21 R_f23 hR_f21 hR_f23) Try.func10 (ent_of Try.func10 (by kernel_rfl) rfl) rfl (fun X K => f10_ev R_f21 R_f23 hR_f21 hR_f23 k K _) h
  · cases h
/-- "outpost/outpostlaw15.few" -/
def f10 {X : Type} (k : Nat) (K : Bool → Option X) (x0 : List CV) : Option X := f10_A (fun X => @f21 X k) (fun X => @f23 X k) k X K x0
theorem f10_ok (k : Nat) : AnsOk Try.prog 10 (f10_cOf (fun X => @f10 X k)) := f10_okA (fun X => @f21 X k) (fun X => @f23 X k) (f21_ok k) (f23_ok k) k
abbrev f39_R : Type 1 := (X : Type) → (Bool → Option X) → Int → Int → Option X
def f39_out (u : Bool) : Out := ⟨(.v (CV.bool u)), []⟩
def f39_cOf (R : f39_R) : FnC := fun X xs ns K => match xs, ns with
  | [(.v (CV.int .i64 x0)), (.v (CV.int .i64 x1))], [] => R X (fun u => K (f39_out u)) x0 x1
  | _, _ => none
def f39_plan : Nat → Option (List Nat × List Wk)
  | 0 => some ([0, 1], [])
  | 1 => some ([0, 1], [])
  | 2 => some ([0], [])
  | 3 => some ([0, 1], [])
  | 4 => some ([0], [])
  | 5 => some ([0, 1], [])
  | _ => none
def f39_C : Fns := noC
theorem f39_Cok : CsOk Try.prog (f39_C) := noC_ok
def f39_cx : Cx := mkCx (tabOf rows) (f39_C) md (cmpIn cmps) f39_plan (f39_Cok)
def f39_T {X : Type} (k : Nat) (K : Bool → Option X)  (x0 : Int) (x1 : Int) : Option X :=
(bif (x1 == (-1)) then
(bif (x0 == 0) then
K (true)
else
(bif (x0 == 2) then
K (true)
else
K ((x0 == 3))))
else
(bif (x1 == 0) then
(bif (x0 == 2) then
K (true)
else
K ((x0 == 3)))
else
(bif (x1 == 2) then
K ((x0 == 1))
else
K (false))))
/-- "outpost/outpostref15.may" -/
def f39_A (k : Nat) : f39_R := fun X K x0 x1 => f39_T k K  x0 x1
set_option maxRecDepth 100000 in
theorem f39_ev' {X : Type} (k : Nat) (K : Out → Option X) (x0 : Int) (x1 : Int) : evFn (f39_cx) [] k Try.f39.ntmps Try.f39.results.toList (Try.f39.body.getD .skip) [(.v (CV.int .i64 x0)), (.v (CV.int .i64 x1))] [] K = f39_T k (fun u => K (f39_out u)) x0 x1 := by kernel_rfl
theorem f39_ev {X : Type} (k : Nat) (K : Out → Option X) (x0 : Int) (x1 : Int) : evFn (f39_cx) [] k Try.f39.ntmps Try.f39.results.toList (Try.f39.body.getD .skip) [(.v (CV.int .i64 x0)), (.v (CV.int .i64 x1))] [] K = f39_A k X (fun u => K (f39_out u)) x0 x1 := (f39_ev' k K x0 x1).trans rfl
theorem f39_okA (k : Nat) : AnsOk Try.prog 39 (f39_cOf (f39_A k)) := by
  intro X xs ns K x h
  unfold f39_cOf at h ⊢
  split at h
  · exact ans_main S (f39_Cok) Try.func39 (ent_of Try.func39 (by kernel_rfl) rfl) rfl (fun X K => f39_ev k K _ _) h
  · cases h
/-- "outpost/outpostref15.may" -/
def f39 {X : Type} (k : Nat) (K : Bool → Option X) (x0 : Int) (x1 : Int) : Option X := f39_A k X K x0 x1
theorem f39_ok (k : Nat) : AnsOk Try.prog 39 (f39_cOf (fun X => @f39 X k)) := f39_okA k
abbrev f27_R : Type 1 := (X : Type) → (Bool → Option X) → (List CV) → Int → Option X
def f27_out (u : Bool) : Out := ⟨(.v (CV.bool u)), []⟩
def f27_cOf (R : f27_R) : FnC := fun X xs ns K => match xs, ns with
  | [(.sl false (some 4) x0), (.v (CV.int .i64 x1))], [] => R X (fun u => K (f27_out u)) x0 x1
  | _, _ => none
def f27_plan : Nat → Option (List Nat × List Wk)
  | 0 => some ([0, 1], [])
  | 1 => some ([0, 1], [])
  | 2 => some ([0, 1, 5], [])
  | 3 => some ([0, 1, 5], [])
  | 4 => some ([0, 1, 5], [])
  | 5 => some ([0, 1, 5, 6], [])
  | 6 => some ([], [])
  | 7 => some ([0, 1, 5, 6], [])
  | 8 => some ([0, 1, 5, 6], [])
  | 9 => some ([], [])
  | 10 => some ([0, 1, 5, 6], [])
  | 11 => some ([], [])
  | 12 => some ([], [])
  | _ => none
def f27_C (R_f39 : f39_R) (R_f27 : f27_R) : Fns := (orC 27 (f27_cOf R_f27) (orC 39 (f39_cOf R_f39) noC))
theorem f27_Cok (R_f39 : f39_R) (R_f27 : f27_R) (hR_f39 : AnsOk Try.prog 39 (f39_cOf R_f39)) (hR_f27 : AnsOk Try.prog 27 (f27_cOf R_f27)) : CsOk Try.prog (f27_C R_f39 R_f27) := (orC_ok hR_f27 (orC_ok hR_f39 noC_ok))
def f27_cx (R_f39 : f39_R) (R_f27 : f27_R) (hR_f39 : AnsOk Try.prog 39 (f39_cOf R_f39)) (hR_f27 : AnsOk Try.prog 27 (f27_cOf R_f27)) : Cx := mkCx (tabOf rows) (f27_C R_f39 R_f27) md (cmpIn cmps) f27_plan (f27_Cok R_f39 R_f27 hR_f39 hR_f27)
def f27_S1 (v : (List CV) × Int × Int) : St := ⟨[(.sl false (some 4) v.1), (.v (CV.int .i64 v.2.1)), .undef, .undef, .undef, (.v (CV.int .i64 v.2.2)), .undef, .undef, .undef, .undef, .undef, .undef, .undef, .undef, .undef, .undef, .undef, .undef, .undef, .undef, .undef, .undef, .undef, .undef, .undef, .undef, .undef, .undef, .undef, .undef, .undef, .undef, .undef, .undef, .undef, .undef, .undef, .undef, .undef, .undef, .undef, .undef, .undef, .undef, .undef, .undef, .undef, .undef, .undef, .undef, .undef, .undef, .undef, .undef, .undef, .undef], []⟩
def f27_J1 {X : Type} (R_f39 : f39_R) (R_f27 : f27_R) (k : Nat) (K : Bool → Option X) (rec1 : (List CV) × Int × Int → Option X) (v4_0 : (List CV) × Int × Int) (v14 : Unit) : Option X :=
rec1 (v4_0.1, v4_0.2.1, (IntKind.wrap .i64 (v4_0.2.2 + 1)))
def f27_T1 {X : Type} (R_f39 : f39_R) (R_f27 : f27_R) (k : Nat) (K : Bool → Option X)   (rec1 : (List CV) × Int × Int → Option X) (v4_0 : (List CV) × Int × Int) : Option X :=
(bif (decide (v4_0.2.2 < (Nat.cast ((List.length v4_0.1)) : Int))) then
grd (decide (0 ≤ v4_0.2.2)) <|
Option.bind (v4_0.1)[(Int.toNat v4_0.2.2)]? fun e15 =>
grd (CV.isA 4 e15) <|
grd (CV.isI .i64 (CV.cellD 0 e15)) <|
grd (CV.isI .i64 (CV.cellD 1 e15)) <|
grd (CV.isL none (CV.cellD 2 e15)) <|
grd (CV.isL (some 4) (CV.cellD 3 e15)) <|
R_f39 _ (fun u17 =>
(bif (!u17) then
K (false)
else
(bif (decide ((CV.toI (CV.cellD 1 e15)) < 0)) then
K (false)
else
(bif (decide ((CV.toI (CV.cellD 1 e15)) > 65535)) then
K (false)
else
(bif ((CV.toI (CV.cellD 0 e15)) == 1) then
(bif (decide ((Nat.cast ((List.length (CV.toL (CV.cellD 3 e15)))) : Int) > 0)) then
K (false)
else
f27_J1 R_f39 R_f27 k K rec1 v4_0 (()))
else
(bif ((CV.toI (CV.cellD 0 e15)) == 3) then
(bif (decide ((Nat.cast ((List.length (CV.toL (CV.cellD 3 e15)))) : Int) > 0)) then
K (false)
else
f27_J1 R_f39 R_f27 k K rec1 v4_0 (()))
else
(bif (decide ((Nat.cast ((List.length (CV.toL (CV.cellD 2 e15)))) : Int) > 0)) then
K (false)
else
R_f27 _ (fun u18 =>
(bif (!u18) then
K (false)
else
f27_J1 R_f39 R_f27 k K rec1 v4_0 (()))) ((CV.toL (CV.cellD 3 e15))) ((CV.toI (CV.cellD 0 e15)))))))))) ((CV.toI (CV.cellD 0 e15))) (v4_0.2.1)
else
K (true))
def f27_L1 {X : Type} (R_f39 : f39_R) (R_f27 : f27_R) (k : Nat) (K : Bool → Option X)  (rec1 : (List CV) × Int × Int → Option X) (v : (List CV) × Int × Int) : Option X := f27_T1 R_f39 R_f27 k K   rec1 v
set_option maxRecDepth 100000 in
theorem f27_L1_ev {X : Type} (R_f39 : f39_R) (R_f27 : f27_R) (hR_f39 : AnsOk Try.prog 39 (f39_cOf R_f39)) (hR_f27 : AnsOk Try.prog 27 (f27_cOf R_f27)) (k : Nat) (K : Out → Option X)  (r1 : St → Option X) (v : (List CV) × Int × Int) : loopB (f27_cx R_f39 R_f27 hR_f39 hR_f27) k [.r, .l, .r, .b] (Try.f27.body.getD .skip) (retK (f27_cx R_f39 R_f27 hR_f39 hR_f27) [] Try.f27.results.toList K) [] r1 (f27_S1 v) = f27_T1 R_f39 R_f27 k (fun u => K (f27_out u))   (fun v => r1 (f27_S1 v)) v := by kernel_rfl
theorem f27_L1_it {X : Type} (R_f39 : f39_R) (R_f27 : f27_R) (hR_f39 : AnsOk Try.prog 39 (f39_cOf R_f39)) (hR_f27 : AnsOk Try.prog 27 (f27_cOf R_f27)) (k : Nat) (K : Out → Option X)  : (fun v => iter (loopB (f27_cx R_f39 R_f27 hR_f39 hR_f27) k [.r, .l, .r, .b] (Try.f27.body.getD .skip) (retK (f27_cx R_f39 R_f27 hR_f39 hR_f27) [] Try.f27.results.toList K) []) k (f27_S1 v)) = iterV (f27_L1 R_f39 R_f27 k (fun u => K (f27_out u)) ) k :=
  iter_map (fun r1 v => (f27_L1_ev R_f39 R_f27 hR_f39 hR_f27 k K  r1 v).trans rfl) k
def f27_T {X : Type} (R_f39 : f39_R) (R_f27 : f27_R) (k : Nat) (K : Bool → Option X) (loop1 : (List CV) × Int × Int → Option X) (x0 : List CV) (x1 : Int) : Option X :=
loop1 (x0, x1, 0)
/-- "outpost/outpostref15.rightIn" -/
def f27_A (R_f39 : f39_R) (R_f27 : f27_R) (k : Nat) : f27_R := fun X K x0 x1 => f27_T R_f39 R_f27 k K (iterV (f27_L1 R_f39 R_f27 k K) k) x0 x1
set_option maxRecDepth 100000 in
theorem f27_ev' {X : Type} (R_f39 : f39_R) (R_f27 : f27_R) (hR_f39 : AnsOk Try.prog 39 (f39_cOf R_f39)) (hR_f27 : AnsOk Try.prog 27 (f27_cOf R_f27)) (k : Nat) (K : Out → Option X) (x0 : List CV) (x1 : Int) : evFn (f27_cx R_f39 R_f27 hR_f39 hR_f27) [] k Try.f27.ntmps Try.f27.results.toList (Try.f27.body.getD .skip) [(.sl false (some 4) x0), (.v (CV.int .i64 x1))] [] K = f27_T R_f39 R_f27 k (fun u => K (f27_out u)) (fun v => iter (loopB (f27_cx R_f39 R_f27 hR_f39 hR_f27) k [.r, .l, .r, .b] (Try.f27.body.getD .skip) (retK (f27_cx R_f39 R_f27 hR_f39 hR_f27) [] Try.f27.results.toList K) []) k (f27_S1 v)) x0 x1 := by kernel_rfl
theorem f27_ev {X : Type} (R_f39 : f39_R) (R_f27 : f27_R) (hR_f39 : AnsOk Try.prog 39 (f39_cOf R_f39)) (hR_f27 : AnsOk Try.prog 27 (f27_cOf R_f27)) (k : Nat) (K : Out → Option X) (x0 : List CV) (x1 : Int) : evFn (f27_cx R_f39 R_f27 hR_f39 hR_f27) [] k Try.f27.ntmps Try.f27.results.toList (Try.f27.body.getD .skip) [(.sl false (some 4) x0), (.v (CV.int .i64 x1))] [] K = f27_A R_f39 R_f27 k X (fun u => K (f27_out u)) x0 x1 := (f27_ev' R_f39 R_f27 hR_f39 hR_f27 k K x0 x1).trans (by rw [f27_L1_it R_f39 R_f27 hR_f39 hR_f27 k K]; rfl)
theorem f27_okA (R_f39 : f39_R) (R_f27 : f27_R) (hR_f39 : AnsOk Try.prog 39 (f39_cOf R_f39)) (hR_f27 : AnsOk Try.prog 27 (f27_cOf R_f27)) (k : Nat) : AnsOk Try.prog 27 (f27_cOf (f27_A R_f39 R_f27 k)) := by
  intro X xs ns K x h
  unfold f27_cOf at h ⊢
  split at h
  · exact ans_main S (f27_Cok R_f39 R_f27 hR_f39 hR_f27) Try.func27 (ent_of Try.func27 (by kernel_rfl) rfl) rfl (fun X K => f27_ev R_f39 R_f27 hR_f39 hR_f27 k K _ _) h
  · cases h
def f27_r : Nat → f27_R
  | 0 => fun _ _ _ _ => none
  | k + 1 => f27_A (fun X => @f39 X k) (f27_r k) k
theorem f27_okr : ∀ k, AnsOk Try.prog 27 (f27_cOf (f27_r k))
  | 0 => by
    intro X xs ns K x h
    unfold f27_cOf at h
    split at h <;> cases h
  | k + 1 => f27_okA (fun X => @f39 X k) (f27_r k) (f39_ok k) (f27_okr k) k
def f27 {X : Type} (k : Nat) (K : Bool → Option X) (x0 : List CV) (x1 : Int) : Option X := f27_r k X K x0 x1
theorem f27_ok (k : Nat) : AnsOk Try.prog 27 (f27_cOf (fun X => @f27 X k)) := f27_okr k
abbrev f14_R : Type 1 := (X : Type) → (Bool → Option X) → (List CV) → Option X
def f14_out (u : Bool) : Out := ⟨(.v (CV.bool u)), []⟩
def f14_cOf (R : f14_R) : FnC := fun X xs ns K => match xs, ns with
  | [(.sl false (some 4) x0)], [] => R X (fun u => K (f14_out u)) x0
  | _, _ => none
def f14_plan : Nat → Option (List Nat × List Wk)
  | 0 => some ([0], [])
  | 1 => some ([0], [])
  | _ => none
def f14_C (R_f21 : f21_R) (R_f27 : f27_R) : Fns := (orC 21 (f21_cOf R_f21) (orC 27 (f27_cOf R_f27) noC))
theorem f14_Cok (R_f21 : f21_R) (R_f27 : f27_R) (hR_f21 : AnsOk Try.prog 21 (f21_cOf R_f21)) (hR_f27 : AnsOk Try.prog 27 (f27_cOf R_f27)) : CsOk Try.prog (f14_C R_f21 R_f27) := (orC_ok hR_f21 (orC_ok hR_f27 noC_ok))
def f14_cx (R_f21 : f21_R) (R_f27 : f27_R) (hR_f21 : AnsOk Try.prog 21 (f21_cOf R_f21)) (hR_f27 : AnsOk Try.prog 27 (f27_cOf R_f27)) : Cx := mkCx (tabOf rows) (f14_C R_f21 R_f27) md (cmpIn cmps) f14_plan (f14_Cok R_f21 R_f27 hR_f21 hR_f27)
def f14_T {X : Type} (R_f21 : f21_R) (R_f27 : f27_R) (k : Nat) (K : Bool → Option X)  (x0 : List CV) : Option X :=
R_f21 _ (fun u1 =>
(bif (decide (u1 ≤ 64)) then
R_f27 _ (fun u2 =>
K (u2)) (x0) ((-1))
else
K (false))) (x0) (64)
/-- "outpost/outpostref15.Right" -/
def f14_A (R_f21 : f21_R) (R_f27 : f27_R) (k : Nat) : f14_R := fun X K x0 => f14_T R_f21 R_f27 k K  x0
set_option maxRecDepth 100000 in
theorem f14_ev' {X : Type} (R_f21 : f21_R) (R_f27 : f27_R) (hR_f21 : AnsOk Try.prog 21 (f21_cOf R_f21)) (hR_f27 : AnsOk Try.prog 27 (f27_cOf R_f27)) (k : Nat) (K : Out → Option X) (x0 : List CV) : evFn (f14_cx R_f21 R_f27 hR_f21 hR_f27) [] k Try.f14.ntmps Try.f14.results.toList (Try.f14.body.getD .skip) [(.sl false (some 4) x0)] [] K = f14_T R_f21 R_f27 k (fun u => K (f14_out u)) x0 := by kernel_rfl
theorem f14_ev {X : Type} (R_f21 : f21_R) (R_f27 : f27_R) (hR_f21 : AnsOk Try.prog 21 (f21_cOf R_f21)) (hR_f27 : AnsOk Try.prog 27 (f27_cOf R_f27)) (k : Nat) (K : Out → Option X) (x0 : List CV) : evFn (f14_cx R_f21 R_f27 hR_f21 hR_f27) [] k Try.f14.ntmps Try.f14.results.toList (Try.f14.body.getD .skip) [(.sl false (some 4) x0)] [] K = f14_A R_f21 R_f27 k X (fun u => K (f14_out u)) x0 := (f14_ev' R_f21 R_f27 hR_f21 hR_f27 k K x0).trans rfl
theorem f14_okA (R_f21 : f21_R) (R_f27 : f27_R) (hR_f21 : AnsOk Try.prog 21 (f21_cOf R_f21)) (hR_f27 : AnsOk Try.prog 27 (f27_cOf R_f27)) (k : Nat) : AnsOk Try.prog 14 (f14_cOf (f14_A R_f21 R_f27 k)) := by
  intro X xs ns K x h
  unfold f14_cOf at h ⊢
  split at h
  · exact ans_main S (f14_Cok R_f21 R_f27 hR_f21 hR_f27) Try.func14 (ent_of Try.func14 (by kernel_rfl) rfl) rfl (fun X K => f14_ev R_f21 R_f27 hR_f21 hR_f27 k K _) h
  · cases h
/-- "outpost/outpostref15.Right" -/
def f14 {X : Type} (k : Nat) (K : Bool → Option X) (x0 : List CV) : Option X := f14_A (fun X => @f21 X k) (fun X => @f27 X k) k X K x0
theorem f14_ok (k : Nat) : AnsOk Try.prog 14 (f14_cOf (fun X => @f14 X k)) := f14_okA (fun X => @f21 X k) (fun X => @f27 X k) (f21_ok k) (f27_ok k) k
abbrev f37_R : Type 1 := (X : Type) → (Nat × (List CV) → Option X) → (List CV) → Option X
def f37_out (u : Nat × (List CV)) : Out := ⟨(.osl [2000] none 0 u.1), [([2000], (.row false none u.2))]⟩
def f37_cOf (R : f37_R) : FnC := fun X xs ns K => match xs, ns with
  | [(.sl false none x0)], [] => R X (fun u => K (f37_out u)) x0
  | _, _ => none
def f37_plan : Nat → Option (List Nat × List Wk)
  | 0 => some ([0], [])
  | 1 => some ([0], [])
  | 2 => some ([0, 3], [])
  | 3 => some ([0, 3, 4], [])
  | 4 => some ([0, 3, 4], [])
  | 5 => some ([0, 3, 4], [])
  | 6 => some ([0, 3, 4, 5], [])
  | 7 => some ([0, 3, 4, 5], [])
  | 8 => some ([0, 3, 4, 5], [])
  | 9 => some ([3], [])
  | _ => none
def f37_C : Fns := noC
theorem f37_Cok : CsOk Try.prog (f37_C) := noC_ok
def f37_cx : Cx := mkCx (tabOf rows) (f37_C) md (cmpIn cmps) f37_plan (f37_Cok)
def f37_S1 (v : (List CV) × Nat × Int × (List CV)) : St := ⟨[(.sl false none v.1), .undef, .undef, (.osl [3] none 0 v.2.1), (.v (CV.int .i64 v.2.2.1)), .undef, .undef, .undef, .undef, .undef, .undef, .undef, .undef, .undef, .undef, .undef, .undef, .undef, .undef, .undef, .undef, .undef, .undef, .undef, .undef, .undef, .undef, .undef, .undef, .undef, .undef, .undef, .undef], [([3], (.row false none v.2.2.2))]⟩
def f37_S2 (v : (List CV) × Nat × Int × Int × (List CV)) : St := ⟨[(.sl false none v.1), .undef, .undef, (.osl [3] none 0 v.2.1), (.v (CV.int .i64 v.2.2.1)), (.v (CV.int .i64 v.2.2.2.1)), .undef, .undef, .undef, .undef, .undef, .undef, .undef, .undef, .undef, .undef, .undef, .undef, .undef, .undef, .undef, .undef, .undef, .undef, .undef, .undef, .undef, .undef, .undef, .undef, .undef, .undef, .undef], [([3], (.row false none v.2.2.2.2))]⟩
def f37_T2 {X : Type} (k : Nat) (K : Nat × (List CV) → Option X) (rec1 : (List CV) × Nat × Int × (List CV) → Option X)  (rec2 : (List CV) × Nat × Int × Int × (List CV) → Option X) (v11_14 : (List CV) × Nat × Int × Int × (List CV)) : Option X :=
grd (decide (0 ≤ v11_14.2.2.1)) <|
Option.bind (v11_14.1)[(Int.toNat v11_14.2.2.1)]? fun e23 =>
grd (CV.isL none e23) <|
(bif (decide (v11_14.2.2.2.1 < (Nat.cast ((List.length (CV.toL e23))) : Int))) then
grd (decide (0 ≤ v11_14.2.2.1)) <|
Option.bind (v11_14.1)[(Int.toNat v11_14.2.2.1)]? fun e26 =>
grd (CV.isL none e26) <|
grd (decide (0 ≤ v11_14.2.2.2.1)) <|
Option.bind ((CV.toL e26))[(Int.toNat v11_14.2.2.2.1)]? fun e27 =>
grd (CV.isI .u8 e27) <|
grd (decide ((v11_14.2.1 + (List.length (List.take 1 (List.drop 0 [(CV.int .u8 (CV.toI e27))])))) * 1 ≤ 140737488355328)) <|
rec2 (v11_14.1, (v11_14.2.1 + (List.length (List.take 1 (List.drop 0 [(CV.int .u8 (CV.toI e27))])))), v11_14.2.2.1, (IntKind.wrap .i64 (v11_14.2.2.2.1 + 1)), ((List.take v11_14.2.1 v11_14.2.2.2.2) ++ (List.take 1 (List.drop 0 [(CV.int .u8 (CV.toI e27))]))))
else
rec1 (v11_14.1, v11_14.2.1, (IntKind.wrap .i64 (v11_14.2.2.1 + 1)), v11_14.2.2.2.2))
def f37_L2 {X : Type} (k : Nat) (K : Nat × (List CV) → Option X) (rec1 : (List CV) × Nat × Int × (List CV) → Option X) (rec2 : (List CV) × Nat × Int × Int × (List CV) → Option X) (v : (List CV) × Nat × Int × Int × (List CV)) : Option X := f37_T2 k K rec1  rec2 v
set_option maxRecDepth 100000 in
theorem f37_L2_ev {X : Type} (k : Nat) (K : Out → Option X) (r1 : St → Option X) (r2 : St → Option X) (v : (List CV) × Nat × Int × Int × (List CV)) : loopB (f37_cx) k [.r, .r, .l, .r, .b, .o, .r, .l, .b, .r, .b] (Try.f37.body.getD .skip) (retK (f37_cx) [] Try.f37.results.toList K) [r1] r2 (f37_S2 v) = f37_T2 k (fun u => K (f37_out u)) (fun v => r1 (f37_S1 v))  (fun v => r2 (f37_S2 v)) v := by kernel_rfl
theorem f37_L2_it {X : Type} (k : Nat) (K : Out → Option X) (r1 : St → Option X) : (fun v => iter (loopB (f37_cx) k [.r, .r, .l, .r, .b, .o, .r, .l, .b, .r, .b] (Try.f37.body.getD .skip) (retK (f37_cx) [] Try.f37.results.toList K) [r1]) k (f37_S2 v)) = iterV (f37_L2 k (fun u => K (f37_out u)) (fun v => r1 (f37_S1 v))) k :=
  iter_map (fun r2 v => (f37_L2_ev k K r1 r2 v).trans rfl) k
def f37_T1 {X : Type} (k : Nat) (K : Nat × (List CV) → Option X)  (loop2 : (List CV) × Nat × Int × Int × (List CV) → Option X) (rec1 : (List CV) × Nat × Int × (List CV) → Option X) (v5_0 : (List CV) × Nat × Int × (List CV)) : Option X :=
(bif (decide (v5_0.2.2.1 < (Nat.cast ((List.length v5_0.1)) : Int))) then
loop2 (v5_0.1, v5_0.2.1, v5_0.2.2.1, 0, v5_0.2.2.2)
else
K (v5_0.2.1, (List.take (0 + v5_0.2.1) v5_0.2.2.2)))
def f37_L1 {X : Type} (k : Nat) (K : Nat × (List CV) → Option X)  (rec1 : (List CV) × Nat × Int × (List CV) → Option X) (v : (List CV) × Nat × Int × (List CV)) : Option X := f37_T1 k K  (iterV (f37_L2 k K rec1) k) rec1 v
set_option maxRecDepth 100000 in
theorem f37_L1_ev {X : Type} (k : Nat) (K : Out → Option X)  (r1 : St → Option X) (v : (List CV) × Nat × Int × (List CV)) : loopB (f37_cx) k [.r, .r, .l, .r, .b] (Try.f37.body.getD .skip) (retK (f37_cx) [] Try.f37.results.toList K) [] r1 (f37_S1 v) = f37_T1 k (fun u => K (f37_out u))  (fun v => iter (loopB (f37_cx) k [.r, .r, .l, .r, .b, .o, .r, .l, .b, .r, .b] (Try.f37.body.getD .skip) (retK (f37_cx) [] Try.f37.results.toList K) [r1]) k (f37_S2 v)) (fun v => r1 (f37_S1 v)) v := by kernel_rfl
theorem f37_L1_it {X : Type} (k : Nat) (K : Out → Option X)  : (fun v => iter (loopB (f37_cx) k [.r, .r, .l, .r, .b] (Try.f37.body.getD .skip) (retK (f37_cx) [] Try.f37.results.toList K) []) k (f37_S1 v)) = iterV (f37_L1 k (fun u => K (f37_out u)) ) k :=
  iter_map (fun r1 v => (f37_L1_ev k K  r1 v).trans (by rw [f37_L2_it k K r1]; rfl)) k
def f37_T {X : Type} (k : Nat) (K : Nat × (List CV) → Option X) (loop1 : (List CV) × Nat × Int × (List CV) → Option X) (x0 : List CV) : Option X :=
loop1 (x0, 0, 0, [])
/-- "outpost/outpostref01.Join" -/
def f37_A (k : Nat) : f37_R := fun X K x0 => f37_T k K (iterV (f37_L1 k K) k) x0
set_option maxRecDepth 100000 in
theorem f37_ev' {X : Type} (k : Nat) (K : Out → Option X) (x0 : List CV) : evFn (f37_cx) [] k Try.f37.ntmps Try.f37.results.toList (Try.f37.body.getD .skip) [(.sl false none x0)] [] K = f37_T k (fun u => K (f37_out u)) (fun v => iter (loopB (f37_cx) k [.r, .r, .l, .r, .b] (Try.f37.body.getD .skip) (retK (f37_cx) [] Try.f37.results.toList K) []) k (f37_S1 v)) x0 := by kernel_rfl
theorem f37_ev {X : Type} (k : Nat) (K : Out → Option X) (x0 : List CV) : evFn (f37_cx) [] k Try.f37.ntmps Try.f37.results.toList (Try.f37.body.getD .skip) [(.sl false none x0)] [] K = f37_A k X (fun u => K (f37_out u)) x0 := (f37_ev' k K x0).trans (by rw [f37_L1_it k K]; rfl)
theorem f37_okA (k : Nat) : AnsOk Try.prog 37 (f37_cOf (f37_A k)) := by
  intro X xs ns K x h
  unfold f37_cOf at h ⊢
  split at h
  · exact ans_main S (f37_Cok) Try.func37 (ent_of Try.func37 (by kernel_rfl) rfl) rfl (fun X K => f37_ev k K _) h
  · cases h
/-- "outpost/outpostref01.Join" -/
def f37 {X : Type} (k : Nat) (K : Nat × (List CV) → Option X) (x0 : List CV) : Option X := f37_A k X K x0
theorem f37_ok (k : Nat) : AnsOk Try.prog 37 (f37_cOf (fun X => @f37 X k)) := f37_okA k
abbrev f25_R : Type 1 := (X : Type) → (Nat × Int × (List CV) → Option X) → (List CV) → Option X
def f25_out (u : Nat × Int × (List CV)) : Out := ⟨(.tup [(.osl [0, 2000] none 0 u.1), (.v (CV.int .i64 u.2.1))]), [([0, 2000], (.row false none u.2.2))]⟩
def f25_cOf (R : f25_R) : FnC := fun X xs ns K => match xs, ns with
  | [(.sl false (some 4) x0)], [] => R X (fun u => K (f25_out u)) x0
  | _, _ => none
def f25_plan : Nat → Option (List Nat × List Wk)
  | 0 => some ([0], [])
  | 1 => some ([0], [])
  | 2 => some ([0, 4], [])
  | 3 => some ([0, 4, 5], [])
  | 4 => some ([0, 4, 5], [])
  | 5 => some ([0, 4, 5], [])
  | 6 => some ([0, 4, 5, 6], [])
  | 7 => some ([0, 4, 5], [])
  | 8 => some ([0, 4, 5, 7, 8], [])
  | 9 => some ([8], [])
  | 10 => some ([0, 4, 5, 7], [])
  | 11 => some ([0, 4, 5, 6], [⟨6, [], none⟩])
  | 12 => some ([0, 4, 5, 6, 9], [])
  | 13 => some ([], [])
  | 14 => some ([0, 4, 5, 6, 9], [])
  | 15 => some ([0, 4, 5, 6, 9, 10], [])
  | 16 => some ([0, 4, 5, 6, 9, 10, 11], [])
  | 17 => some ([0, 4, 5, 6, 9, 10, 11], [])
  | 18 => some ([0, 4, 5, 6, 9, 10, 11], [])
  | 19 => some ([0, 4, 5, 6, 9, 10, 11], [])
  | 20 => some ([0, 4, 5, 6, 9, 10, 11], [])
  | 21 => some ([0, 4, 5, 6, 9, 10, 11], [])
  | 22 => some ([0, 4, 5, 6, 9, 10, 11], [])
  | 23 => some ([0, 4, 5, 6, 9, 10, 11], [])
  | 24 => some ([0, 4, 5, 6, 9, 10, 11], [])
  | 25 => some ([0, 4, 5, 6, 9, 10, 11], [])
  | 26 => some ([0, 4, 5, 6, 9, 10, 11], [])
  | 27 => some ([0, 4, 5, 6, 10, 11], [])
  | 28 => some ([4], [])
  | _ => none
def f25_C (R_f37 : f37_R) (R_f25 : f25_R) : Fns := (orC 25 (f25_cOf R_f25) (orC 37 (f37_cOf R_f37) noC))
theorem f25_Cok (R_f37 : f37_R) (R_f25 : f25_R) (hR_f37 : AnsOk Try.prog 37 (f37_cOf R_f37)) (hR_f25 : AnsOk Try.prog 25 (f25_cOf R_f25)) : CsOk Try.prog (f25_C R_f37 R_f25) := (orC_ok hR_f25 (orC_ok hR_f37 noC_ok))
def f25_cx (R_f37 : f37_R) (R_f25 : f25_R) (hR_f37 : AnsOk Try.prog 37 (f37_cOf R_f37)) (hR_f25 : AnsOk Try.prog 25 (f25_cOf R_f25)) : Cx := mkCx (tabOf rows) (f25_C R_f37 R_f25) md (cmpIn cmps) f25_plan (f25_Cok R_f37 R_f25 hR_f37 hR_f25)
def f25_S1 (v : (List CV) × Nat × Int × (List CV)) : St := ⟨[(.sl false (some 4) v.1), .undef, .undef, .undef, (.osl [4] none 0 v.2.1), (.v (CV.int .i64 v.2.2.1)), .undef, .undef, .undef, .undef, .undef, .undef, .undef, .undef, .undef, .undef, .undef, .undef, .undef, .undef, .undef, .undef, .undef, .undef, .undef, .undef, .undef, .undef, .undef, .undef, .undef, .undef, .undef, .undef, .undef, .undef, .undef, .undef, .undef, .undef, .undef, .undef, .undef, .undef, .undef, .undef, .undef, .undef, .undef, .undef, .undef, .undef, .undef, .undef, .undef, .undef, .undef, .undef, .undef, .undef, .undef, .undef, .undef, .undef, .undef, .undef, .undef, .undef, .undef, .undef, .undef, .undef, .undef, .undef, .undef, .undef, .undef, .undef, .undef, .undef, .undef, .undef, .undef, .undef, .undef, .undef, .undef, .undef, .undef, .undef, .undef, .undef, .undef, .undef, .undef, .undef, .undef, .undef, .undef, .undef, .undef, .undef, .undef, .undef, .undef, .undef, .undef, .undef, .undef, .undef, .undef, .undef, .undef, .undef, .undef, .undef, .undef, .undef, .undef, .undef, .undef, .undef, .undef, .undef], [([4], (.row false none v.2.2.2))]⟩
def f25_J1 {X : Type} (R_f37 : f37_R) (R_f25 : f25_R) (k : Nat) (K : Nat × Int × (List CV) → Option X) (rec1 : (List CV) × Nat × Int × (List CV) → Option X) (v119 : (List CV)) (v5_0 : (List CV) × Nat × Int × (List CV)) (v129 : Int × Nat × (List CV)) : Option X :=
R_f37 _ (fun u130 =>
rec1 (v5_0.1, u130.1, (IntKind.wrap .i64 (v5_0.2.2.1 + 1)), u130.2)) ((List.take 4 (List.drop 0 [(CV.slc none (List.take v5_0.2.1 (List.drop 0 v5_0.2.2.2))), (CV.slc none (List.take 1 (List.drop 0 [(CV.int .u8 (IntKind.wrap .u8 v129.1))]))), (CV.slc none (List.take v129.2.1 (List.drop 0 v129.2.2))), (CV.slc none v119)])))
def f25_J2 {X : Type} (R_f37 : f37_R) (R_f25 : f25_R) (k : Nat) (K : Nat × Int × (List CV) → Option X) (rec1 : (List CV) × Nat × Int × (List CV) → Option X) (v119 : (List CV)) (v5_0 : (List CV) × Nat × Int × (List CV)) (v126 : Int × Nat × (List CV)) : Option X :=
grd (decide (0 ≤ v5_0.2.2.1)) <|
Option.bind (v5_0.1)[(Int.toNat v5_0.2.2.1)]? fun e127 =>
Option.bind (CV.cell e127 1) fun c128 =>
grd (CV.isI .i64 c128) <|
grd (decide ((v126.2.1 + (List.length (List.take 1 (List.drop 0 [(CV.int .u8 (IntKind.wrap .u8 (Int.tmod (CV.toI c128) 256)))])))) * 1 ≤ 140737488355328)) <|
(bif (decide ((Nat.cast ((List.length v119)) : Int) < 8)) then
f25_J1 R_f37 R_f25 k K rec1 v119 v5_0 ((IntKind.wrap .i64 (v126.1 + (Nat.cast ((List.length v119)) : Int))), (v126.2.1 + (List.length (List.take 1 (List.drop 0 [(CV.int .u8 (IntKind.wrap .u8 (Int.tmod (CV.toI c128) 256)))])))), ((List.take v126.2.1 v126.2.2) ++ (List.take 1 (List.drop 0 [(CV.int .u8 (IntKind.wrap .u8 (Int.tmod (CV.toI c128) 256)))]))))
else
(bif (decide ((Nat.cast ((List.length v119)) : Int) < 256)) then
grd (decide (((v126.2.1 + (List.length (List.take 1 (List.drop 0 [(CV.int .u8 (IntKind.wrap .u8 (Int.tmod (CV.toI c128) 256)))])))) + (List.length (List.take 1 (List.drop 0 [(CV.int .u8 (IntKind.wrap .u8 (Nat.cast ((List.length v119)) : Int)))])))) * 1 ≤ 140737488355328)) <|
f25_J1 R_f37 R_f25 k K rec1 v119 v5_0 ((IntKind.wrap .i64 (v126.1 + 8)), ((v126.2.1 + (List.length (List.take 1 (List.drop 0 [(CV.int .u8 (IntKind.wrap .u8 (Int.tmod (CV.toI c128) 256)))])))) + (List.length (List.take 1 (List.drop 0 [(CV.int .u8 (IntKind.wrap .u8 (Nat.cast ((List.length v119)) : Int)))])))), ((List.take (v126.2.1 + (List.length (List.take 1 (List.drop 0 [(CV.int .u8 (IntKind.wrap .u8 (Int.tmod (CV.toI c128) 256)))])))) ((List.take v126.2.1 v126.2.2) ++ (List.take 1 (List.drop 0 [(CV.int .u8 (IntKind.wrap .u8 (Int.tmod (CV.toI c128) 256)))])))) ++ (List.take 1 (List.drop 0 [(CV.int .u8 (IntKind.wrap .u8 (Nat.cast ((List.length v119)) : Int)))]))))
else
grd (decide (((v126.2.1 + (List.length (List.take 1 (List.drop 0 [(CV.int .u8 (IntKind.wrap .u8 (Int.tmod (CV.toI c128) 256)))])))) + (List.length (List.take 2 (List.drop 0 [(CV.int .u8 (IntKind.wrap .u8 (IntKind.wrap .i64 (Int.tdiv (Nat.cast ((List.length v119)) : Int) 256)))), (CV.int .u8 (IntKind.wrap .u8 (Int.tmod (Nat.cast ((List.length v119)) : Int) 256)))])))) * 1 ≤ 140737488355328)) <|
f25_J1 R_f37 R_f25 k K rec1 v119 v5_0 ((IntKind.wrap .i64 (v126.1 + 16)), ((v126.2.1 + (List.length (List.take 1 (List.drop 0 [(CV.int .u8 (IntKind.wrap .u8 (Int.tmod (CV.toI c128) 256)))])))) + (List.length (List.take 2 (List.drop 0 [(CV.int .u8 (IntKind.wrap .u8 (IntKind.wrap .i64 (Int.tdiv (Nat.cast ((List.length v119)) : Int) 256)))), (CV.int .u8 (IntKind.wrap .u8 (Int.tmod (Nat.cast ((List.length v119)) : Int) 256)))])))), ((List.take (v126.2.1 + (List.length (List.take 1 (List.drop 0 [(CV.int .u8 (IntKind.wrap .u8 (Int.tmod (CV.toI c128) 256)))])))) ((List.take v126.2.1 v126.2.2) ++ (List.take 1 (List.drop 0 [(CV.int .u8 (IntKind.wrap .u8 (Int.tmod (CV.toI c128) 256)))])))) ++ (List.take 2 (List.drop 0 [(CV.int .u8 (IntKind.wrap .u8 (IntKind.wrap .i64 (Int.tdiv (Nat.cast ((List.length v119)) : Int) 256)))), (CV.int .u8 (IntKind.wrap .u8 (Int.tmod (Nat.cast ((List.length v119)) : Int) 256)))]))))))
def f25_J3 {X : Type} (R_f37 : f37_R) (R_f25 : f25_R) (k : Nat) (K : Nat × Int × (List CV) → Option X) (rec1 : (List CV) × Nat × Int × (List CV) → Option X) (v5_0 : (List CV) × Nat × Int × (List CV)) (v119 : (List CV)) : Option X :=
(bif (decide ((Nat.cast ((List.length v119)) : Int) > 65535)) then
K (0, 2, (List.take 0 []))
else
grd (decide (0 ≤ v5_0.2.2.1)) <|
Option.bind (v5_0.1)[(Int.toNat v5_0.2.2.1)]? fun e120 =>
Option.bind (CV.cell e120 0) fun c121 =>
grd (CV.isI .i64 c121) <|
grd (decide (0 ≤ v5_0.2.2.1)) <|
Option.bind (v5_0.1)[(Int.toNat v5_0.2.2.1)]? fun e131 =>
Option.bind (CV.cell e131 1) fun c132 =>
grd (CV.isI .i64 c132) <|
(bif (decide ((CV.toI c132) > 255)) then
grd (decide (0 ≤ v5_0.2.2.1)) <|
Option.bind (v5_0.1)[(Int.toNat v5_0.2.2.1)]? fun e133 =>
Option.bind (CV.cell e133 1) fun c134 =>
grd (CV.isI .i64 c134) <|
grd (decide ((0 + (List.length (List.take 1 (List.drop 0 [(CV.int .u8 (IntKind.wrap .u8 (IntKind.wrap .i64 (Int.tdiv (CV.toI c134) 256))))])))) * 1 ≤ 140737488355328)) <|
f25_J2 R_f37 R_f25 k K rec1 v119 v5_0 ((IntKind.wrap .i64 ((IntKind.wrap .i64 ((CV.toI c121) * 64)) + 32)), (0 + (List.length (List.take 1 (List.drop 0 [(CV.int .u8 (IntKind.wrap .u8 (IntKind.wrap .i64 (Int.tdiv (CV.toI c134) 256))))])))), ((List.take 0 []) ++ (List.take 1 (List.drop 0 [(CV.int .u8 (IntKind.wrap .u8 (IntKind.wrap .i64 (Int.tdiv (CV.toI c134) 256))))]))))
else
f25_J2 R_f37 R_f25 k K rec1 v119 v5_0 ((IntKind.wrap .i64 ((CV.toI c121) * 64)), 0, [])))
def f25_T1 {X : Type} (R_f37 : f37_R) (R_f25 : f25_R) (k : Nat) (K : Nat × Int × (List CV) → Option X)   (rec1 : (List CV) × Nat × Int × (List CV) → Option X) (v5_0 : (List CV) × Nat × Int × (List CV)) : Option X :=
(bif (decide (v5_0.2.2.1 < (Nat.cast ((List.length v5_0.1)) : Int))) then
grd (decide (0 ≤ v5_0.2.2.1)) <|
Option.bind (v5_0.1)[(Int.toNat v5_0.2.2.1)]? fun e107 =>
Option.bind (CV.cell e107 2) fun c108 =>
grd (CV.isL none c108) <|
grd (decide (0 ≤ v5_0.2.2.1)) <|
Option.bind (v5_0.1)[(Int.toNat v5_0.2.2.1)]? fun e135 =>
Option.bind (CV.cell e135 0) fun c136 =>
grd (CV.isI .i64 c136) <|
(bif ((CV.toI c136) == 0) then
grd (decide (0 ≤ v5_0.2.2.1)) <|
Option.bind (v5_0.1)[(Int.toNat v5_0.2.2.1)]? fun e137 =>
Option.bind (CV.cell e137 3) fun c138 =>
grd (CV.isL (some 4) c138) <|
R_f25 _ (fun u139 =>
(bif (u139.2.1 != 0) then
K (0, u139.2.1, (List.take 0 []))
else
f25_J3 R_f37 R_f25 k K rec1 v5_0 ((List.take u139.1 (List.drop 0 u139.2.2))))) ((CV.toL c138))
else
grd (decide (0 ≤ v5_0.2.2.1)) <|
Option.bind (v5_0.1)[(Int.toNat v5_0.2.2.1)]? fun e140 =>
Option.bind (CV.cell e140 0) fun c141 =>
grd (CV.isI .i64 c141) <|
(bif ((CV.toI c141) == 2) then
grd (decide (0 ≤ v5_0.2.2.1)) <|
Option.bind (v5_0.1)[(Int.toNat v5_0.2.2.1)]? fun e142 =>
Option.bind (CV.cell e142 3) fun c143 =>
grd (CV.isL (some 4) c143) <|
R_f25 _ (fun u144 =>
(bif (u144.2.1 != 0) then
K (0, u144.2.1, (List.take 0 []))
else
f25_J3 R_f37 R_f25 k K rec1 v5_0 ((List.take u144.1 (List.drop 0 u144.2.2))))) ((CV.toL c143))
else
f25_J3 R_f37 R_f25 k K rec1 v5_0 ((CV.toL c108))))
else
K (v5_0.2.1, 0, (List.take (0 + v5_0.2.1) v5_0.2.2.2)))
def f25_L1 {X : Type} (R_f37 : f37_R) (R_f25 : f25_R) (k : Nat) (K : Nat × Int × (List CV) → Option X)  (rec1 : (List CV) × Nat × Int × (List CV) → Option X) (v : (List CV) × Nat × Int × (List CV)) : Option X := f25_T1 R_f37 R_f25 k K   rec1 v
set_option maxRecDepth 100000 in
theorem f25_L1_ev {X : Type} (R_f37 : f37_R) (R_f25 : f25_R) (hR_f37 : AnsOk Try.prog 37 (f37_cOf R_f37)) (hR_f25 : AnsOk Try.prog 25 (f25_cOf R_f25)) (k : Nat) (K : Out → Option X)  (r1 : St → Option X) (v : (List CV) × Nat × Int × (List CV)) : loopB (f25_cx R_f37 R_f25 hR_f37 hR_f25) k [.r, .r, .l, .r, .b] (Try.f25.body.getD .skip) (retK (f25_cx R_f37 R_f25 hR_f37 hR_f25) [⟨0, [0], some [0, 2000]⟩] Try.f25.results.toList K) [] r1 (f25_S1 v) = f25_T1 R_f37 R_f25 k (fun u => K (f25_out u))   (fun v => r1 (f25_S1 v)) v := by kernel_rfl
theorem f25_L1_it {X : Type} (R_f37 : f37_R) (R_f25 : f25_R) (hR_f37 : AnsOk Try.prog 37 (f37_cOf R_f37)) (hR_f25 : AnsOk Try.prog 25 (f25_cOf R_f25)) (k : Nat) (K : Out → Option X)  : (fun v => iter (loopB (f25_cx R_f37 R_f25 hR_f37 hR_f25) k [.r, .r, .l, .r, .b] (Try.f25.body.getD .skip) (retK (f25_cx R_f37 R_f25 hR_f37 hR_f25) [⟨0, [0], some [0, 2000]⟩] Try.f25.results.toList K) []) k (f25_S1 v)) = iterV (f25_L1 R_f37 R_f25 k (fun u => K (f25_out u)) ) k :=
  iter_map (fun r1 v => (f25_L1_ev R_f37 R_f25 hR_f37 hR_f25 k K  r1 v).trans rfl) k
def f25_T {X : Type} (R_f37 : f37_R) (R_f25 : f25_R) (k : Nat) (K : Nat × Int × (List CV) → Option X) (loop1 : (List CV) × Nat × Int × (List CV) → Option X) (x0 : List CV) : Option X :=
loop1 (x0, 0, 0, [])
/-- "outpost/outpostref15.write" -/
def f25_A (R_f37 : f37_R) (R_f25 : f25_R) (k : Nat) : f25_R := fun X K x0 => f25_T R_f37 R_f25 k K (iterV (f25_L1 R_f37 R_f25 k K) k) x0
set_option maxRecDepth 100000 in
theorem f25_ev' {X : Type} (R_f37 : f37_R) (R_f25 : f25_R) (hR_f37 : AnsOk Try.prog 37 (f37_cOf R_f37)) (hR_f25 : AnsOk Try.prog 25 (f25_cOf R_f25)) (k : Nat) (K : Out → Option X) (x0 : List CV) : evFn (f25_cx R_f37 R_f25 hR_f37 hR_f25) [⟨0, [0], some [0, 2000]⟩] k Try.f25.ntmps Try.f25.results.toList (Try.f25.body.getD .skip) [(.sl false (some 4) x0)] [] K = f25_T R_f37 R_f25 k (fun u => K (f25_out u)) (fun v => iter (loopB (f25_cx R_f37 R_f25 hR_f37 hR_f25) k [.r, .r, .l, .r, .b] (Try.f25.body.getD .skip) (retK (f25_cx R_f37 R_f25 hR_f37 hR_f25) [⟨0, [0], some [0, 2000]⟩] Try.f25.results.toList K) []) k (f25_S1 v)) x0 := by kernel_rfl
theorem f25_ev {X : Type} (R_f37 : f37_R) (R_f25 : f25_R) (hR_f37 : AnsOk Try.prog 37 (f37_cOf R_f37)) (hR_f25 : AnsOk Try.prog 25 (f25_cOf R_f25)) (k : Nat) (K : Out → Option X) (x0 : List CV) : evFn (f25_cx R_f37 R_f25 hR_f37 hR_f25) [⟨0, [0], some [0, 2000]⟩] k Try.f25.ntmps Try.f25.results.toList (Try.f25.body.getD .skip) [(.sl false (some 4) x0)] [] K = f25_A R_f37 R_f25 k X (fun u => K (f25_out u)) x0 := (f25_ev' R_f37 R_f25 hR_f37 hR_f25 k K x0).trans (by rw [f25_L1_it R_f37 R_f25 hR_f37 hR_f25 k K]; rfl)
theorem f25_okA (R_f37 : f37_R) (R_f25 : f25_R) (hR_f37 : AnsOk Try.prog 37 (f37_cOf R_f37)) (hR_f25 : AnsOk Try.prog 25 (f25_cOf R_f25)) (k : Nat) : AnsOk Try.prog 25 (f25_cOf (f25_A R_f37 R_f25 k)) := by
  intro X xs ns K x h
  unfold f25_cOf at h ⊢
  split at h
  · exact ans_main S (f25_Cok R_f37 R_f25 hR_f37 hR_f25) Try.func25 (ent_of Try.func25 (by kernel_rfl) rfl) rfl (fun X K => f25_ev R_f37 R_f25 hR_f37 hR_f25 k K _) h
  · cases h
def f25_r : Nat → f25_R
  | 0 => fun _ _ _ => none
  | k + 1 => f25_A (fun X => @f37 X k) (f25_r k) k
theorem f25_okr : ∀ k, AnsOk Try.prog 25 (f25_cOf (f25_r k))
  | 0 => by
    intro X xs ns K x h
    unfold f25_cOf at h
    split at h <;> cases h
  | k + 1 => f25_okA (fun X => @f37 X k) (f25_r k) (f37_ok k) (f25_okr k) k
def f25 {X : Type} (k : Nat) (K : Nat × Int × (List CV) → Option X) (x0 : List CV) : Option X := f25_r k X K x0
theorem f25_ok (k : Nat) : AnsOk Try.prog 25 (f25_cOf (fun X => @f25 X k)) := f25_okr k
abbrev f12_R : Type 1 := (X : Type) → (Nat × Int × (List CV) → Option X) → (List CV) → Option X
def f12_out (u : Nat × Int × (List CV)) : Out := ⟨(.tup [(.osl [0, 2000] none 0 u.1), (.v (CV.int .i64 u.2.1))]), [([0, 2000], (.row false none u.2.2))]⟩
def f12_cOf (R : f12_R) : FnC := fun X xs ns K => match xs, ns with
  | [(.sl false (some 4) x0)], [] => R X (fun u => K (f12_out u)) x0
  | _, _ => none
def f12_plan : Nat → Option (List Nat × List Wk)
  | 0 => some ([0], [])
  | 1 => some ([0], [])
  | 2 => some ([], [])
  | 3 => some ([0], [])
  | _ => none
def f12_C (R_f14 : f14_R) (R_f25 : f25_R) : Fns := (orC 14 (f14_cOf R_f14) (orC 25 (f25_cOf R_f25) noC))
theorem f12_Cok (R_f14 : f14_R) (R_f25 : f25_R) (hR_f14 : AnsOk Try.prog 14 (f14_cOf R_f14)) (hR_f25 : AnsOk Try.prog 25 (f25_cOf R_f25)) : CsOk Try.prog (f12_C R_f14 R_f25) := (orC_ok hR_f14 (orC_ok hR_f25 noC_ok))
def f12_cx (R_f14 : f14_R) (R_f25 : f25_R) (hR_f14 : AnsOk Try.prog 14 (f14_cOf R_f14)) (hR_f25 : AnsOk Try.prog 25 (f25_cOf R_f25)) : Cx := mkCx (tabOf rows) (f12_C R_f14 R_f25) md (cmpIn cmps) f12_plan (f12_Cok R_f14 R_f25 hR_f14 hR_f25)
def f12_T {X : Type} (R_f14 : f14_R) (R_f25 : f25_R) (k : Nat) (K : Nat × Int × (List CV) → Option X)  (x0 : List CV) : Option X :=
R_f14 _ (fun u2 =>
(bif (!u2) then
K (0, 1, (List.take 0 []))
else
R_f25 _ (fun u3 =>
K (u3.1, u3.2.1, (List.take (0 + u3.1) u3.2.2))) (x0))) (x0)
/-- "outpost/outpostref15.Write" -/
def f12_A (R_f14 : f14_R) (R_f25 : f25_R) (k : Nat) : f12_R := fun X K x0 => f12_T R_f14 R_f25 k K  x0
set_option maxRecDepth 100000 in
theorem f12_ev' {X : Type} (R_f14 : f14_R) (R_f25 : f25_R) (hR_f14 : AnsOk Try.prog 14 (f14_cOf R_f14)) (hR_f25 : AnsOk Try.prog 25 (f25_cOf R_f25)) (k : Nat) (K : Out → Option X) (x0 : List CV) : evFn (f12_cx R_f14 R_f25 hR_f14 hR_f25) [⟨0, [0], some [0, 2000]⟩] k Try.f12.ntmps Try.f12.results.toList (Try.f12.body.getD .skip) [(.sl false (some 4) x0)] [] K = f12_T R_f14 R_f25 k (fun u => K (f12_out u)) x0 := by kernel_rfl
theorem f12_ev {X : Type} (R_f14 : f14_R) (R_f25 : f25_R) (hR_f14 : AnsOk Try.prog 14 (f14_cOf R_f14)) (hR_f25 : AnsOk Try.prog 25 (f25_cOf R_f25)) (k : Nat) (K : Out → Option X) (x0 : List CV) : evFn (f12_cx R_f14 R_f25 hR_f14 hR_f25) [⟨0, [0], some [0, 2000]⟩] k Try.f12.ntmps Try.f12.results.toList (Try.f12.body.getD .skip) [(.sl false (some 4) x0)] [] K = f12_A R_f14 R_f25 k X (fun u => K (f12_out u)) x0 := (f12_ev' R_f14 R_f25 hR_f14 hR_f25 k K x0).trans rfl
theorem f12_okA (R_f14 : f14_R) (R_f25 : f25_R) (hR_f14 : AnsOk Try.prog 14 (f14_cOf R_f14)) (hR_f25 : AnsOk Try.prog 25 (f25_cOf R_f25)) (k : Nat) : AnsOk Try.prog 12 (f12_cOf (f12_A R_f14 R_f25 k)) := by
  intro X xs ns K x h
  unfold f12_cOf at h ⊢
  split at h
  · exact ans_main S (f12_Cok R_f14 R_f25 hR_f14 hR_f25) Try.func12 (ent_of Try.func12 (by kernel_rfl) rfl) rfl (fun X K => f12_ev R_f14 R_f25 hR_f14 hR_f25 k K _) h
  · cases h
/-- "outpost/outpostref15.Write" -/
def f12 {X : Type} (k : Nat) (K : Nat × Int × (List CV) → Option X) (x0 : List CV) : Option X := f12_A (fun X => @f14 X k) (fun X => @f25 X k) k X K x0
theorem f12_ok (k : Nat) : AnsOk Try.prog 12 (f12_cOf (fun X => @f12 X k)) := f12_okA (fun X => @f14 X k) (fun X => @f25 X k) (f14_ok k) (f25_ok k) k
abbrev f15_R : Type 1 := (X : Type) → (Bool → Option X) → (List CV) → (List CV) → Option X
def f15_out (u : Bool) : Out := ⟨(.v (CV.bool u)), []⟩
def f15_cOf (R : f15_R) : FnC := fun X xs ns K => match xs, ns with
  | [(.sl false none x0), (.sl false none x1)], [] => R X (fun u => K (f15_out u)) x0 x1
  | _, _ => none
def f15_plan : Nat → Option (List Nat × List Wk)
  | 0 => some ([0, 1], [])
  | 1 => some ([0, 1], [])
  | 2 => some ([], [])
  | 3 => some ([0, 1], [])
  | 4 => some ([0, 1, 5], [])
  | 5 => some ([0, 1, 5], [])
  | 6 => some ([0, 1, 5], [])
  | 7 => some ([], [])
  | 8 => some ([], [])
  | _ => none
def f15_C : Fns := noC
theorem f15_Cok : CsOk Try.prog (f15_C) := noC_ok
def f15_cx : Cx := mkCx (tabOf rows) (f15_C) md (cmpIn cmps) f15_plan (f15_Cok)
def f15_S1 (v : (List CV) × (List CV) × Int) : St := ⟨[(.sl false none v.1), (.sl false none v.2.1), .undef, .undef, .undef, (.v (CV.int .i64 v.2.2)), .undef, .undef, .undef, .undef, .undef, .undef, .undef, .undef, .undef, .undef, .undef, .undef, .undef, .undef, .undef, .undef, .undef, .undef, .undef, .undef], []⟩
def f15_T1 {X : Type} (k : Nat) (K : Bool → Option X)   (rec1 : (List CV) × (List CV) × Int → Option X) (v5_0 : (List CV) × (List CV) × Int) : Option X :=
(bif (decide (v5_0.2.2 < (Nat.cast ((List.length v5_0.1)) : Int))) then
grd (decide (0 ≤ v5_0.2.2)) <|
Option.bind (v5_0.1)[(Int.toNat v5_0.2.2)]? fun e8 =>
grd (CV.isI .u8 e8) <|
grd (decide (0 ≤ v5_0.2.2)) <|
Option.bind (v5_0.2.1)[(Int.toNat v5_0.2.2)]? fun e9 =>
grd (CV.isI .u8 e9) <|
(bif ((CV.toI e8) != (CV.toI e9)) then
K (false)
else
rec1 (v5_0.1, v5_0.2.1, (IntKind.wrap .i64 (v5_0.2.2 + 1))))
else
K (true))
def f15_L1 {X : Type} (k : Nat) (K : Bool → Option X)  (rec1 : (List CV) × (List CV) × Int → Option X) (v : (List CV) × (List CV) × Int) : Option X := f15_T1 k K   rec1 v
set_option maxRecDepth 100000 in
theorem f15_L1_ev {X : Type} (k : Nat) (K : Out → Option X)  (r1 : St → Option X) (v : (List CV) × (List CV) × Int) : loopB (f15_cx) k [.r, .r, .l, .r, .b] (Try.f15.body.getD .skip) (retK (f15_cx) [] Try.f15.results.toList K) [] r1 (f15_S1 v) = f15_T1 k (fun u => K (f15_out u))   (fun v => r1 (f15_S1 v)) v := by kernel_rfl
theorem f15_L1_it {X : Type} (k : Nat) (K : Out → Option X)  : (fun v => iter (loopB (f15_cx) k [.r, .r, .l, .r, .b] (Try.f15.body.getD .skip) (retK (f15_cx) [] Try.f15.results.toList K) []) k (f15_S1 v)) = iterV (f15_L1 k (fun u => K (f15_out u)) ) k :=
  iter_map (fun r1 v => (f15_L1_ev k K  r1 v).trans rfl) k
def f15_T {X : Type} (k : Nat) (K : Bool → Option X) (loop1 : (List CV) × (List CV) × Int → Option X) (x0 : List CV) (x1 : List CV) : Option X :=
(bif ((Nat.cast ((List.length x0)) : Int) != (Nat.cast ((List.length x1)) : Int)) then
K (false)
else
loop1 (x0, x1, 0))
/-- "outpost/outpostref01.Same" -/
def f15_A (k : Nat) : f15_R := fun X K x0 x1 => f15_T k K (iterV (f15_L1 k K) k) x0 x1
set_option maxRecDepth 100000 in
theorem f15_ev' {X : Type} (k : Nat) (K : Out → Option X) (x0 : List CV) (x1 : List CV) : evFn (f15_cx) [] k Try.f15.ntmps Try.f15.results.toList (Try.f15.body.getD .skip) [(.sl false none x0), (.sl false none x1)] [] K = f15_T k (fun u => K (f15_out u)) (fun v => iter (loopB (f15_cx) k [.r, .r, .l, .r, .b] (Try.f15.body.getD .skip) (retK (f15_cx) [] Try.f15.results.toList K) []) k (f15_S1 v)) x0 x1 := by kernel_rfl
theorem f15_ev {X : Type} (k : Nat) (K : Out → Option X) (x0 : List CV) (x1 : List CV) : evFn (f15_cx) [] k Try.f15.ntmps Try.f15.results.toList (Try.f15.body.getD .skip) [(.sl false none x0), (.sl false none x1)] [] K = f15_A k X (fun u => K (f15_out u)) x0 x1 := (f15_ev' k K x0 x1).trans (by rw [f15_L1_it k K]; rfl)
theorem f15_okA (k : Nat) : AnsOk Try.prog 15 (f15_cOf (f15_A k)) := by
  intro X xs ns K x h
  unfold f15_cOf at h ⊢
  split at h
  · exact ans_main S (f15_Cok) Try.func15 (ent_of Try.func15 (by kernel_rfl) rfl) rfl (fun X K => f15_ev k K _ _) h
  · cases h
/-- "outpost/outpostref01.Same" -/
def f15 {X : Type} (k : Nat) (K : Bool → Option X) (x0 : List CV) (x1 : List CV) : Option X := f15_A k X K x0 x1
theorem f15_ok (k : Nat) : AnsOk Try.prog 15 (f15_cOf (fun X => @f15 X k)) := f15_okA k
abbrev f3_R : Type 1 := (X : Type) → (Bool → Option X) → (List CV) → Option X
def f3_out (u : Bool) : Out := ⟨(.v (CV.bool u)), []⟩
def f3_cOf (R : f3_R) : FnC := fun X xs ns K => match xs, ns with
  | [(.sl true (some 4) x0)], [] => R X (fun u => K (f3_out u)) x0
  | _, _ => none
def f3_plan : Nat → Option (List Nat × List Wk)
  | 0 => some ([0], [])
  | 1 => some ([0], [])
  | 2 => some ([], [])
  | 3 => some ([0], [])
  | 4 => some ([], [])
  | 5 => some ([0], [])
  | 6 => some ([0, 3, 4], [])
  | 7 => some ([0, 3, 4, 5, 6], [])
  | _ => none
def f3_C (R_f9 : f9_R) (R_f10 : f10_R) (R_f11 : f11_R) (R_f12 : f12_R) (R_f13 : f13_R) (R_f14 : f14_R) (R_f15 : f15_R) : Fns := (orC 9 (f9_cOf R_f9) (orC 10 (f10_cOf R_f10) (orC 11 (f11_cOf R_f11) (orC 12 (f12_cOf R_f12) (orC 13 (f13_cOf R_f13) (orC 14 (f14_cOf R_f14) (orC 15 (f15_cOf R_f15) noC)))))))
theorem f3_Cok (R_f9 : f9_R) (R_f10 : f10_R) (R_f11 : f11_R) (R_f12 : f12_R) (R_f13 : f13_R) (R_f14 : f14_R) (R_f15 : f15_R) (hR_f9 : AnsOk Try.prog 9 (f9_cOf R_f9)) (hR_f10 : AnsOk Try.prog 10 (f10_cOf R_f10)) (hR_f11 : AnsOk Try.prog 11 (f11_cOf R_f11)) (hR_f12 : AnsOk Try.prog 12 (f12_cOf R_f12)) (hR_f13 : AnsOk Try.prog 13 (f13_cOf R_f13)) (hR_f14 : AnsOk Try.prog 14 (f14_cOf R_f14)) (hR_f15 : AnsOk Try.prog 15 (f15_cOf R_f15)) : CsOk Try.prog (f3_C R_f9 R_f10 R_f11 R_f12 R_f13 R_f14 R_f15) := (orC_ok hR_f9 (orC_ok hR_f10 (orC_ok hR_f11 (orC_ok hR_f12 (orC_ok hR_f13 (orC_ok hR_f14 (orC_ok hR_f15 noC_ok)))))))
def f3_cx (R_f9 : f9_R) (R_f10 : f10_R) (R_f11 : f11_R) (R_f12 : f12_R) (R_f13 : f13_R) (R_f14 : f14_R) (R_f15 : f15_R) (hR_f9 : AnsOk Try.prog 9 (f9_cOf R_f9)) (hR_f10 : AnsOk Try.prog 10 (f10_cOf R_f10)) (hR_f11 : AnsOk Try.prog 11 (f11_cOf R_f11)) (hR_f12 : AnsOk Try.prog 12 (f12_cOf R_f12)) (hR_f13 : AnsOk Try.prog 13 (f13_cOf R_f13)) (hR_f14 : AnsOk Try.prog 14 (f14_cOf R_f14)) (hR_f15 : AnsOk Try.prog 15 (f15_cOf R_f15)) : Cx := mkCx (tabOf rows) (f3_C R_f9 R_f10 R_f11 R_f12 R_f13 R_f14 R_f15) md (cmpIn cmps) f3_plan (f3_Cok R_f9 R_f10 R_f11 R_f12 R_f13 R_f14 R_f15 hR_f9 hR_f10 hR_f11 hR_f12 hR_f13 hR_f14 hR_f15)
def f3_T {X : Type} (R_f9 : f9_R) (R_f10 : f10_R) (R_f11 : f11_R) (R_f12 : f12_R) (R_f13 : f13_R) (R_f14 : f14_R) (R_f15 : f15_R) (k : Nat) (K : Bool → Option X)  (x0 : List CV) : Option X :=
R_f9 _ (fun u2 =>
(bif (!u2) then
K (false)
else
R_f10 _ (fun u4 =>
(bif (!u4) then
K (true)
else
R_f11 _ (fun u5 =>
R_f12 _ (fun u6 =>
R_f13 _ (fun u7 =>
R_f14 _ (fun u8 =>
(bif (u7 == u8) then
(bif (u5.2.1 == u6.2.1) then
R_f15 _ (fun u9 =>
K (u9)) ((List.take u5.1 (List.drop 0 u5.2.2))) ((List.take u6.1 (List.drop 0 u6.2.2)))
else
K (false))
else
K (false))) (x0)) (x0)) (x0)) (x0))) (x0))) 
/-- "outpost/outpostlaw15.TlvWrites" -/
def f3_A (R_f9 : f9_R) (R_f10 : f10_R) (R_f11 : f11_R) (R_f12 : f12_R) (R_f13 : f13_R) (R_f14 : f14_R) (R_f15 : f15_R) (k : Nat) : f3_R := fun X K x0 => f3_T R_f9 R_f10 R_f11 R_f12 R_f13 R_f14 R_f15 k K  x0
set_option maxRecDepth 100000 in
theorem f3_ev' {X : Type} (R_f9 : f9_R) (R_f10 : f10_R) (R_f11 : f11_R) (R_f12 : f12_R) (R_f13 : f13_R) (R_f14 : f14_R) (R_f15 : f15_R) (hR_f9 : AnsOk Try.prog 9 (f9_cOf R_f9)) (hR_f10 : AnsOk Try.prog 10 (f10_cOf R_f10)) (hR_f11 : AnsOk Try.prog 11 (f11_cOf R_f11)) (hR_f12 : AnsOk Try.prog 12 (f12_cOf R_f12)) (hR_f13 : AnsOk Try.prog 13 (f13_cOf R_f13)) (hR_f14 : AnsOk Try.prog 14 (f14_cOf R_f14)) (hR_f15 : AnsOk Try.prog 15 (f15_cOf R_f15)) (k : Nat) (K : Out → Option X) (x0 : List CV) : evFn (f3_cx R_f9 R_f10 R_f11 R_f12 R_f13 R_f14 R_f15 hR_f9 hR_f10 hR_f11 hR_f12 hR_f13 hR_f14 hR_f15) [] k Try.f3.ntmps Try.f3.results.toList (Try.f3.body.getD .skip) [(.sl true (some 4) x0)] [] K = f3_T R_f9 R_f10 R_f11 R_f12 R_f13 R_f14 R_f15 k (fun u => K (f3_out u)) x0 := by kernel_rfl
theorem f3_ev {X : Type} (R_f9 : f9_R) (R_f10 : f10_R) (R_f11 : f11_R) (R_f12 : f12_R) (R_f13 : f13_R) (R_f14 : f14_R) (R_f15 : f15_R) (hR_f9 : AnsOk Try.prog 9 (f9_cOf R_f9)) (hR_f10 : AnsOk Try.prog 10 (f10_cOf R_f10)) (hR_f11 : AnsOk Try.prog 11 (f11_cOf R_f11)) (hR_f12 : AnsOk Try.prog 12 (f12_cOf R_f12)) (hR_f13 : AnsOk Try.prog 13 (f13_cOf R_f13)) (hR_f14 : AnsOk Try.prog 14 (f14_cOf R_f14)) (hR_f15 : AnsOk Try.prog 15 (f15_cOf R_f15)) (k : Nat) (K : Out → Option X) (x0 : List CV) : evFn (f3_cx R_f9 R_f10 R_f11 R_f12 R_f13 R_f14 R_f15 hR_f9 hR_f10 hR_f11 hR_f12 hR_f13 hR_f14 hR_f15) [] k Try.f3.ntmps Try.f3.results.toList (Try.f3.body.getD .skip) [(.sl true (some 4) x0)] [] K = f3_A R_f9 R_f10 R_f11 R_f12 R_f13 R_f14 R_f15 k X (fun u => K (f3_out u)) x0 := (f3_ev' R_f9 R_f10 R_f11 R_f12 R_f13 R_f14 R_f15 hR_f9 hR_f10 hR_f11 hR_f12 hR_f13 hR_f14 hR_f15 k K x0).trans rfl
theorem f3_okA (R_f9 : f9_R) (R_f10 : f10_R) (R_f11 : f11_R) (R_f12 : f12_R) (R_f13 : f13_R) (R_f14 : f14_R) (R_f15 : f15_R) (hR_f9 : AnsOk Try.prog 9 (f9_cOf R_f9)) (hR_f10 : AnsOk Try.prog 10 (f10_cOf R_f10)) (hR_f11 : AnsOk Try.prog 11 (f11_cOf R_f11)) (hR_f12 : AnsOk Try.prog 12 (f12_cOf R_f12)) (hR_f13 : AnsOk Try.prog 13 (f13_cOf R_f13)) (hR_f14 : AnsOk Try.prog 14 (f14_cOf R_f14)) (hR_f15 : AnsOk Try.prog 15 (f15_cOf R_f15)) (k : Nat) : AnsOk Try.prog 3 (f3_cOf (f3_A R_f9 R_f10 R_f11 R_f12 R_f13 R_f14 R_f15 k)) := by
  intro X xs ns K x h
  unfold f3_cOf at h ⊢
  split at h
  · exact ans_main S (f3_Cok R_f9 R_f10 R_f11 R_f12 R_f13 R_f14 R_f15 hR_f9 hR_f10 hR_f11 hR_f12 hR_f13 hR_f14 hR_f15) Try.func3 (ent_of Try.func3 (by kernel_rfl) rfl) rfl (fun X K => f3_ev R_f9 R_f10 R_f11 R_f12 R_f13 R_f14 R_f15 hR_f9 hR_f10 hR_f11 hR_f12 hR_f13 hR_f14 hR_f15 k K _) h
  · cases h
/-- "outpost/outpostlaw15.TlvWrites" -/
def f3 {X : Type} (k : Nat) (K : Bool → Option X) (x0 : List CV) : Option X := f3_A (fun X => @f9 X k) (fun X => @f10 X k) (fun X => @f11 X k) (fun X => @f12 X k) (fun X => @f13 X k) (fun X => @f14 X k) (fun X => @f15 X k) k X K x0
theorem f3_ok (k : Nat) : AnsOk Try.prog 3 (f3_cOf (fun X => @f3 X k)) := f3_okA (fun X => @f9 X k) (fun X => @f10 X k) (fun X => @f11 X k) (fun X => @f12 X k) (fun X => @f13 X k) (fun X => @f14 X k) (fun X => @f15 X k) (f9_ok k) (f10_ok k) (f11_ok k) (f12_ok k) (f13_ok k) (f14_ok k) (f15_ok k) k
abbrev f22_R : Type 1 := (X : Type) → (Nat × (List CV) → Option X) → (List CV) → Option X
def f22_out (u : Nat × (List CV)) : Out := ⟨(.osl [2000] none 0 u.1), [([2000], (.row false none u.2))]⟩
def f22_cOf (R : f22_R) : FnC := fun X xs ns K => match xs, ns with
  | [(.sl false none x0)], [] => R X (fun u => K (f22_out u)) x0
  | _, _ => none
def f22_plan : Nat → Option (List Nat × List Wk)
  | 0 => some ([0], [])
  | 1 => some ([0], [])
  | 2 => some ([0, 3], [])
  | 3 => some ([0, 3, 4], [])
  | 4 => some ([0, 3, 4], [])
  | 5 => some ([0, 3, 4], [])
  | 6 => some ([3], [])
  | _ => none
def f22_C : Fns := noC
theorem f22_Cok : CsOk Try.prog (f22_C) := noC_ok
def f22_cx : Cx := mkCx (tabOf rows) (f22_C) md (cmpIn cmps) f22_plan (f22_Cok)
def f22_S1 (v : (List CV) × Nat × Int × (List CV)) : St := ⟨[(.sl false none v.1), .undef, .undef, (.osl [3] none 0 v.2.1), (.v (CV.int .i64 v.2.2.1)), .undef, .undef, .undef, .undef, .undef, .undef, .undef, .undef, .undef, .undef, .undef, .undef, .undef, .undef, .undef], [([3], (.row false none v.2.2.2))]⟩
def f22_T1 {X : Type} (k : Nat) (K : Nat × (List CV) → Option X)   (rec1 : (List CV) × Nat × Int × (List CV) → Option X) (v5_0 : (List CV) × Nat × Int × (List CV)) : Option X :=
(bif (decide (v5_0.2.2.1 < (Nat.cast ((List.length v5_0.1)) : Int))) then
grd (decide (0 ≤ v5_0.2.2.1)) <|
Option.bind (v5_0.1)[(Int.toNat v5_0.2.2.1)]? fun e5 =>
grd (CV.isI .u8 e5) <|
grd (decide ((v5_0.2.1 + (List.length (List.take 1 (List.drop 0 [(CV.int .u8 (CV.toI e5))])))) * 1 ≤ 140737488355328)) <|
rec1 (v5_0.1, (v5_0.2.1 + (List.length (List.take 1 (List.drop 0 [(CV.int .u8 (CV.toI e5))])))), (IntKind.wrap .i64 (v5_0.2.2.1 + 1)), ((List.take v5_0.2.1 v5_0.2.2.2) ++ (List.take 1 (List.drop 0 [(CV.int .u8 (CV.toI e5))]))))
else
K (v5_0.2.1, (List.take (0 + v5_0.2.1) v5_0.2.2.2)))
def f22_L1 {X : Type} (k : Nat) (K : Nat × (List CV) → Option X)  (rec1 : (List CV) × Nat × Int × (List CV) → Option X) (v : (List CV) × Nat × Int × (List CV)) : Option X := f22_T1 k K   rec1 v
set_option maxRecDepth 100000 in
theorem f22_L1_ev {X : Type} (k : Nat) (K : Out → Option X)  (r1 : St → Option X) (v : (List CV) × Nat × Int × (List CV)) : loopB (f22_cx) k [.r, .r, .l, .r, .b] (Try.f22.body.getD .skip) (retK (f22_cx) [] Try.f22.results.toList K) [] r1 (f22_S1 v) = f22_T1 k (fun u => K (f22_out u))   (fun v => r1 (f22_S1 v)) v := by kernel_rfl
theorem f22_L1_it {X : Type} (k : Nat) (K : Out → Option X)  : (fun v => iter (loopB (f22_cx) k [.r, .r, .l, .r, .b] (Try.f22.body.getD .skip) (retK (f22_cx) [] Try.f22.results.toList K) []) k (f22_S1 v)) = iterV (f22_L1 k (fun u => K (f22_out u)) ) k :=
  iter_map (fun r1 v => (f22_L1_ev k K  r1 v).trans rfl) k
def f22_T {X : Type} (k : Nat) (K : Nat × (List CV) → Option X) (loop1 : (List CV) × Nat × Int × (List CV) → Option X) (x0 : List CV) : Option X :=
loop1 (x0, 0, 0, [])
/-- "outpost/outpostref01.Copy" -/
def f22_A (k : Nat) : f22_R := fun X K x0 => f22_T k K (iterV (f22_L1 k K) k) x0
set_option maxRecDepth 100000 in
theorem f22_ev' {X : Type} (k : Nat) (K : Out → Option X) (x0 : List CV) : evFn (f22_cx) [] k Try.f22.ntmps Try.f22.results.toList (Try.f22.body.getD .skip) [(.sl false none x0)] [] K = f22_T k (fun u => K (f22_out u)) (fun v => iter (loopB (f22_cx) k [.r, .r, .l, .r, .b] (Try.f22.body.getD .skip) (retK (f22_cx) [] Try.f22.results.toList K) []) k (f22_S1 v)) x0 := by kernel_rfl
theorem f22_ev {X : Type} (k : Nat) (K : Out → Option X) (x0 : List CV) : evFn (f22_cx) [] k Try.f22.ntmps Try.f22.results.toList (Try.f22.body.getD .skip) [(.sl false none x0)] [] K = f22_A k X (fun u => K (f22_out u)) x0 := (f22_ev' k K x0).trans (by rw [f22_L1_it k K]; rfl)
theorem f22_okA (k : Nat) : AnsOk Try.prog 22 (f22_cOf (f22_A k)) := by
  intro X xs ns K x h
  unfold f22_cOf at h ⊢
  split at h
  · exact ans_main S (f22_Cok) Try.func22 (ent_of Try.func22 (by kernel_rfl) rfl) rfl (fun X K => f22_ev k K _) h
  · cases h
/-- "outpost/outpostref01.Copy" -/
def f22 {X : Type} (k : Nat) (K : Nat × (List CV) → Option X) (x0 : List CV) : Option X := f22_A k X K x0
theorem f22_ok (k : Nat) : AnsOk Try.prog 22 (f22_cOf (fun X => @f22 X k)) := f22_okA k
abbrev f29_R : Type 1 := (X : Type) → (Nat × Int × Int × (List CV) → Option X) → (List CV) → Int → Int → Option X
def f29_out (u : Nat × Int × Int × (List CV)) : Out := ⟨(.tup [(.osl [0, 2000] (some 4) 0 u.1), (.v (CV.int .i64 u.2.1)), (.v (CV.int .i64 u.2.2.1))]), [([0, 2000], (.row false (some 4) u.2.2.2))]⟩
def f29_cOf (R : f29_R) : FnC := fun X xs ns K => match xs, ns with
  | [(.sl false none x0), (.v (CV.int .i64 x1)), (.v (CV.int .i64 x2))], [] => R X (fun u => K (f29_out u)) x0 x1 x2
  | _, _ => none
def f29_plan : Nat → Option (List Nat × List Wk)
  | 0 => some ([0, 1, 2], [])
  | 1 => some ([0, 1, 2], [])
  | 2 => some ([0, 1, 2, 9], [])
  | 3 => some ([0, 1, 2, 9, 10], [])
  | 4 => some ([0, 1, 2, 9, 10], [])
  | 5 => some ([0, 1, 2, 9, 10, 11], [])
  | 6 => some ([0, 1, 2, 9, 10, 11, 12], [])
  | 7 => some ([2], [])
  | 8 => some ([0, 1, 2, 9, 10, 11, 12], [])
  | 9 => some ([0, 1, 2, 9, 10, 11, 12, 13], [])
  | 10 => some ([0, 1, 2, 9, 10, 11, 12, 13, 14], [])
  | 11 => some ([2], [])
  | 12 => some ([0, 1, 2, 9, 10, 11, 12, 13, 14], [])
  | 13 => some ([0, 1, 2, 9, 10, 11, 12, 13, 14], [])
  | 14 => some ([0, 1, 2, 9, 10, 11, 12, 13, 14, 15], [])
  | 15 => some ([0, 1, 2, 9, 10, 11, 12, 13, 14, 15], [])
  | 16 => some ([0, 1, 2, 9, 10, 11, 12, 13, 14, 15], [])
  | 17 => some ([0, 1, 2, 9, 10, 11, 12, 13, 14, 15], [])
  | 18 => some ([0, 1, 2, 9, 10, 11, 12, 14], [])
  | 19 => some ([0, 1, 2, 9, 10, 12, 14, 16], [])
  | 20 => some ([0, 1, 2, 9, 10, 12, 14], [])
  | 21 => some ([0, 1, 2, 9, 10, 12, 14, 16], [])
  | 22 => some ([0, 1, 2, 9, 10, 12, 14, 16, 17], [])
  | 23 => some ([0, 1, 2, 9, 10, 12, 14, 16, 17], [])
  | 24 => some ([0, 1, 2, 9, 10, 12, 14, 16, 17], [])
  | 25 => some ([0, 1, 2, 9, 10, 12, 14, 16, 17], [])
  | 26 => some ([0, 1, 2, 9, 10, 12, 16], [])
  | 27 => some ([2], [])
  | 28 => some ([0, 1, 2, 9, 10, 12, 16], [])
  | 29 => some ([0, 1, 2, 9, 10, 12, 16], [])
  | 30 => some ([2], [])
  | 31 => some ([0, 1, 2, 9, 10, 12, 16], [])
  | 32 => some ([0, 1, 2, 9, 10, 12, 16, 18], [])
  | 33 => some ([0, 1, 2, 9, 10, 12, 16, 18], [])
  | 34 => some ([0, 1, 2, 9, 10, 12, 16, 18], [])
  | 35 => some ([0, 1, 9, 10, 12, 16, 19, 20, 21], [])
  | 36 => some ([0, 1, 2, 9, 10, 12, 16, 19, 21], [])
  | 37 => some ([2, 21], [])
  | 38 => some ([0, 1, 2, 9, 10, 12, 16, 19], [])
  | 39 => some ([0, 1, 2, 9, 10, 12, 16], [])
  | 40 => some ([0, 1, 2, 9, 10, 16], [])
  | 41 => some ([2, 9], [])
  | _ => none
def f29_C (R_f39 : f39_R) (R_f22 : f22_R) (R_f29 : f29_R) : Fns := (orC 22 (f22_cOf R_f22) (orC 29 (f29_cOf R_f29) (orC 39 (f39_cOf R_f39) noC)))
theorem f29_Cok (R_f39 : f39_R) (R_f22 : f22_R) (R_f29 : f29_R) (hR_f39 : AnsOk Try.prog 39 (f39_cOf R_f39)) (hR_f22 : AnsOk Try.prog 22 (f22_cOf R_f22)) (hR_f29 : AnsOk Try.prog 29 (f29_cOf R_f29)) : CsOk Try.prog (f29_C R_f39 R_f22 R_f29) := (orC_ok hR_f22 (orC_ok hR_f29 (orC_ok hR_f39 noC_ok)))
def f29_cx (R_f39 : f39_R) (R_f22 : f22_R) (R_f29 : f29_R) (hR_f39 : AnsOk Try.prog 39 (f39_cOf R_f39)) (hR_f22 : AnsOk Try.prog 22 (f22_cOf R_f22)) (hR_f29 : AnsOk Try.prog 29 (f29_cOf R_f29)) : Cx := mkCx (tabOf rows) (f29_C R_f39 R_f22 R_f29) md (cmpIn cmps) f29_plan (f29_Cok R_f39 R_f22 R_f29 hR_f39 hR_f22 hR_f29)
def f29_S1 (v : (List CV) × Int × Int × Nat × Int × (List CV)) : St := ⟨[(.sl false none v.1), (.v (CV.int .i64 v.2.1)), (.v (CV.int .i64 v.2.2.1)), .undef, .undef, .undef, .undef, .undef, .undef, (.osl [9] (some 4) 0 v.2.2.2.1), (.v (CV.int .i64 v.2.2.2.2.1)), .undef, .undef, .undef, .undef, .undef, .undef, .undef, .undef, .undef, .undef, .undef, .undef, .undef, .undef, .undef, .undef, .undef, .undef, .undef, .undef, .undef, .undef, .undef, .undef, .undef, .undef, .undef, .undef, .undef, .undef, .undef, .undef, .undef, .undef, .undef, .undef, .undef, .undef, .undef, .undef, .undef, .undef, .undef, .undef, .undef, .undef, .undef, .undef, .undef, .undef, .undef, .undef, .undef, .undef, .undef, .undef, .undef, .undef, .undef, .undef, .undef, .undef, .undef, .undef, .undef, .undef, .undef, .undef, .undef, .undef, .undef, .undef, .undef, .undef, .undef, .undef, .undef, .undef, .undef, .undef, .undef, .undef, .undef, .undef, .undef, .undef, .undef, .undef, .undef, .undef, .undef, .undef, .undef, .undef, .undef, .undef, .undef, .undef, .undef, .undef, .undef, .undef, .undef, .undef, .undef, .undef, .undef, .undef, .undef, .undef, .undef, .undef, .undef, .undef, .undef, .undef, .undef, .undef, .undef, .undef, .undef, .undef, .undef, .undef, .undef, .undef, .undef, .undef, .undef, .undef, .undef, .undef, .undef, .undef, .undef, .undef, .undef, .undef, .undef], [([9], (.row false (some 4) v.2.2.2.2.2))]⟩
def f29_S2 (v : (List CV) × Int × Int × Nat × Int × Int × Int × Int × Int × (List CV) × Int × Int) : St := ⟨[(.sl false none v.1), (.v (CV.int .i64 v.2.1)), (.v (CV.int .i64 v.2.2.1)), .undef, .undef, .undef, .undef, .undef, .undef, (.osl [9] (some 4) 0 v.2.2.2.1), (.v (CV.int .i64 v.2.2.2.2.1)), (.v (CV.int .i64 v.2.2.2.2.2.1)), (.ptr [12] 0 0 0), (.v (CV.int .i64 v.2.2.2.2.2.2.1)), (.v (CV.int .i64 v.2.2.2.2.2.2.2.1)), (.v (CV.int .i64 v.2.2.2.2.2.2.2.2.1)), .undef, .undef, .undef, .undef, .undef, .undef, .undef, .undef, .undef, .undef, .undef, .undef, .undef, .undef, .undef, .undef, .undef, .undef, .undef, .undef, .undef, .undef, .undef, .undef, .undef, .undef, .undef, .undef, .undef, .undef, .undef, .undef, .undef, .undef, .undef, .undef, .undef, .undef, .undef, .undef, .undef, .undef, .undef, .undef, .undef, .undef, .undef, .undef, .undef, .undef, .undef, .undef, .undef, .undef, .undef, .undef, .undef, .undef, .undef, .undef, .undef, .undef, .undef, .undef, .undef, .undef, .undef, .undef, .undef, .undef, .undef, .undef, .undef, .undef, .undef, .undef, .undef, .undef, .undef, .undef, .undef, .undef, .undef, .undef, .undef, .undef, .undef, .undef, .undef, .undef, .undef, .undef, .undef, .undef, .undef, .undef, .undef, .undef, .undef, .undef, .undef, .undef, .undef, .undef, .undef, .undef, .undef, .undef, .undef, .undef, .undef, .undef, .undef, .undef, .undef, .undef, .undef, .undef, .undef, .undef, .undef, .undef, .undef, .undef, .undef, .undef, .undef, .undef, .undef, .undef, .undef, .undef, .undef, .undef], [([9], (.row false (some 4) v.2.2.2.2.2.2.2.2.2.1)), ([12], (.obj [(.v (CV.int .i64 v.2.2.2.2.2.2.2.2.2.2.1)), (.v (CV.int .i64 v.2.2.2.2.2.2.2.2.2.2.2)), (.osl [2, 12] none 0 0), (.osl [3, 12] (some 4) 0 0)])), ([2, 12], (.row false none [])), ([3, 12], (.row false (some 4) []))]⟩
def f29_S3 (v : (List CV) × Int × Int × Nat × Int × Int × Int × Int × (List CV) × Int × Int) : St := ⟨[(.sl false none v.1), (.v (CV.int .i64 v.2.1)), (.v (CV.int .i64 v.2.2.1)), .undef, .undef, .undef, .undef, .undef, .undef, (.osl [9] (some 4) 0 v.2.2.2.1), (.v (CV.int .i64 v.2.2.2.2.1)), .undef, (.ptr [12] 0 0 0), .undef, (.v (CV.int .i64 v.2.2.2.2.2.1)), .undef, (.v (CV.int .i64 v.2.2.2.2.2.2.1)), (.v (CV.int .i64 v.2.2.2.2.2.2.2.1)), .undef, .undef, .undef, .undef, .undef, .undef, .undef, .undef, .undef, .undef, .undef, .undef, .undef, .undef, .undef, .undef, .undef, .undef, .undef, .undef, .undef, .undef, .undef, .undef, .undef, .undef, .undef, .undef, .undef, .undef, .undef, .undef, .undef, .undef, .undef, .undef, .undef, .undef, .undef, .undef, .undef, .undef, .undef, .undef, .undef, .undef, .undef, .undef, .undef, .undef, .undef, .undef, .undef, .undef, .undef, .undef, .undef, .undef, .undef, .undef, .undef, .undef, .undef, .undef, .undef, .undef, .undef, .undef, .undef, .undef, .undef, .undef, .undef, .undef, .undef, .undef, .undef, .undef, .undef, .undef, .undef, .undef, .undef, .undef, .undef, .undef, .undef, .undef, .undef, .undef, .undef, .undef, .undef, .undef, .undef, .undef, .undef, .undef, .undef, .undef, .undef, .undef, .undef, .undef, .undef, .undef, .undef, .undef, .undef, .undef, .undef, .undef, .undef, .undef, .undef, .undef, .undef, .undef, .undef, .undef, .undef, .undef, .undef, .undef, .undef, .undef, .undef, .undef, .undef, .undef, .undef, .undef], [([9], (.row false (some 4) v.2.2.2.2.2.2.2.2.1)), ([12], (.obj [(.v (CV.int .i64 v.2.2.2.2.2.2.2.2.2.1)), (.v (CV.int .i64 v.2.2.2.2.2.2.2.2.2.2)), (.osl [2, 12] none 0 0), (.osl [3, 12] (some 4) 0 0)])), ([2, 12], (.row false none [])), ([3, 12], (.row false (some 4) []))]⟩
def f29_J1 {X : Type} (R_f39 : f39_R) (R_f22 : f22_R) (R_f29 : f29_R) (k : Nat) (K : Nat × Int × Int × (List CV) → Option X) (rec1 : (List CV) × Int × Int × Nat × Int × (List CV) → Option X) (v21_29 : (List CV) × Int × Int × Nat × Int × Int × Int × Int × (List CV) × Int × Int) (v38 : Int × Nat × Nat × (List CV) × (List CV)) : Option X :=
grd (decide ((v21_29.2.2.2.1 + (List.length (List.take 1 (List.drop 0 [(CV.agg [(CV.int .i64 v21_29.2.2.2.2.2.2.2.2.2.1), (CV.int .i64 v21_29.2.2.2.2.2.2.2.2.2.2), (CV.slc none (List.take v38.2.1 (List.drop 0 v38.2.2.2.1))), (CV.slc (some 4) (List.take v38.2.2.1 (List.drop 0 v38.2.2.2.2)))])])))) * 64 ≤ 140737488355328)) <|
rec1 (v21_29.1, v21_29.2.1, v38.1, (v21_29.2.2.2.1 + (List.length (List.take 1 (List.drop 0 [(CV.agg [(CV.int .i64 v21_29.2.2.2.2.2.2.2.2.2.1), (CV.int .i64 v21_29.2.2.2.2.2.2.2.2.2.2), (CV.slc none (List.take v38.2.1 (List.drop 0 v38.2.2.2.1))), (CV.slc (some 4) (List.take v38.2.2.1 (List.drop 0 v38.2.2.2.2)))])])))), (IntKind.wrap .i64 (v21_29.2.2.2.2.1 + v21_29.2.2.2.2.2.2.1)), ((List.take v21_29.2.2.2.1 v21_29.2.2.2.2.2.2.2.2.1) ++ (List.take 1 (List.drop 0 [(CV.agg [(CV.int .i64 v21_29.2.2.2.2.2.2.2.2.2.1), (CV.int .i64 v21_29.2.2.2.2.2.2.2.2.2.2), (CV.slc none (List.take v38.2.1 (List.drop 0 v38.2.2.2.1))), (CV.slc (some 4) (List.take v38.2.2.1 (List.drop 0 v38.2.2.2.2)))])]))))
def f29_J2 {X : Type} (R_f39 : f39_R) (R_f22 : f22_R) (R_f29 : f29_R) (k : Nat) (K : Nat × Int × Int × (List CV) → Option X) (loop3 : (List CV) × Int × Int × Nat × Int × Int × Int × Int × (List CV) × Int × Int → Option X) (v18_23 : (List CV) × Int × Int × Nat × Int × Int × Int × Int × Int × (List CV) × Int × Int) (v29 : Int) : Option X :=
loop3 (v18_23.1, v18_23.2.1, v18_23.2.2.1, v18_23.2.2.2.1, v18_23.2.2.2.2.1, v18_23.2.2.2.2.2.2.2.1, v29, 0, v18_23.2.2.2.2.2.2.2.2.2.1, v18_23.2.2.2.2.2.2.2.2.2.2.1, v18_23.2.2.2.2.2.2.2.2.2.2.2)
def f29_T3 {X : Type} (R_f39 : f39_R) (R_f22 : f22_R) (R_f29 : f29_R) (k : Nat) (K : Nat × Int × Int × (List CV) → Option X) (rec1 : (List CV) × Int × Int × Nat × Int × (List CV) → Option X)  (rec3 : (List CV) × Int × Int × Nat × Int × Int × Int × Int × (List CV) × Int × Int → Option X) (v21_29 : (List CV) × Int × Int × Nat × Int × Int × Int × Int × (List CV) × Int × Int) : Option X :=
(bif (decide (v21_29.2.2.2.2.2.2.2.1 < v21_29.2.2.2.2.2.1)) then
grd (decide (0 ≤ v21_29.2.2.2.2.1)) <|
Option.bind (v21_29.1)[(Int.toNat v21_29.2.2.2.2.1)]? fun e34 =>
grd (CV.isI .u8 e34) <|
rec3 (v21_29.1, v21_29.2.1, v21_29.2.2.1, v21_29.2.2.2.1, (IntKind.wrap .i64 (v21_29.2.2.2.2.1 + 1)), v21_29.2.2.2.2.2.1, (IntKind.wrap .i64 ((IntKind.wrap .i64 (v21_29.2.2.2.2.2.2.1 * 256)) + (IntKind.wrap .i64 (CV.toI e34)))), (IntKind.wrap .i64 (v21_29.2.2.2.2.2.2.2.1 + 1)), v21_29.2.2.2.2.2.2.2.2.1, v21_29.2.2.2.2.2.2.2.2.2.1, v21_29.2.2.2.2.2.2.2.2.2.2)
else
(bif (v21_29.2.2.1 == 64) then
K (0, v21_29.2.2.1, 3, (List.take 0 []))
else
(bif (decide (v21_29.2.2.2.2.2.2.1 > (IntKind.wrap .i64 ((Nat.cast ((List.length v21_29.1)) : Int) - v21_29.2.2.2.2.1)))) then
K (0, (IntKind.wrap .i64 (v21_29.2.2.1 + 1)), 20, (List.take 0 []))
else
grd (decide (0 ≤ v21_29.2.2.2.2.1)) <|
grd (decide (v21_29.2.2.2.2.1 ≤ (IntKind.wrap .i64 (v21_29.2.2.2.2.1 + v21_29.2.2.2.2.2.2.1)))) <|
grd (decide ((IntKind.wrap .i64 (v21_29.2.2.2.2.1 + v21_29.2.2.2.2.2.2.1)) ≤ (Nat.cast ((List.length v21_29.1)) : Int))) <|
(bif (v21_29.2.2.2.2.2.2.2.2.2.1 == 1) then
R_f22 _ (fun u39 =>
f29_J1 R_f39 R_f22 R_f29 k K rec1 v21_29 ((IntKind.wrap .i64 (v21_29.2.2.1 + 1)), u39.1, 0, u39.2, [])) ((List.take ((Int.toNat (IntKind.wrap .i64 (v21_29.2.2.2.2.1 + v21_29.2.2.2.2.2.2.1))) - (Int.toNat v21_29.2.2.2.2.1)) (List.drop (Int.toNat v21_29.2.2.2.2.1) v21_29.1)))
else
(bif (v21_29.2.2.2.2.2.2.2.2.2.1 == 3) then
R_f22 _ (fun u40 =>
f29_J1 R_f39 R_f22 R_f29 k K rec1 v21_29 ((IntKind.wrap .i64 (v21_29.2.2.1 + 1)), u40.1, 0, u40.2, [])) ((List.take ((Int.toNat (IntKind.wrap .i64 (v21_29.2.2.2.2.1 + v21_29.2.2.2.2.2.2.1))) - (Int.toNat v21_29.2.2.2.2.1)) (List.drop (Int.toNat v21_29.2.2.2.2.1) v21_29.1)))
else
R_f29 _ (fun u41 =>
(bif (u41.2.2.1 != 0) then
K (0, u41.2.1, u41.2.2.1, (List.take 0 []))
else
f29_J1 R_f39 R_f22 R_f29 k K rec1 v21_29 (u41.2.1, 0, u41.1, [], u41.2.2.2))) ((List.take ((Int.toNat (IntKind.wrap .i64 (v21_29.2.2.2.2.1 + v21_29.2.2.2.2.2.2.1))) - (Int.toNat v21_29.2.2.2.2.1)) (List.drop (Int.toNat v21_29.2.2.2.2.1) v21_29.1))) (v21_29.2.2.2.2.2.2.2.2.2.1) ((IntKind.wrap .i64 (v21_29.2.2.1 + 1))))))))
def f29_L3 {X : Type} (R_f39 : f39_R) (R_f22 : f22_R) (R_f29 : f29_R) (k : Nat) (K : Nat × Int × Int × (List CV) → Option X) (rec1 : (List CV) × Int × Int × Nat × Int × (List CV) → Option X) (rec3 : (List CV) × Int × Int × Nat × Int × Int × Int × Int × (List CV) × Int × Int → Option X) (v : (List CV) × Int × Int × Nat × Int × Int × Int × Int × (List CV) × Int × Int) : Option X := f29_T3 R_f39 R_f22 R_f29 k K rec1  rec3 v
set_option maxRecDepth 100000 in
theorem f29_L3_ev {X : Type} (R_f39 : f39_R) (R_f22 : f22_R) (R_f29 : f29_R) (hR_f39 : AnsOk Try.prog 39 (f39_cOf R_f39)) (hR_f22 : AnsOk Try.prog 22 (f22_cOf R_f22)) (hR_f29 : AnsOk Try.prog 29 (f29_cOf R_f29)) (k : Nat) (K : Out → Option X) (r1 : St → Option X) (r3 : St → Option X) (v : (List CV) × Int × Int × Nat × Int × Int × Int × Int × (List CV) × Int × Int) : loopB (f29_cx R_f39 R_f22 R_f29 hR_f39 hR_f22 hR_f29) k [.r, .r, .r, .l, .b, .o, .r, .b, .r, .r, .r, .r, .r, .r, .r, .r, .r, .r, .l, .r, .b] (Try.f29.body.getD .skip) (retK (f29_cx R_f39 R_f22 R_f29 hR_f39 hR_f22 hR_f29) [⟨0, [0], some [0, 2000]⟩] Try.f29.results.toList K) [r1] r3 (f29_S3 v) = f29_T3 R_f39 R_f22 R_f29 k (fun u => K (f29_out u)) (fun v => r1 (f29_S1 v))  (fun v => r3 (f29_S3 v)) v := by kernel_rfl
theorem f29_L3_it {X : Type} (R_f39 : f39_R) (R_f22 : f22_R) (R_f29 : f29_R) (hR_f39 : AnsOk Try.prog 39 (f39_cOf R_f39)) (hR_f22 : AnsOk Try.prog 22 (f22_cOf R_f22)) (hR_f29 : AnsOk Try.prog 29 (f29_cOf R_f29)) (k : Nat) (K : Out → Option X) (r1 : St → Option X) : (fun v => iter (loopB (f29_cx R_f39 R_f22 R_f29 hR_f39 hR_f22 hR_f29) k [.r, .r, .r, .l, .b, .o, .r, .b, .r, .r, .r, .r, .r, .r, .r, .r, .r, .r, .l, .r, .b] (Try.f29.body.getD .skip) (retK (f29_cx R_f39 R_f22 R_f29 hR_f39 hR_f22 hR_f29) [⟨0, [0], some [0, 2000]⟩] Try.f29.results.toList K) [r1]) k (f29_S3 v)) = iterV (f29_L3 R_f39 R_f22 R_f29 k (fun u => K (f29_out u)) (fun v => r1 (f29_S1 v))) k :=
  iter_map (fun r3 v => (f29_L3_ev R_f39 R_f22 R_f29 hR_f39 hR_f22 hR_f29 k K r1 r3 v).trans rfl) k
def f29_T2 {X : Type} (R_f39 : f39_R) (R_f22 : f22_R) (R_f29 : f29_R) (k : Nat) (K : Nat × Int × Int × (List CV) → Option X) (rec1 : (List CV) × Int × Int × Nat × Int × (List CV) → Option X) (loop3 : (List CV) × Int × Int × Nat × Int × Int × Int × Int × (List CV) × Int × Int → Option X) (rec2 : (List CV) × Int × Int × Nat × Int × Int × Int × Int × Int × (List CV) × Int × Int → Option X) (v18_23 : (List CV) × Int × Int × Nat × Int × Int × Int × Int × Int × (List CV) × Int × Int) : Option X :=
(bif (decide (v18_23.2.2.2.2.2.2.2.2.1 < v18_23.2.2.2.2.2.2.1)) then
grd (decide (0 ≤ v18_23.2.2.2.2.1)) <|
Option.bind (v18_23.1)[(Int.toNat v18_23.2.2.2.2.1)]? fun e28 =>
grd (CV.isI .u8 e28) <|
rec2 (v18_23.1, v18_23.2.1, v18_23.2.2.1, v18_23.2.2.2.1, (IntKind.wrap .i64 (v18_23.2.2.2.2.1 + 1)), v18_23.2.2.2.2.2.1, v18_23.2.2.2.2.2.2.1, v18_23.2.2.2.2.2.2.2.1, (IntKind.wrap .i64 (v18_23.2.2.2.2.2.2.2.2.1 + 1)), v18_23.2.2.2.2.2.2.2.2.2.1, v18_23.2.2.2.2.2.2.2.2.2.2.1, (IntKind.wrap .i64 ((IntKind.wrap .i64 (v18_23.2.2.2.2.2.2.2.2.2.2.2 * 256)) + (IntKind.wrap .i64 (CV.toI e28)))))
else
(bif (decide (v18_23.2.2.2.2.2.2.2.1 > 0)) then
f29_J2 R_f39 R_f22 R_f29 k K loop3 v18_23 (0)
else
f29_J2 R_f39 R_f22 R_f29 k K loop3 v18_23 ((Int.tmod v18_23.2.2.2.2.2.1 8))))
def f29_L2 {X : Type} (R_f39 : f39_R) (R_f22 : f22_R) (R_f29 : f29_R) (k : Nat) (K : Nat × Int × Int × (List CV) → Option X) (rec1 : (List CV) × Int × Int × Nat × Int × (List CV) → Option X) (rec2 : (List CV) × Int × Int × Nat × Int × Int × Int × Int × Int × (List CV) × Int × Int → Option X) (v : (List CV) × Int × Int × Nat × Int × Int × Int × Int × Int × (List CV) × Int × Int) : Option X := f29_T2 R_f39 R_f22 R_f29 k K rec1 (iterV (f29_L3 R_f39 R_f22 R_f29 k K rec1) k) rec2 v
set_option maxRecDepth 100000 in
theorem f29_L2_ev {X : Type} (R_f39 : f39_R) (R_f22 : f22_R) (R_f29 : f29_R) (hR_f39 : AnsOk Try.prog 39 (f39_cOf R_f39)) (hR_f22 : AnsOk Try.prog 22 (f22_cOf R_f22)) (hR_f29 : AnsOk Try.prog 29 (f29_cOf R_f29)) (k : Nat) (K : Out → Option X) (r1 : St → Option X) (r2 : St → Option X) (v : (List CV) × Int × Int × Nat × Int × Int × Int × Int × Int × (List CV) × Int × Int) : loopB (f29_cx R_f39 R_f22 R_f29 hR_f39 hR_f22 hR_f29) k [.r, .r, .r, .l, .b, .o, .r, .b, .r, .r, .r, .r, .r, .r, .r, .l, .r, .b] (Try.f29.body.getD .skip) (retK (f29_cx R_f39 R_f22 R_f29 hR_f39 hR_f22 hR_f29) [⟨0, [0], some [0, 2000]⟩] Try.f29.results.toList K) [r1] r2 (f29_S2 v) = f29_T2 R_f39 R_f22 R_f29 k (fun u => K (f29_out u)) (fun v => r1 (f29_S1 v)) (fun v => iter (loopB (f29_cx R_f39 R_f22 R_f29 hR_f39 hR_f22 hR_f29) k [.r, .r, .r, .l, .b, .o, .r, .b, .r, .r, .r, .r, .r, .r, .r, .r, .r, .r, .l, .r, .b] (Try.f29.body.getD .skip) (retK (f29_cx R_f39 R_f22 R_f29 hR_f39 hR_f22 hR_f29) [⟨0, [0], some [0, 2000]⟩] Try.f29.results.toList K) [r1]) k (f29_S3 v)) (fun v => r2 (f29_S2 v)) v := by kernel_rfl
theorem f29_L2_it {X : Type} (R_f39 : f39_R) (R_f22 : f22_R) (R_f29 : f29_R) (hR_f39 : AnsOk Try.prog 39 (f39_cOf R_f39)) (hR_f22 : AnsOk Try.prog 22 (f22_cOf R_f22)) (hR_f29 : AnsOk Try.prog 29 (f29_cOf R_f29)) (k : Nat) (K : Out → Option X) (r1 : St → Option X) : (fun v => iter (loopB (f29_cx R_f39 R_f22 R_f29 hR_f39 hR_f22 hR_f29) k [.r, .r, .r, .l, .b, .o, .r, .b, .r, .r, .r, .r, .r, .r, .r, .l, .r, .b] (Try.f29.body.getD .skip) (retK (f29_cx R_f39 R_f22 R_f29 hR_f39 hR_f22 hR_f29) [⟨0, [0], some [0, 2000]⟩] Try.f29.results.toList K) [r1]) k (f29_S2 v)) = iterV (f29_L2 R_f39 R_f22 R_f29 k (fun u => K (f29_out u)) (fun v => r1 (f29_S1 v))) k :=
  iter_map (fun r2 v => (f29_L2_ev R_f39 R_f22 R_f29 hR_f39 hR_f22 hR_f29 k K r1 r2 v).trans (by rw [f29_L3_it R_f39 R_f22 R_f29 hR_f39 hR_f22 hR_f29 k K r1]; rfl)) k
def f29_T1 {X : Type} (R_f39 : f39_R) (R_f22 : f22_R) (R_f29 : f29_R) (k : Nat) (K : Nat × Int × Int × (List CV) → Option X)  (loop2 : (List CV) × Int × Int × Nat × Int × Int × Int × Int × Int × (List CV) × Int × Int → Option X) (rec1 : (List CV) × Int × Int × Nat × Int × (List CV) → Option X) (v5_0 : (List CV) × Int × Int × Nat × Int × (List CV)) : Option X :=
(bif (decide (v5_0.2.2.2.2.1 < (Nat.cast ((List.length v5_0.1)) : Int))) then
grd (decide (0 ≤ v5_0.2.2.2.2.1)) <|
Option.bind (v5_0.1)[(Int.toNat v5_0.2.2.2.2.1)]? fun e21 =>
grd (CV.isI .u8 e21) <|
R_f39 _ (fun u23 =>
(bif (!u23) then
K (0, v5_0.2.2.1, 20, (List.take 0 []))
else
(bif (decide ((IntKind.wrap .i64 ((IntKind.wrap .i64 ((Nat.cast ((List.length v5_0.1)) : Int) - v5_0.2.2.2.2.1)) - 1)) < (IntKind.wrap .i64 ((IntKind.wrap .i64 (1 + (Int.tmod (IntKind.wrap .i64 (Int.tdiv (IntKind.wrap .i64 (CV.toI e21)) 32)) 2))) + (Int.tmod (IntKind.wrap .i64 (Int.tdiv (IntKind.wrap .i64 (CV.toI e21)) 8)) 4))))) then
K (0, v5_0.2.2.1, 20, (List.take 0 []))
else
loop2 (v5_0.1, v5_0.2.1, v5_0.2.2.1, v5_0.2.2.2.1, (IntKind.wrap .i64 (v5_0.2.2.2.2.1 + 1)), (IntKind.wrap .i64 (CV.toI e21)), (IntKind.wrap .i64 (1 + (Int.tmod (IntKind.wrap .i64 (Int.tdiv (IntKind.wrap .i64 (CV.toI e21)) 32)) 2))), (Int.tmod (IntKind.wrap .i64 (Int.tdiv (IntKind.wrap .i64 (CV.toI e21)) 8)) 4), 0, v5_0.2.2.2.2.2, (IntKind.wrap .i64 (Int.tdiv (IntKind.wrap .i64 (CV.toI e21)) 64)), 0)))) ((IntKind.wrap .i64 (Int.tdiv (IntKind.wrap .i64 (CV.toI e21)) 64))) (v5_0.2.1)
else
K (v5_0.2.2.2.1, v5_0.2.2.1, 0, (List.take (0 + v5_0.2.2.2.1) v5_0.2.2.2.2.2)))
def f29_L1 {X : Type} (R_f39 : f39_R) (R_f22 : f22_R) (R_f29 : f29_R) (k : Nat) (K : Nat × Int × Int × (List CV) → Option X)  (rec1 : (List CV) × Int × Int × Nat × Int × (List CV) → Option X) (v : (List CV) × Int × Int × Nat × Int × (List CV)) : Option X := f29_T1 R_f39 R_f22 R_f29 k K  (iterV (f29_L2 R_f39 R_f22 R_f29 k K rec1) k) rec1 v
set_option maxRecDepth 100000 in
theorem f29_L1_ev {X : Type} (R_f39 : f39_R) (R_f22 : f22_R) (R_f29 : f29_R) (hR_f39 : AnsOk Try.prog 39 (f39_cOf R_f39)) (hR_f22 : AnsOk Try.prog 22 (f22_cOf R_f22)) (hR_f29 : AnsOk Try.prog 29 (f29_cOf R_f29)) (k : Nat) (K : Out → Option X)  (r1 : St → Option X) (v : (List CV) × Int × Int × Nat × Int × (List CV)) : loopB (f29_cx R_f39 R_f22 R_f29 hR_f39 hR_f22 hR_f29) k [.r, .r, .r, .l, .b] (Try.f29.body.getD .skip) (retK (f29_cx R_f39 R_f22 R_f29 hR_f39 hR_f22 hR_f29) [⟨0, [0], some [0, 2000]⟩] Try.f29.results.toList K) [] r1 (f29_S1 v) = f29_T1 R_f39 R_f22 R_f29 k (fun u => K (f29_out u))  (fun v => iter (loopB (f29_cx R_f39 R_f22 R_f29 hR_f39 hR_f22 hR_f29) k [.r, .r, .r, .l, .b, .o, .r, .b, .r, .r, .r, .r, .r, .r, .r, .l, .r, .b] (Try.f29.body.getD .skip) (retK (f29_cx R_f39 R_f22 R_f29 hR_f39 hR_f22 hR_f29) [⟨0, [0], some [0, 2000]⟩] Try.f29.results.toList K) [r1]) k (f29_S2 v)) (fun v => r1 (f29_S1 v)) v := by kernel_rfl
theorem f29_L1_it {X : Type} (R_f39 : f39_R) (R_f22 : f22_R) (R_f29 : f29_R) (hR_f39 : AnsOk Try.prog 39 (f39_cOf R_f39)) (hR_f22 : AnsOk Try.prog 22 (f22_cOf R_f22)) (hR_f29 : AnsOk Try.prog 29 (f29_cOf R_f29)) (k : Nat) (K : Out → Option X)  : (fun v => iter (loopB (f29_cx R_f39 R_f22 R_f29 hR_f39 hR_f22 hR_f29) k [.r, .r, .r, .l, .b] (Try.f29.body.getD .skip) (retK (f29_cx R_f39 R_f22 R_f29 hR_f39 hR_f22 hR_f29) [⟨0, [0], some [0, 2000]⟩] Try.f29.results.toList K) []) k (f29_S1 v)) = iterV (f29_L1 R_f39 R_f22 R_f29 k (fun u => K (f29_out u)) ) k :=
  iter_map (fun r1 v => (f29_L1_ev R_f39 R_f22 R_f29 hR_f39 hR_f22 hR_f29 k K  r1 v).trans (by rw [f29_L2_it R_f39 R_f22 R_f29 hR_f39 hR_f22 hR_f29 k K r1]; rfl)) k
def f29_T {X : Type} (R_f39 : f39_R) (R_f22 : f22_R) (R_f29 : f29_R) (k : Nat) (K : Nat × Int × Int × (List CV) → Option X) (loop1 : (List CV) × Int × Int × Nat × Int × (List CV) → Option X) (x0 : List CV) (x1 : Int) (x2 : Int) : Option X :=
loop1 (x0, x1, x2, 0, 0, [])
/-- "outpost/outpostref15.read" -/
def f29_A (R_f39 : f39_R) (R_f22 : f22_R) (R_f29 : f29_R) (k : Nat) : f29_R := fun X K x0 x1 x2 => f29_T R_f39 R_f22 R_f29 k K (iterV (f29_L1 R_f39 R_f22 R_f29 k K) k) x0 x1 x2
set_option maxRecDepth 100000 in
theorem f29_ev' {X : Type} (R_f39 : f39_R) (R_f22 : f22_R) (R_f29 : f29_R) (hR_f39 : AnsOk Try.prog 39 (f39_cOf R_f39)) (hR_f22 : AnsOk Try.prog 22 (f22_cOf R_f22)) (hR_f29 : AnsOk Try.prog 29 (f29_cOf R_f29)) (k : Nat) (K : Out → Option X) (x0 : List CV) (x1 : Int) (x2 : Int) : evFn (f29_cx R_f39 R_f22 R_f29 hR_f39 hR_f22 hR_f29) [⟨0, [0], some [0, 2000]⟩] k Try.f29.ntmps Try.f29.results.toList (Try.f29.body.getD .skip) [(.sl false none x0), (.v (CV.int .i64 x1)), (.v (CV.int .i64 x2))] [] K = f29_T R_f39 R_f22 R_f29 k (fun u => K (f29_out u)) (fun v => iter (loopB (f29_cx R_f39 R_f22 R_f29 hR_f39 hR_f22 hR_f29) k [.r, .r, .r, .l, .b] (Try.f29.body.getD .skip) (retK (f29_cx R_f39 R_f22 R_f29 hR_f39 hR_f22 hR_f29) [⟨0, [0], some [0, 2000]⟩] Try.f29.results.toList K) []) k (f29_S1 v)) x0 x1 x2 := by kernel_rfl
theorem f29_ev {X : Type} (R_f39 : f39_R) (R_f22 : f22_R) (R_f29 : f29_R) (hR_f39 : AnsOk Try.prog 39 (f39_cOf R_f39)) (hR_f22 : AnsOk Try.prog 22 (f22_cOf R_f22)) (hR_f29 : AnsOk Try.prog 29 (f29_cOf R_f29)) (k : Nat) (K : Out → Option X) (x0 : List CV) (x1 : Int) (x2 : Int) : evFn (f29_cx R_f39 R_f22 R_f29 hR_f39 hR_f22 hR_f29) [⟨0, [0], some [0, 2000]⟩] k Try.f29.ntmps Try.f29.results.toList (Try.f29.body.getD .skip) [(.sl false none x0), (.v (CV.int .i64 x1)), (.v (CV.int .i64 x2))] [] K = f29_A R_f39 R_f22 R_f29 k X (fun u => K (f29_out u)) x0 x1 x2 := (f29_ev' R_f39 R_f22 R_f29 hR_f39 hR_f22 hR_f29 k K x0 x1 x2).trans (by rw [f29_L1_it R_f39 R_f22 R_f29 hR_f39 hR_f22 hR_f29 k K]; rfl)
theorem f29_okA (R_f39 : f39_R) (R_f22 : f22_R) (R_f29 : f29_R) (hR_f39 : AnsOk Try.prog 39 (f39_cOf R_f39)) (hR_f22 : AnsOk Try.prog 22 (f22_cOf R_f22)) (hR_f29 : AnsOk Try.prog 29 (f29_cOf R_f29)) (k : Nat) : AnsOk Try.prog 29 (f29_cOf (f29_A R_f39 R_f22 R_f29 k)) := by
  intro X xs ns K x h
  unfold f29_cOf at h ⊢
  split at h
  · exact ans_main S (f29_Cok R_f39 R_f22 R_f29 hR_f39 hR_f22 hR_f29) Try.func29 (ent_of Try.func29 (by kernel_rfl) rfl) rfl (fun X K => f29_ev R_f39 R_f22 R_f29 hR_f39 hR_f22 hR_f29 k K _ _ _) h
  · cases h
def f29_r : Nat → f29_R
  | 0 => fun _ _ _ _ _ => none
  | k + 1 => f29_A (fun X => @f39 X k) (fun X => @f22 X k) (f29_r k) k
theorem f29_okr : ∀ k, AnsOk Try.prog 29 (f29_cOf (f29_r k))
  | 0 => by
    intro X xs ns K x h
    unfold f29_cOf at h
    split at h <;> cases h
  | k + 1 => f29_okA (fun X => @f39 X k) (fun X => @f22 X k) (f29_r k) (f39_ok k) (f22_ok k) (f29_okr k) k
def f29 {X : Type} (k : Nat) (K : Nat × Int × Int × (List CV) → Option X) (x0 : List CV) (x1 : Int) (x2 : Int) : Option X := f29_r k X K x0 x1 x2
theorem f29_ok (k : Nat) : AnsOk Try.prog 29 (f29_cOf (fun X => @f29 X k)) := f29_okr k
abbrev f17_R : Type 1 := (X : Type) → (Nat × Int × (List CV) → Option X) → (List CV) → Option X
def f17_out (u : Nat × Int × (List CV)) : Out := ⟨(.tup [(.osl [0, 2000] (some 4) 0 u.1), (.v (CV.int .i64 u.2.1))]), [([0, 2000], (.row false (some 4) u.2.2))]⟩
def f17_cOf (R : f17_R) : FnC := fun X xs ns K => match xs, ns with
  | [(.sl false none x0)], [] => R X (fun u => K (f17_out u)) x0
  | _, _ => none
def f17_plan : Nat → Option (List Nat × List Wk)
  | 0 => some ([0], [])
  | 1 => some ([0], [])
  | 2 => some ([4, 6], [])
  | _ => none
def f17_C (R_f29 : f29_R) : Fns := (orC 29 (f29_cOf R_f29) noC)
theorem f17_Cok (R_f29 : f29_R) (hR_f29 : AnsOk Try.prog 29 (f29_cOf R_f29)) : CsOk Try.prog (f17_C R_f29) := (orC_ok hR_f29 noC_ok)
def f17_cx (R_f29 : f29_R) (hR_f29 : AnsOk Try.prog 29 (f29_cOf R_f29)) : Cx := mkCx (tabOf rows) (f17_C R_f29) md (cmpIn cmps) f17_plan (f17_Cok R_f29 hR_f29)
def f17_T {X : Type} (R_f29 : f29_R) (k : Nat) (K : Nat × Int × (List CV) → Option X)  (x0 : List CV) : Option X :=
R_f29 _ (fun u1 =>
K (u1.1, u1.2.2.1, (List.take (0 + u1.1) u1.2.2.2))) (x0) ((-1)) (0)
/-- "outpost/outpostref15.Read" -/
def f17_A (R_f29 : f29_R) (k : Nat) : f17_R := fun X K x0 => f17_T R_f29 k K  x0
set_option maxRecDepth 100000 in
theorem f17_ev' {X : Type} (R_f29 : f29_R) (hR_f29 : AnsOk Try.prog 29 (f29_cOf R_f29)) (k : Nat) (K : Out → Option X) (x0 : List CV) : evFn (f17_cx R_f29 hR_f29) [] k Try.f17.ntmps Try.f17.results.toList (Try.f17.body.getD .skip) [(.sl false none x0)] [] K = f17_T R_f29 k (fun u => K (f17_out u)) x0 := by kernel_rfl
theorem f17_ev {X : Type} (R_f29 : f29_R) (hR_f29 : AnsOk Try.prog 29 (f29_cOf R_f29)) (k : Nat) (K : Out → Option X) (x0 : List CV) : evFn (f17_cx R_f29 hR_f29) [] k Try.f17.ntmps Try.f17.results.toList (Try.f17.body.getD .skip) [(.sl false none x0)] [] K = f17_A R_f29 k X (fun u => K (f17_out u)) x0 := (f17_ev' R_f29 hR_f29 k K x0).trans rfl
theorem f17_okA (R_f29 : f29_R) (hR_f29 : AnsOk Try.prog 29 (f29_cOf R_f29)) (k : Nat) : AnsOk Try.prog 17 (f17_cOf (f17_A R_f29 k)) := by
  intro X xs ns K x h
  unfold f17_cOf at h ⊢
  split at h
  · exact ans_main S (f17_Cok R_f29 hR_f29) Try.func17 (ent_of Try.func17 (by kernel_rfl) rfl) rfl (fun X K => f17_ev R_f29 hR_f29 k K _) h
  · cases h
/-- "outpost/outpostref15.Read" -/
def f17 {X : Type} (k : Nat) (K : Nat × Int × (List CV) → Option X) (x0 : List CV) : Option X := f17_A (fun X => @f29 X k) k X K x0
theorem f17_ok (k : Nat) : AnsOk Try.prog 17 (f17_cOf (fun X => @f17 X k)) := f17_okA (fun X => @f29 X k) (f29_ok k) k
abbrev f18_R : Type 1 := (X : Type) → (Bool → Option X) → (List CV) → (List CV) → Option X
def f18_out (u : Bool) : Out := ⟨(.v (CV.bool u)), []⟩
def f18_cOf (R : f18_R) : FnC := fun X xs ns K => match xs, ns with
  | [(.sl false (some 4) x0), (.sl false (some 4) x1)], [] => R X (fun u => K (f18_out u)) x0 x1
  | _, _ => none
def f18_plan : Nat → Option (List Nat × List Wk)
  | 0 => some ([0, 1], [])
  | 1 => some ([0, 1], [])
  | 2 => some ([], [])
  | 3 => some ([0, 1], [])
  | 4 => some ([0, 1, 5], [])
  | 5 => some ([0, 1, 5], [])
  | 6 => some ([0, 1, 5], [])
  | 7 => some ([], [])
  | 8 => some ([], [])
  | _ => none
def f18_C (R_f15 : f15_R) (R_f18 : f18_R) : Fns := (orC 15 (f15_cOf R_f15) (orC 18 (f18_cOf R_f18) noC))
theorem f18_Cok (R_f15 : f15_R) (R_f18 : f18_R) (hR_f15 : AnsOk Try.prog 15 (f15_cOf R_f15)) (hR_f18 : AnsOk Try.prog 18 (f18_cOf R_f18)) : CsOk Try.prog (f18_C R_f15 R_f18) := (orC_ok hR_f15 (orC_ok hR_f18 noC_ok))
def f18_cx (R_f15 : f15_R) (R_f18 : f18_R) (hR_f15 : AnsOk Try.prog 15 (f15_cOf R_f15)) (hR_f18 : AnsOk Try.prog 18 (f18_cOf R_f18)) : Cx := mkCx (tabOf rows) (f18_C R_f15 R_f18) md (cmpIn cmps) f18_plan (f18_Cok R_f15 R_f18 hR_f15 hR_f18)
def f18_S1 (v : (List CV) × (List CV) × Int) : St := ⟨[(.sl false (some 4) v.1), (.sl false (some 4) v.2.1), .undef, .undef, .undef, (.v (CV.int .i64 v.2.2)), .undef, .undef, .undef, .undef, .undef, .undef, .undef, .undef, .undef, .undef, .undef, .undef, .undef, .undef, .undef, .undef, .undef, .undef, .undef, .undef, .undef, .undef, .undef, .undef, .undef, .undef, .undef, .undef, .undef, .undef, .undef, .undef, .undef, .undef, .undef, .undef, .undef, .undef, .undef, .undef, .undef, .undef, .undef, .undef, .undef, .undef, .undef, .undef, .undef, .undef, .undef, .undef, .undef, .undef, .undef, .undef, .undef, .undef, .undef, .undef, .undef, .undef, .undef], []⟩
def f18_T1 {X : Type} (R_f15 : f15_R) (R_f18 : f18_R) (k : Nat) (K : Bool → Option X)   (rec1 : (List CV) × (List CV) × Int → Option X) (v5_0 : (List CV) × (List CV) × Int) : Option X :=
(bif (decide (v5_0.2.2 < (Nat.cast ((List.length v5_0.1)) : Int))) then
grd (decide (0 ≤ v5_0.2.2)) <|
Option.bind (v5_0.1)[(Int.toNat v5_0.2.2)]? fun e56 =>
Option.bind (CV.cell e56 0) fun c57 =>
grd (CV.isI .i64 c57) <|
grd (decide (0 ≤ v5_0.2.2)) <|
Option.bind (v5_0.2.1)[(Int.toNat v5_0.2.2)]? fun e58 =>
Option.bind (CV.cell e58 0) fun c59 =>
grd (CV.isI .i64 c59) <|
(bif ((CV.toI c57) != (CV.toI c59)) then
K (false)
else
grd (decide (0 ≤ v5_0.2.2)) <|
Option.bind (v5_0.1)[(Int.toNat v5_0.2.2)]? fun e60 =>
Option.bind (CV.cell e60 1) fun c61 =>
grd (CV.isI .i64 c61) <|
grd (decide (0 ≤ v5_0.2.2)) <|
Option.bind (v5_0.2.1)[(Int.toNat v5_0.2.2)]? fun e62 =>
Option.bind (CV.cell e62 1) fun c63 =>
grd (CV.isI .i64 c63) <|
(bif ((CV.toI c61) != (CV.toI c63)) then
K (false)
else
grd (decide (0 ≤ v5_0.2.2)) <|
Option.bind (v5_0.1)[(Int.toNat v5_0.2.2)]? fun e64 =>
Option.bind (CV.cell e64 2) fun c65 =>
grd (CV.isL none c65) <|
grd (decide (0 ≤ v5_0.2.2)) <|
Option.bind (v5_0.2.1)[(Int.toNat v5_0.2.2)]? fun e66 =>
Option.bind (CV.cell e66 2) fun c67 =>
grd (CV.isL none c67) <|
R_f15 _ (fun u68 =>
(bif (!u68) then
K (false)
else
grd (decide (0 ≤ v5_0.2.2)) <|
Option.bind (v5_0.1)[(Int.toNat v5_0.2.2)]? fun e69 =>
Option.bind (CV.cell e69 3) fun c70 =>
grd (CV.isL (some 4) c70) <|
grd (decide (0 ≤ v5_0.2.2)) <|
Option.bind (v5_0.2.1)[(Int.toNat v5_0.2.2)]? fun e71 =>
Option.bind (CV.cell e71 3) fun c72 =>
grd (CV.isL (some 4) c72) <|
R_f18 _ (fun u73 =>
(bif (!u73) then
K (false)
else
rec1 (v5_0.1, v5_0.2.1, (IntKind.wrap .i64 (v5_0.2.2 + 1))))) ((CV.toL c70)) ((CV.toL c72)))) ((CV.toL c65)) ((CV.toL c67))))
else
K (true))
def f18_L1 {X : Type} (R_f15 : f15_R) (R_f18 : f18_R) (k : Nat) (K : Bool → Option X)  (rec1 : (List CV) × (List CV) × Int → Option X) (v : (List CV) × (List CV) × Int) : Option X := f18_T1 R_f15 R_f18 k K   rec1 v
set_option maxRecDepth 100000 in
theorem f18_L1_ev {X : Type} (R_f15 : f15_R) (R_f18 : f18_R) (hR_f15 : AnsOk Try.prog 15 (f15_cOf R_f15)) (hR_f18 : AnsOk Try.prog 18 (f18_cOf R_f18)) (k : Nat) (K : Out → Option X)  (r1 : St → Option X) (v : (List CV) × (List CV) × Int) : loopB (f18_cx R_f15 R_f18 hR_f15 hR_f18) k [.r, .r, .l, .r, .b] (Try.f18.body.getD .skip) (retK (f18_cx R_f15 R_f18 hR_f15 hR_f18) [] Try.f18.results.toList K) [] r1 (f18_S1 v) = f18_T1 R_f15 R_f18 k (fun u => K (f18_out u))   (fun v => r1 (f18_S1 v)) v := by kernel_rfl
theorem f18_L1_it {X : Type} (R_f15 : f15_R) (R_f18 : f18_R) (hR_f15 : AnsOk Try.prog 15 (f15_cOf R_f15)) (hR_f18 : AnsOk Try.prog 18 (f18_cOf R_f18)) (k : Nat) (K : Out → Option X)  : (fun v => iter (loopB (f18_cx R_f15 R_f18 hR_f15 hR_f18) k [.r, .r, .l, .r, .b] (Try.f18.body.getD .skip) (retK (f18_cx R_f15 R_f18 hR_f15 hR_f18) [] Try.f18.results.toList K) []) k (f18_S1 v)) = iterV (f18_L1 R_f15 R_f18 k (fun u => K (f18_out u)) ) k :=
  iter_map (fun r1 v => (f18_L1_ev R_f15 R_f18 hR_f15 hR_f18 k K  r1 v).trans rfl) k
def f18_T {X : Type} (R_f15 : f15_R) (R_f18 : f18_R) (k : Nat) (K : Bool → Option X) (loop1 : (List CV) × (List CV) × Int → Option X) (x0 : List CV) (x1 : List CV) : Option X :=
(bif ((Nat.cast ((List.length x0)) : Int) != (Nat.cast ((List.length x1)) : Int)) then
K (false)
else
loop1 (x0, x1, 0))
/-- "outpost/outpostref15.Same" -/
def f18_A (R_f15 : f15_R) (R_f18 : f18_R) (k : Nat) : f18_R := fun X K x0 x1 => f18_T R_f15 R_f18 k K (iterV (f18_L1 R_f15 R_f18 k K) k) x0 x1
set_option maxRecDepth 100000 in
theorem f18_ev' {X : Type} (R_f15 : f15_R) (R_f18 : f18_R) (hR_f15 : AnsOk Try.prog 15 (f15_cOf R_f15)) (hR_f18 : AnsOk Try.prog 18 (f18_cOf R_f18)) (k : Nat) (K : Out → Option X) (x0 : List CV) (x1 : List CV) : evFn (f18_cx R_f15 R_f18 hR_f15 hR_f18) [] k Try.f18.ntmps Try.f18.results.toList (Try.f18.body.getD .skip) [(.sl false (some 4) x0), (.sl false (some 4) x1)] [] K = f18_T R_f15 R_f18 k (fun u => K (f18_out u)) (fun v => iter (loopB (f18_cx R_f15 R_f18 hR_f15 hR_f18) k [.r, .r, .l, .r, .b] (Try.f18.body.getD .skip) (retK (f18_cx R_f15 R_f18 hR_f15 hR_f18) [] Try.f18.results.toList K) []) k (f18_S1 v)) x0 x1 := by kernel_rfl
theorem f18_ev {X : Type} (R_f15 : f15_R) (R_f18 : f18_R) (hR_f15 : AnsOk Try.prog 15 (f15_cOf R_f15)) (hR_f18 : AnsOk Try.prog 18 (f18_cOf R_f18)) (k : Nat) (K : Out → Option X) (x0 : List CV) (x1 : List CV) : evFn (f18_cx R_f15 R_f18 hR_f15 hR_f18) [] k Try.f18.ntmps Try.f18.results.toList (Try.f18.body.getD .skip) [(.sl false (some 4) x0), (.sl false (some 4) x1)] [] K = f18_A R_f15 R_f18 k X (fun u => K (f18_out u)) x0 x1 := (f18_ev' R_f15 R_f18 hR_f15 hR_f18 k K x0 x1).trans (by rw [f18_L1_it R_f15 R_f18 hR_f15 hR_f18 k K]; rfl)
theorem f18_okA (R_f15 : f15_R) (R_f18 : f18_R) (hR_f15 : AnsOk Try.prog 15 (f15_cOf R_f15)) (hR_f18 : AnsOk Try.prog 18 (f18_cOf R_f18)) (k : Nat) : AnsOk Try.prog 18 (f18_cOf (f18_A R_f15 R_f18 k)) := by
  intro X xs ns K x h
  unfold f18_cOf at h ⊢
  split at h
  · exact ans_main S (f18_Cok R_f15 R_f18 hR_f15 hR_f18) Try.func18 (ent_of Try.func18 (by kernel_rfl) rfl) rfl (fun X K => f18_ev R_f15 R_f18 hR_f15 hR_f18 k K _ _) h
  · cases h
def f18_r : Nat → f18_R
  | 0 => fun _ _ _ _ => none
  | k + 1 => f18_A (fun X => @f15 X k) (f18_r k) k
theorem f18_okr : ∀ k, AnsOk Try.prog 18 (f18_cOf (f18_r k))
  | 0 => by
    intro X xs ns K x h
    unfold f18_cOf at h
    split at h <;> cases h
  | k + 1 => f18_okA (fun X => @f15 X k) (f18_r k) (f15_ok k) (f18_okr k) k
def f18 {X : Type} (k : Nat) (K : Bool → Option X) (x0 : List CV) (x1 : List CV) : Option X := f18_r k X K x0 x1
theorem f18_ok (k : Nat) : AnsOk Try.prog 18 (f18_cOf (fun X => @f18 X k)) := f18_okr k
abbrev f4_R : Type 1 := (X : Type) → (Bool → Option X) → (List CV) → Option X
def f4_out (u : Bool) : Out := ⟨(.v (CV.bool u)), []⟩
def f4_cOf (R : f4_R) : FnC := fun X xs ns K => match xs, ns with
  | [(.sl true none x0)], [] => R X (fun u => K (f4_out u)) x0
  | _, _ => none
def f4_plan : Nat → Option (List Nat × List Wk)
  | 0 => some ([0], [])
  | 1 => some ([0], [])
  | 2 => some ([], [])
  | 3 => some ([0], [])
  | 4 => some ([], [])
  | 5 => some ([0], [])
  | 6 => some ([0, 3, 4], [])
  | 7 => some ([3, 4, 5, 6], [])
  | _ => none
def f4_C (R_f9 : f9_R) (R_f16 : f16_R) (R_f17 : f17_R) (R_f18 : f18_R) : Fns := (orC 9 (f9_cOf R_f9) (orC 16 (f16_cOf R_f16) (orC 17 (f17_cOf R_f17) (orC 18 (f18_cOf R_f18) noC))))
theorem f4_Cok (R_f9 : f9_R) (R_f16 : f16_R) (R_f17 : f17_R) (R_f18 : f18_R) (hR_f9 : AnsOk Try.prog 9 (f9_cOf R_f9)) (hR_f16 : AnsOk Try.prog 16 (f16_cOf R_f16)) (hR_f17 : AnsOk Try.prog 17 (f17_cOf R_f17)) (hR_f18 : AnsOk Try.prog 18 (f18_cOf R_f18)) : CsOk Try.prog (f4_C R_f9 R_f16 R_f17 R_f18) := (orC_ok hR_f9 (orC_ok hR_f16 (orC_ok hR_f17 (orC_ok hR_f18 noC_ok))))
def f4_cx (R_f9 : f9_R) (R_f16 : f16_R) (R_f17 : f17_R) (R_f18 : f18_R) (hR_f9 : AnsOk Try.prog 9 (f9_cOf R_f9)) (hR_f16 : AnsOk Try.prog 16 (f16_cOf R_f16)) (hR_f17 : AnsOk Try.prog 17 (f17_cOf R_f17)) (hR_f18 : AnsOk Try.prog 18 (f18_cOf R_f18)) : Cx := mkCx (tabOf rows) (f4_C R_f9 R_f16 R_f17 R_f18) md (cmpIn cmps) f4_plan (f4_Cok R_f9 R_f16 R_f17 R_f18 hR_f9 hR_f16 hR_f17 hR_f18)
def f4_T {X : Type} (R_f9 : f9_R) (R_f16 : f16_R) (R_f17 : f17_R) (R_f18 : f18_R) (k : Nat) (K : Bool → Option X)  (x0 : List CV) : Option X :=
R_f9 _ (fun u2 =>
(bif (!u2) then
K (false)
else
(bif (decide ((Nat.cast ((List.length x0)) : Int) > 4000)) then
K (true)
else
R_f16 _ (fun u3 =>
R_f17 _ (fun u4 =>
(bif (u3.2.1 == u4.2.1) then
R_f18 _ (fun u5 =>
K (u5)) ((List.take u3.1 (List.drop 0 u3.2.2))) ((List.take u4.1 (List.drop 0 u4.2.2)))
else
K (false))) (x0)) (x0)))) 
/-- "outpost/outpostlaw15.TlvReads" -/
def f4_A (R_f9 : f9_R) (R_f16 : f16_R) (R_f17 : f17_R) (R_f18 : f18_R) (k : Nat) : f4_R := fun X K x0 => f4_T R_f9 R_f16 R_f17 R_f18 k K  x0
set_option maxRecDepth 100000 in
theorem f4_ev' {X : Type} (R_f9 : f9_R) (R_f16 : f16_R) (R_f17 : f17_R) (R_f18 : f18_R) (hR_f9 : AnsOk Try.prog 9 (f9_cOf R_f9)) (hR_f16 : AnsOk Try.prog 16 (f16_cOf R_f16)) (hR_f17 : AnsOk Try.prog 17 (f17_cOf R_f17)) (hR_f18 : AnsOk Try.prog 18 (f18_cOf R_f18)) (k : Nat) (K : Out → Option X) (x0 : List CV) : evFn (f4_cx R_f9 R_f16 R_f17 R_f18 hR_f9 hR_f16 hR_f17 hR_f18) [] k Try.f4.ntmps Try.f4.results.toList (Try.f4.body.getD .skip) [(.sl true none x0)] [] K = f4_T R_f9 R_f16 R_f17 R_f18 k (fun u => K (f4_out u)) x0 := by kernel_rfl
theorem f4_ev {X : Type} (R_f9 : f9_R) (R_f16 : f16_R) (R_f17 : f17_R) (R_f18 : f18_R) (hR_f9 : AnsOk Try.prog 9 (f9_cOf R_f9)) (hR_f16 : AnsOk Try.prog 16 (f16_cOf R_f16)) (hR_f17 : AnsOk Try.prog 17 (f17_cOf R_f17)) (hR_f18 : AnsOk Try.prog 18 (f18_cOf R_f18)) (k : Nat) (K : Out → Option X) (x0 : List CV) : evFn (f4_cx R_f9 R_f16 R_f17 R_f18 hR_f9 hR_f16 hR_f17 hR_f18) [] k Try.f4.ntmps Try.f4.results.toList (Try.f4.body.getD .skip) [(.sl true none x0)] [] K = f4_A R_f9 R_f16 R_f17 R_f18 k X (fun u => K (f4_out u)) x0 := (f4_ev' R_f9 R_f16 R_f17 R_f18 hR_f9 hR_f16 hR_f17 hR_f18 k K x0).trans rfl
theorem f4_okA (R_f9 : f9_R) (R_f16 : f16_R) (R_f17 : f17_R) (R_f18 : f18_R) (hR_f9 : AnsOk Try.prog 9 (f9_cOf R_f9)) (hR_f16 : AnsOk Try.prog 16 (f16_cOf R_f16)) (hR_f17 : AnsOk Try.prog 17 (f17_cOf R_f17)) (hR_f18 : AnsOk Try.prog 18 (f18_cOf R_f18)) (k : Nat) : AnsOk Try.prog 4 (f4_cOf (f4_A R_f9 R_f16 R_f17 R_f18 k)) := by
  intro X xs ns K x h
  unfold f4_cOf at h ⊢
  split at h
  · exact ans_main S (f4_Cok R_f9 R_f16 R_f17 R_f18 hR_f9 hR_f16 hR_f17 hR_f18) Try.func4 (ent_of Try.func4 (by kernel_rfl) rfl) rfl (fun X K => f4_ev R_f9 R_f16 R_f17 R_f18 hR_f9 hR_f16 hR_f17 hR_f18 k K _) h
  · cases h
/-- "outpost/outpostlaw15.TlvReads" -/
def f4 {X : Type} (k : Nat) (K : Bool → Option X) (x0 : List CV) : Option X := f4_A (fun X => @f9 X k) (fun X => @f16 X k) (fun X => @f17 X k) (fun X => @f18 X k) k X K x0
theorem f4_ok (k : Nat) : AnsOk Try.prog 4 (f4_cOf (fun X => @f4 X k)) := f4_okA (fun X => @f9 X k) (fun X => @f16 X k) (fun X => @f17 X k) (fun X => @f18 X k) (f9_ok k) (f16_ok k) (f17_ok k) (f18_ok k) k
abbrev f5_R : Type 1 := (X : Type) → (Bool → Option X) → (List CV) → (List CV) → Int → Int → Option X
def f5_out (u : Bool) : Out := ⟨(.v (CV.bool u)), []⟩
def f5_cOf (R : f5_R) : FnC := fun X xs ns K => match xs, ns with
  | [(.sl true (some 4) x0), (.sl true (some 4) x1), (.v (CV.int .i64 x2)), (.v (CV.int .i64 x3))], [] => R X (fun u => K (f5_out u)) x0 x1 x2 x3
  | _, _ => none
def f5_plan : Nat → Option (List Nat × List Wk)
  | 0 => some ([0, 1, 2, 3], [])
  | 1 => some ([0, 1, 2, 3], [])
  | 2 => some ([], [])
  | 3 => some ([0, 1, 2, 3], [])
  | 4 => some ([], [])
  | 5 => some ([0, 1, 2, 3], [])
  | 6 => some ([0, 1, 2, 3, 9, 10], [])
  | 7 => some ([0, 1, 2, 3, 9, 10, 30, 31, 32], [])
  | 8 => some ([0, 1, 2, 3, 9, 10, 30, 31, 32], [])
  | 9 => some ([0, 1, 2, 3, 9, 10, 12, 30, 31, 32], [])
  | 10 => some ([0, 1, 9, 10, 12], [])
  | 11 => some ([0, 1, 2, 3, 9, 10, 30, 31, 32], [])
  | 12 => some ([0, 1, 9, 10], [])
  | _ => none
def f5_C (R_f9 : f9_R) (R_f10 : f10_R) (R_f19 : f19_R) (R_f18 : f18_R) (R_f20 : f20_R) : Fns := (orC 9 (f9_cOf R_f9) (orC 10 (f10_cOf R_f10) (orC 18 (f18_cOf R_f18) (orC 19 (f19_cOf R_f19) (orC 20 (f20_cOf R_f20) noC)))))
theorem f5_Cok (R_f9 : f9_R) (R_f10 : f10_R) (R_f19 : f19_R) (R_f18 : f18_R) (R_f20 : f20_R) (hR_f9 : AnsOk Try.prog 9 (f9_cOf R_f9)) (hR_f10 : AnsOk Try.prog 10 (f10_cOf R_f10)) (hR_f19 : AnsOk Try.prog 19 (f19_cOf R_f19)) (hR_f18 : AnsOk Try.prog 18 (f18_cOf R_f18)) (hR_f20 : AnsOk Try.prog 20 (f20_cOf R_f20)) : CsOk Try.prog (f5_C R_f9 R_f10 R_f19 R_f18 R_f20) := (orC_ok hR_f9 (orC_ok hR_f10 (orC_ok hR_f18 (orC_ok hR_f19 (orC_ok hR_f20 noC_ok)))))
def f5_cx (R_f9 : f9_R) (R_f10 : f10_R) (R_f19 : f19_R) (R_f18 : f18_R) (R_f20 : f20_R) (hR_f9 : AnsOk Try.prog 9 (f9_cOf R_f9)) (hR_f10 : AnsOk Try.prog 10 (f10_cOf R_f10)) (hR_f19 : AnsOk Try.prog 19 (f19_cOf R_f19)) (hR_f18 : AnsOk Try.prog 18 (f18_cOf R_f18)) (hR_f20 : AnsOk Try.prog 20 (f20_cOf R_f20)) : Cx := mkCx (tabOf rows) (f5_C R_f9 R_f10 R_f19 R_f18 R_f20) md (cmpIn cmps) f5_plan (f5_Cok R_f9 R_f10 R_f19 R_f18 R_f20 hR_f9 hR_f10 hR_f19 hR_f18 hR_f20)
def f5_S1 (v : (List CV) × (List CV) × Int × Int × Bool × (List CV) × Int × Int × Int × Int × Nat × Nat × (List CV) × (List CV)) : St := ⟨[(.sl true (some 4) v.1), (.sl true (some 4) v.2.1), (.v (CV.int .i64 v.2.2.1)), (.v (CV.int .i64 v.2.2.2.1)), .undef, .undef, .undef, .undef, .undef, (.ptr [9] 0 0 0), (.v (CV.bool v.2.2.2.2.1)), .undef, .undef, .undef, .undef, .undef, .undef, .undef, .undef, .undef, .undef, .undef, .undef, .undef, .undef, .undef, .undef, .undef, .undef, .undef, (.sl true (some 4) v.2.2.2.2.2.1), (.v (CV.int .i64 v.2.2.2.2.2.2.1)), (.v (CV.int .i64 v.2.2.2.2.2.2.2.1)), .undef, .undef, .undef, .undef, .undef, .undef, .undef, .undef, .undef, .undef, .undef, .undef, .undef, .undef, .undef, .undef, .undef, .undef, .undef, .undef, .undef, .undef, .undef, .undef, .undef, .undef, .undef, .undef, .undef, .undef, .undef, .undef, .undef, .undef, .undef, .undef, .undef, .undef, .undef, .undef, .undef, .undef, .undef, .undef, .undef, .undef, .undef, .undef, .undef, .undef, .undef, .undef], [([9], (.obj [(.v (CV.int .i64 v.2.2.2.2.2.2.2.2.1)), (.v (CV.int .i64 v.2.2.2.2.2.2.2.2.2.1)), (.osl [2, 9] none 0 v.2.2.2.2.2.2.2.2.2.2.1), (.osl [3, 9] (some 4) 0 v.2.2.2.2.2.2.2.2.2.2.2.1)])), ([2, 9], (.row false none v.2.2.2.2.2.2.2.2.2.2.2.2.1)), ([3, 9], (.row false (some 4) v.2.2.2.2.2.2.2.2.2.2.2.2.2))]⟩
def f5_J1 {X : Type} (R_f9 : f9_R) (R_f10 : f10_R) (R_f19 : f19_R) (R_f18 : f18_R) (R_f20 : f20_R) (k : Nat) (K : Bool → Option X) (rec1 : (List CV) × (List CV) × Int × Int × Bool × (List CV) × Int × Int × Int × Int × Nat × Nat × (List CV) × (List CV) → Option X) (v7_7 : (List CV) × (List CV) × Int × Int × Bool × (List CV) × Int × Int × Int × Int × Nat × Nat × (List CV) × (List CV)) (v21 : Unit) : Option X :=
rec1 (v7_7.1, v7_7.2.1, v7_7.2.2.1, v7_7.2.2.2.1, v7_7.2.2.2.2.1, v7_7.2.2.2.2.2.1, v7_7.2.2.2.2.2.2.1, (IntKind.wrap .i64 (v7_7.2.2.2.2.2.2.2.1 + 1)), v7_7.2.2.2.2.2.2.2.2.1, v7_7.2.2.2.2.2.2.2.2.2.1, v7_7.2.2.2.2.2.2.2.2.2.2.1, v7_7.2.2.2.2.2.2.2.2.2.2.2.1, v7_7.2.2.2.2.2.2.2.2.2.2.2.2.1, v7_7.2.2.2.2.2.2.2.2.2.2.2.2.2)
def f5_T1 {X : Type} (R_f9 : f9_R) (R_f10 : f10_R) (R_f19 : f19_R) (R_f18 : f18_R) (R_f20 : f20_R) (k : Nat) (K : Bool → Option X)   (rec1 : (List CV) × (List CV) × Int × Int × Bool × (List CV) × Int × Int × Int × Int × Nat × Nat × (List CV) × (List CV) → Option X) (v7_7 : (List CV) × (List CV) × Int × Int × Bool × (List CV) × Int × Int × Int × Int × Nat × Nat × (List CV) × (List CV)) : Option X :=
(bif (decide (v7_7.2.2.2.2.2.2.2.1 < v7_7.2.2.2.2.2.2.1)) then
grd (decide (0 ≤ v7_7.2.2.2.2.2.2.2.1)) <|
Option.bind (v7_7.2.2.2.2.2.1)[(Int.toNat v7_7.2.2.2.2.2.2.2.1)]? fun e22 =>
grd (CV.isA 4 e22) <|
grd (CV.isI .i64 (CV.cellD 0 e22)) <|
grd (CV.isI .i64 (CV.cellD 1 e22)) <|
grd (CV.isL none (CV.cellD 2 e22)) <|
grd (CV.isL (some 4) (CV.cellD 3 e22)) <|
(bif ((CV.toI (CV.cellD 0 e22)) == v7_7.2.2.1) then
(bif ((CV.toI (CV.cellD 1 e22)) == v7_7.2.2.2.1) then
(bif v7_7.2.2.2.2.1 then
R_f18 _ (fun u23 =>
(bif u23 then
R_f20 _ (fun u24 =>
R_f18 _ (fun u25 =>
K ((u24 == u25))) (v7_7.1) (v7_7.2.1)) (v7_7.1) (v7_7.2.1)
else
K (false))) ((List.take 1 (List.drop 0 [(CV.agg [(CV.int .i64 v7_7.2.2.2.2.2.2.2.2.1), (CV.int .i64 v7_7.2.2.2.2.2.2.2.2.2.1), (CV.slc none (List.take v7_7.2.2.2.2.2.2.2.2.2.2.1 (List.drop 0 v7_7.2.2.2.2.2.2.2.2.2.2.2.2.1))), (CV.slc (some 4) (List.take v7_7.2.2.2.2.2.2.2.2.2.2.2.1 (List.drop 0 v7_7.2.2.2.2.2.2.2.2.2.2.2.2.2)))])]))) ((List.take 1 (List.drop 0 [(CV.agg [(CV.int .i64 (CV.toI (CV.cellD 0 e22))), (CV.int .i64 (CV.toI (CV.cellD 1 e22))), (CV.slc none (CV.toL (CV.cellD 2 e22))), (CV.slc (some 4) (CV.toL (CV.cellD 3 e22)))])])))
else
K (false))
else
f5_J1 R_f9 R_f10 R_f19 R_f18 R_f20 k K rec1 v7_7 (()))
else
f5_J1 R_f9 R_f10 R_f19 R_f18 R_f20 k K rec1 v7_7 (()))
else
(bif (!v7_7.2.2.2.2.1) then
(bif (v7_7.2.2.2.2.2.2.2.2.2.1 == 0) then
(bif (v7_7.2.2.2.2.2.2.2.2.1 == 0) then
R_f20 _ (fun u26 =>
R_f18 _ (fun u27 =>
K ((u26 == u27))) (v7_7.1) (v7_7.2.1)) (v7_7.1) (v7_7.2.1)
else
K (false))
else
K (false))
else
K (false)))
def f5_L1 {X : Type} (R_f9 : f9_R) (R_f10 : f10_R) (R_f19 : f19_R) (R_f18 : f18_R) (R_f20 : f20_R) (k : Nat) (K : Bool → Option X)  (rec1 : (List CV) × (List CV) × Int × Int × Bool × (List CV) × Int × Int × Int × Int × Nat × Nat × (List CV) × (List CV) → Option X) (v : (List CV) × (List CV) × Int × Int × Bool × (List CV) × Int × Int × Int × Int × Nat × Nat × (List CV) × (List CV)) : Option X := f5_T1 R_f9 R_f10 R_f19 R_f18 R_f20 k K   rec1 v
set_option maxRecDepth 100000 in
theorem f5_L1_ev {X : Type} (R_f9 : f9_R) (R_f10 : f10_R) (R_f19 : f19_R) (R_f18 : f18_R) (R_f20 : f20_R) (hR_f9 : AnsOk Try.prog 9 (f9_cOf R_f9)) (hR_f10 : AnsOk Try.prog 10 (f10_cOf R_f10)) (hR_f19 : AnsOk Try.prog 19 (f19_cOf R_f19)) (hR_f18 : AnsOk Try.prog 18 (f18_cOf R_f18)) (hR_f20 : AnsOk Try.prog 20 (f20_cOf R_f20)) (k : Nat) (K : Out → Option X)  (r1 : St → Option X) (v : (List CV) × (List CV) × Int × Int × Bool × (List CV) × Int × Int × Int × Int × Nat × Nat × (List CV) × (List CV)) : loopB (f5_cx R_f9 R_f10 R_f19 R_f18 R_f20 hR_f9 hR_f10 hR_f19 hR_f18 hR_f20) k [.r, .r, .r, .r, .l, .r, .b] (Try.f5.body.getD .skip) (retK (f5_cx R_f9 R_f10 R_f19 R_f18 R_f20 hR_f9 hR_f10 hR_f19 hR_f18 hR_f20) [] Try.f5.results.toList K) [] r1 (f5_S1 v) = f5_T1 R_f9 R_f10 R_f19 R_f18 R_f20 k (fun u => K (f5_out u))   (fun v => r1 (f5_S1 v)) v := by kernel_rfl
theorem f5_L1_it {X : Type} (R_f9 : f9_R) (R_f10 : f10_R) (R_f19 : f19_R) (R_f18 : f18_R) (R_f20 : f20_R) (hR_f9 : AnsOk Try.prog 9 (f9_cOf R_f9)) (hR_f10 : AnsOk Try.prog 10 (f10_cOf R_f10)) (hR_f19 : AnsOk Try.prog 19 (f19_cOf R_f19)) (hR_f18 : AnsOk Try.prog 18 (f18_cOf R_f18)) (hR_f20 : AnsOk Try.prog 20 (f20_cOf R_f20)) (k : Nat) (K : Out → Option X)  : (fun v => iter (loopB (f5_cx R_f9 R_f10 R_f19 R_f18 R_f20 hR_f9 hR_f10 hR_f19 hR_f18 hR_f20) k [.r, .r, .r, .r, .l, .r, .b] (Try.f5.body.getD .skip) (retK (f5_cx R_f9 R_f10 R_f19 R_f18 R_f20 hR_f9 hR_f10 hR_f19 hR_f18 hR_f20) [] Try.f5.results.toList K) []) k (f5_S1 v)) = iterV (f5_L1 R_f9 R_f10 R_f19 R_f18 R_f20 k (fun u => K (f5_out u)) ) k :=
  iter_map (fun r1 v => (f5_L1_ev R_f9 R_f10 R_f19 R_f18 R_f20 hR_f9 hR_f10 hR_f19 hR_f18 hR_f20 k K  r1 v).trans rfl) k
def f5_T {X : Type} (R_f9 : f9_R) (R_f10 : f10_R) (R_f19 : f19_R) (R_f18 : f18_R) (R_f20 : f20_R) (k : Nat) (K : Bool → Option X) (loop1 : (List CV) × (List CV) × Int × Int × Bool × (List CV) × Int × Int × Int × Int × Nat × Nat × (List CV) × (List CV) → Option X) (x0 : List CV) (x1 : List CV) (x2 : Int) (x3 : Int) : Option X :=
R_f9 _ (fun u2 =>
(bif (!u2) then
K (false)
else
R_f10 _ (fun u5 =>
(bif (!u5) then
K (true)
else
R_f10 _ (fun u6 =>
(bif (!u6) then
K (true)
else
R_f19 _ (fun u7 =>
loop1 (x0, x1, x2, x3, u7.2.2.2.2.1, x0, (Nat.cast ((List.length x0)) : Int), 0, u7.1, u7.2.1, u7.2.2.1, u7.2.2.2.1, u7.2.2.2.2.2.1, u7.2.2.2.2.2.2)) (x0) (x2) (x3))) (x1))) (x0))) 
/-- "outpost/outpostlaw15.TlvFinds" -/
def f5_A (R_f9 : f9_R) (R_f10 : f10_R) (R_f19 : f19_R) (R_f18 : f18_R) (R_f20 : f20_R) (k : Nat) : f5_R := fun X K x0 x1 x2 x3 => f5_T R_f9 R_f10 R_f19 R_f18 R_f20 k K (iterV (f5_L1 R_f9 R_f10 R_f19 R_f18 R_f20 k K) k) x0 x1 x2 x3
set_option maxRecDepth 100000 in
theorem f5_ev' {X : Type} (R_f9 : f9_R) (R_f10 : f10_R) (R_f19 : f19_R) (R_f18 : f18_R) (R_f20 : f20_R) (hR_f9 : AnsOk Try.prog 9 (f9_cOf R_f9)) (hR_f10 : AnsOk Try.prog 10 (f10_cOf R_f10)) (hR_f19 : AnsOk Try.prog 19 (f19_cOf R_f19)) (hR_f18 : AnsOk Try.prog 18 (f18_cOf R_f18)) (hR_f20 : AnsOk Try.prog 20 (f20_cOf R_f20)) (k : Nat) (K : Out → Option X) (x0 : List CV) (x1 : List CV) (x2 : Int) (x3 : Int) : evFn (f5_cx R_f9 R_f10 R_f19 R_f18 R_f20 hR_f9 hR_f10 hR_f19 hR_f18 hR_f20) [] k Try.f5.ntmps Try.f5.results.toList (Try.f5.body.getD .skip) [(.sl true (some 4) x0), (.sl true (some 4) x1), (.v (CV.int .i64 x2)), (.v (CV.int .i64 x3))] [] K = f5_T R_f9 R_f10 R_f19 R_f18 R_f20 k (fun u => K (f5_out u)) (fun v => iter (loopB (f5_cx R_f9 R_f10 R_f19 R_f18 R_f20 hR_f9 hR_f10 hR_f19 hR_f18 hR_f20) k [.r, .r, .r, .r, .l, .r, .b] (Try.f5.body.getD .skip) (retK (f5_cx R_f9 R_f10 R_f19 R_f18 R_f20 hR_f9 hR_f10 hR_f19 hR_f18 hR_f20) [] Try.f5.results.toList K) []) k (f5_S1 v)) x0 x1 x2 x3 := by kernel_rfl
theorem f5_ev {X : Type} (R_f9 : f9_R) (R_f10 : f10_R) (R_f19 : f19_R) (R_f18 : f18_R) (R_f20 : f20_R) (hR_f9 : AnsOk Try.prog 9 (f9_cOf R_f9)) (hR_f10 : AnsOk Try.prog 10 (f10_cOf R_f10)) (hR_f19 : AnsOk Try.prog 19 (f19_cOf R_f19)) (hR_f18 : AnsOk Try.prog 18 (f18_cOf R_f18)) (hR_f20 : AnsOk Try.prog 20 (f20_cOf R_f20)) (k : Nat) (K : Out → Option X) (x0 : List CV) (x1 : List CV) (x2 : Int) (x3 : Int) : evFn (f5_cx R_f9 R_f10 R_f19 R_f18 R_f20 hR_f9 hR_f10 hR_f19 hR_f18 hR_f20) [] k Try.f5.ntmps Try.f5.results.toList (Try.f5.body.getD .skip) [(.sl true (some 4) x0), (.sl true (some 4) x1), (.v (CV.int .i64 x2)), (.v (CV.int .i64 x3))] [] K = f5_A R_f9 R_f10 R_f19 R_f18 R_f20 k X (fun u => K (f5_out u)) x0 x1 x2 x3 := (f5_ev' R_f9 R_f10 R_f19 R_f18 R_f20 hR_f9 hR_f10 hR_f19 hR_f18 hR_f20 k K x0 x1 x2 x3).trans (by rw [f5_L1_it R_f9 R_f10 R_f19 R_f18 R_f20 hR_f9 hR_f10 hR_f19 hR_f18 hR_f20 k K]; rfl)
theorem f5_okA (R_f9 : f9_R) (R_f10 : f10_R) (R_f19 : f19_R) (R_f18 : f18_R) (R_f20 : f20_R) (hR_f9 : AnsOk Try.prog 9 (f9_cOf R_f9)) (hR_f10 : AnsOk Try.prog 10 (f10_cOf R_f10)) (hR_f19 : AnsOk Try.prog 19 (f19_cOf R_f19)) (hR_f18 : AnsOk Try.prog 18 (f18_cOf R_f18)) (hR_f20 : AnsOk Try.prog 20 (f20_cOf R_f20)) (k : Nat) : AnsOk Try.prog 5 (f5_cOf (f5_A R_f9 R_f10 R_f19 R_f18 R_f20 k)) := by
  intro X xs ns K x h
  unfold f5_cOf at h ⊢
  split at h
  · exact ans_main S (f5_Cok R_f9 R_f10 R_f19 R_f18 R_f20 hR_f9 hR_f10 hR_f19 hR_f18 hR_f20) Try.func5 (ent_of Try.func5 (by kernel_rfl) rfl) rfl (fun X K => f5_ev R_f9 R_f10 R_f19 R_f18 R_f20 hR_f9 hR_f10 hR_f19 hR_f18 hR_f20 k K _ _ _ _) h
  · cases h
/-- "outpost/outpostlaw15.TlvFinds" -/
def f5 {X : Type} (k : Nat) (K : Bool → Option X) (x0 : List CV) (x1 : List CV) (x2 : Int) (x3 : Int) : Option X := f5_A (fun X => @f9 X k) (fun X => @f10 X k) (fun X => @f19 X k) (fun X => @f18 X k) (fun X => @f20 X k) k X K x0 x1 x2 x3
theorem f5_ok (k : Nat) : AnsOk Try.prog 5 (f5_cOf (fun X => @f5 X k)) := f5_okA (fun X => @f9 X k) (fun X => @f10 X k) (fun X => @f19 X k) (fun X => @f18 X k) (fun X => @f20 X k) (f9_ok k) (f10_ok k) (f19_ok k) (f18_ok k) (f20_ok k) k
abbrev f6_R : Type 1 := (X : Type) → (Bool → Option X) → (List CV) → (List CV) → Option X
def f6_out (u : Bool) : Out := ⟨(.v (CV.bool u)), []⟩
def f6_cOf (R : f6_R) : FnC := fun X xs ns K => match xs, ns with
  | [(.sl true (some 4) x0), (.sl true none x1)], [] => R X (fun u => K (f6_out u)) x0 x1
  | _, _ => none
def f6_plan : Nat → Option (List Nat × List Wk)
  | 0 => some ([0, 1], [])
  | 1 => some ([0, 1], [])
  | 2 => some ([], [])
  | 3 => some ([0, 1], [])
  | 4 => some ([], [])
  | 5 => some ([0, 1], [])
  | 6 => some ([0, 1, 5, 6], [])
  | 7 => some ([0, 1, 5], [])
  | 8 => some ([0, 1, 7, 8], [])
  | 9 => some ([], [])
  | 10 => some ([1], [])
  | 11 => some ([1, 9, 10], [])
  | 12 => some ([9], [])
  | 13 => some ([1, 9], [])
  | 14 => some ([1, 9, 11, 12], [])
  | 15 => some ([1, 9, 11, 12, 13, 14], [])
  | _ => none
def f6_C (R_f9 : f9_R) (R_f10 : f10_R) (R_f11 : f11_R) (R_f16 : f16_R) (R_f18 : f18_R) (R_f13 : f13_R) : Fns := (orC 9 (f9_cOf R_f9) (orC 10 (f10_cOf R_f10) (orC 11 (f11_cOf R_f11) (orC 13 (f13_cOf R_f13) (orC 16 (f16_cOf R_f16) (orC 18 (f18_cOf R_f18) noC))))))
theorem f6_Cok (R_f9 : f9_R) (R_f10 : f10_R) (R_f11 : f11_R) (R_f16 : f16_R) (R_f18 : f18_R) (R_f13 : f13_R) (hR_f9 : AnsOk Try.prog 9 (f9_cOf R_f9)) (hR_f10 : AnsOk Try.prog 10 (f10_cOf R_f10)) (hR_f11 : AnsOk Try.prog 11 (f11_cOf R_f11)) (hR_f16 : AnsOk Try.prog 16 (f16_cOf R_f16)) (hR_f18 : AnsOk Try.prog 18 (f18_cOf R_f18)) (hR_f13 : AnsOk Try.prog 13 (f13_cOf R_f13)) : CsOk Try.prog (f6_C R_f9 R_f10 R_f11 R_f16 R_f18 R_f13) := (orC_ok hR_f9 (orC_ok hR_f10 (orC_ok hR_f11 (orC_ok hR_f13 (orC_ok hR_f16 (orC_ok hR_f18 noC_ok))))))
def f6_cx (R_f9 : f9_R) (R_f10 : f10_R) (R_f11 : f11_R) (R_f16 : f16_R) (R_f18 : f18_R) (R_f13 : f13_R) (hR_f9 : AnsOk Try.prog 9 (f9_cOf R_f9)) (hR_f10 : AnsOk Try.prog 10 (f10_cOf R_f10)) (hR_f11 : AnsOk Try.prog 11 (f11_cOf R_f11)) (hR_f16 : AnsOk Try.prog 16 (f16_cOf R_f16)) (hR_f18 : AnsOk Try.prog 18 (f18_cOf R_f18)) (hR_f13 : AnsOk Try.prog 13 (f13_cOf R_f13)) : Cx := mkCx (tabOf rows) (f6_C R_f9 R_f10 R_f11 R_f16 R_f18 R_f13) md (cmpIn cmps) f6_plan (f6_Cok R_f9 R_f10 R_f11 R_f16 R_f18 R_f13 hR_f9 hR_f10 hR_f11 hR_f16 hR_f18 hR_f13)
def f6_J1 {X : Type} (R_f9 : f9_R) (R_f10 : f10_R) (R_f11 : f11_R) (R_f16 : f16_R) (R_f18 : f18_R) (R_f13 : f13_R) (k : Nat) (K : Bool → Option X) (x1 : List CV) (v8 : Unit) : Option X :=
R_f16 _ (fun u9 =>
(bif (u9.2.1 != 0) then
K (((Nat.cast (u9.1) : Int) == 0))
else
R_f11 _ (fun u10 =>
R_f16 _ (fun u11 =>
R_f13 _ (fun u12 =>
(bif u12 then
(bif (u10.2.1 == 0) then
(bif (u11.2.1 == 0) then
(bif (decide ((Nat.cast (u10.1) : Int) ≤ (Nat.cast ((List.length x1)) : Int))) then
R_f18 _ (fun u13 =>
K (u13)) ((List.take u11.1 (List.drop 0 u11.2.2))) ((List.take u9.1 (List.drop 0 u9.2.2)))
else
K (false))
else
K (false))
else
K (false))
else
K (false))) ((List.take u9.1 (List.drop 0 u9.2.2)))) ((List.take u10.1 (List.drop 0 u10.2.2)))) ((List.take u9.1 (List.drop 0 u9.2.2))))) (x1)
def f6_T {X : Type} (R_f9 : f9_R) (R_f10 : f10_R) (R_f11 : f11_R) (R_f16 : f16_R) (R_f18 : f18_R) (R_f13 : f13_R) (k : Nat) (K : Bool → Option X)  (x0 : List CV) (x1 : List CV) : Option X :=
R_f9 _ (fun u2 =>
(bif (!u2) then
K (false)
else
R_f10 _ (fun u4 =>
(bif (!u4) then
K (true)
else
(bif (decide ((Nat.cast ((List.length x1)) : Int) > 4000)) then
K (true)
else
R_f11 _ (fun u14 =>
(bif (u14.2.1 == 0) then
R_f16 _ (fun u15 =>
(bif (u15.2.1 != 0) then
K (false)
else
R_f18 _ (fun u16 =>
(bif (!u16) then
K (false)
else
f6_J1 R_f9 R_f10 R_f11 R_f16 R_f18 R_f13 k K x1 (()))) ((List.take u15.1 (List.drop 0 u15.2.2))) (x0))) ((List.take u14.1 (List.drop 0 u14.2.2)))
else
f6_J1 R_f9 R_f10 R_f11 R_f16 R_f18 R_f13 k K x1 (()))) (x0)))) (x0))) 
/-- "outpost/outpostlaw15.TlvBack" -/
def f6_A (R_f9 : f9_R) (R_f10 : f10_R) (R_f11 : f11_R) (R_f16 : f16_R) (R_f18 : f18_R) (R_f13 : f13_R) (k : Nat) : f6_R := fun X K x0 x1 => f6_T R_f9 R_f10 R_f11 R_f16 R_f18 R_f13 k K  x0 x1
set_option maxRecDepth 100000 in
theorem f6_ev' {X : Type} (R_f9 : f9_R) (R_f10 : f10_R) (R_f11 : f11_R) (R_f16 : f16_R) (R_f18 : f18_R) (R_f13 : f13_R) (hR_f9 : AnsOk Try.prog 9 (f9_cOf R_f9)) (hR_f10 : AnsOk Try.prog 10 (f10_cOf R_f10)) (hR_f11 : AnsOk Try.prog 11 (f11_cOf R_f11)) (hR_f16 : AnsOk Try.prog 16 (f16_cOf R_f16)) (hR_f18 : AnsOk Try.prog 18 (f18_cOf R_f18)) (hR_f13 : AnsOk Try.prog 13 (f13_cOf R_f13)) (k : Nat) (K : Out → Option X) (x0 : List CV) (x1 : List CV) : evFn (f6_cx R_f9 R_f10 R_f11 R_f16 R_f18 R_f13 hR_f9 hR_f10 hR_f11 hR_f16 hR_f18 hR_f13) [] k Try.f6.ntmps Try.f6.results.toList (Try.f6.body.getD .skip) [(.sl true (some 4) x0), (.sl true none x1)] [] K = f6_T R_f9 R_f10 R_f11 R_f16 R_f18 R_f13 k (fun u => K (f6_out u)) x0 x1 := by kernel_rfl
theorem f6_ev {X : Type} (R_f9 : f9_R) (R_f10 : f10_R) (R_f11 : f11_R) (R_f16 : f16_R) (R_f18 : f18_R) (R_f13 : f13_R) (hR_f9 : AnsOk Try.prog 9 (f9_cOf R_f9)) (hR_f10 : AnsOk Try.prog 10 (f10_cOf R_f10)) (hR_f11 : AnsOk Try.prog 11 (f11_cOf R_f11)) (hR_f16 : AnsOk Try.prog 16 (f16_cOf R_f16)) (hR_f18 : AnsOk Try.prog 18 (f18_cOf R_f18)) (hR_f13 : AnsOk Try.prog 13 (f13_cOf R_f13)) (k : Nat) (K : Out → Option X) (x0 : List CV) (x1 : List CV) : evFn (f6_cx R_f9 R_f10 R_f11 R_f16 R_f18 R_f13 hR_f9 hR_f10 hR_f11 hR_f16 hR_f18 hR_f13) [] k Try.f6.ntmps Try.f6.results.toList (Try.f6.body.getD .skip) [(.sl true (some 4) x0), (.sl true none x1)] [] K = f6_A R_f9 R_f10 R_f11 R_f16 R_f18 R_f13 k X (fun u => K (f6_out u)) x0 x1 := (f6_ev' R_f9 R_f10 R_f11 R_f16 R_f18 R_f13 hR_f9 hR_f10 hR_f11 hR_f16 hR_f18 hR_f13 k K x0 x1).trans rfl
theorem f6_okA (R_f9 : f9_R) (R_f10 : f10_R) (R_f11 : f11_R) (R_f16 : f16_R) (R_f18 : f18_R) (R_f13 : f13_R) (hR_f9 : AnsOk Try.prog 9 (f9_cOf R_f9)) (hR_f10 : AnsOk Try.prog 10 (f10_cOf R_f10)) (hR_f11 : AnsOk Try.prog 11 (f11_cOf R_f11)) (hR_f16 : AnsOk Try.prog 16 (f16_cOf R_f16)) (hR_f18 : AnsOk Try.prog 18 (f18_cOf R_f18)) (hR_f13 : AnsOk Try.prog 13 (f13_cOf R_f13)) (k : Nat) : AnsOk Try.prog 6 (f6_cOf (f6_A R_f9 R_f10 R_f11 R_f16 R_f18 R_f13 k)) := by
  intro X xs ns K x h
  unfold f6_cOf at h ⊢
  split at h
  · exact ans_main S (f6_Cok R_f9 R_f10 R_f11 R_f16 R_f18 R_f13 hR_f9 hR_f10 hR_f11 hR_f16 hR_f18 hR_f13) Try.func6 (ent_of Try.func6 (by kernel_rfl) rfl) rfl (fun X K => f6_ev R_f9 R_f10 R_f11 R_f16 R_f18 R_f13 hR_f9 hR_f10 hR_f11 hR_f16 hR_f18 hR_f13 k K _ _) h
  · cases h
/-- "outpost/outpostlaw15.TlvBack" -/
def f6 {X : Type} (k : Nat) (K : Bool → Option X) (x0 : List CV) (x1 : List CV) : Option X := f6_A (fun X => @f9 X k) (fun X => @f10 X k) (fun X => @f11 X k) (fun X => @f16 X k) (fun X => @f18 X k) (fun X => @f13 X k) k X K x0 x1
theorem f6_ok (k : Nat) : AnsOk Try.prog 6 (f6_cOf (fun X => @f6 X k)) := f6_okA (fun X => @f9 X k) (fun X => @f10 X k) (fun X => @f11 X k) (fun X => @f16 X k) (fun X => @f18 X k) (fun X => @f13 X k) (f9_ok k) (f10_ok k) (f11_ok k) (f16_ok k) (f18_ok k) (f13_ok k) k
abbrev f7_R : Type 1 := (X : Type) → (Bool → Option X) → Int → (List CV) → Int → Option X
def f7_out (u : Bool) : Out := ⟨(.v (CV.bool u)), []⟩
def f7_cOf (R : f7_R) : FnC := fun X xs ns K => match xs, ns with
  | [(.v (CV.int .i64 x0)), (.sl true none x1), (.v (CV.int .i64 x2))], [] => R X (fun u => K (f7_out u)) x0 x1 x2
  | _, _ => none
def f7_plan : Nat → Option (List Nat × List Wk)
  | 0 => some ([0, 1, 2], [])
  | 1 => some ([0, 1, 2], [])
  | 2 => some ([], [])
  | 3 => some ([0, 1, 2], [])
  | 4 => some ([], [])
  | 5 => some ([0, 1, 2], [])
  | 6 => some ([0, 1, 2], [])
  | 7 => some ([0, 1, 2], [])
  | 8 => some ([0, 1, 2, 7], [])
  | 9 => some ([0, 1, 2, 7, 8], [])
  | 10 => some ([0, 1, 2, 7, 8], [])
  | 11 => some ([0, 1, 2, 7, 8], [])
  | 12 => some ([0, 1, 7], [])
  | 13 => some ([0, 1, 7], [])
  | 14 => some ([0, 1, 7, 9, 10], [])
  | 15 => some ([7, 9, 10, 11, 12], [])
  | 16 => some ([7, 9, 10, 11, 12, 13, 14], [])
  | _ => none
def f7_C (R_f9 : f9_R) (R_f16 : f16_R) (R_f11 : f11_R) (R_f18 : f18_R) : Fns := (orC 9 (f9_cOf R_f9) (orC 11 (f11_cOf R_f11) (orC 16 (f16_cOf R_f16) (orC 18 (f18_cOf R_f18) noC))))
theorem f7_Cok (R_f9 : f9_R) (R_f16 : f16_R) (R_f11 : f11_R) (R_f18 : f18_R) (hR_f9 : AnsOk Try.prog 9 (f9_cOf R_f9)) (hR_f16 : AnsOk Try.prog 16 (f16_cOf R_f16)) (hR_f11 : AnsOk Try.prog 11 (f11_cOf R_f11)) (hR_f18 : AnsOk Try.prog 18 (f18_cOf R_f18)) : CsOk Try.prog (f7_C R_f9 R_f16 R_f11 R_f18) := (orC_ok hR_f9 (orC_ok hR_f11 (orC_ok hR_f16 (orC_ok hR_f18 noC_ok))))
def f7_cx (R_f9 : f9_R) (R_f16 : f16_R) (R_f11 : f11_R) (R_f18 : f18_R) (hR_f9 : AnsOk Try.prog 9 (f9_cOf R_f9)) (hR_f16 : AnsOk Try.prog 16 (f16_cOf R_f16)) (hR_f11 : AnsOk Try.prog 11 (f11_cOf R_f11)) (hR_f18 : AnsOk Try.prog 18 (f18_cOf R_f18)) : Cx := mkCx (tabOf rows) (f7_C R_f9 R_f16 R_f11 R_f18) md (cmpIn cmps) f7_plan (f7_Cok R_f9 R_f16 R_f11 R_f18 hR_f9 hR_f16 hR_f11 hR_f18)
def f7_S1 (v : Int × (List CV) × Int × Nat × Int × (List CV)) : St := ⟨[(.v (CV.int .i64 v.1)), (.sl true none v.2.1), (.v (CV.int .i64 v.2.2.1)), .undef, .undef, .undef, .undef, (.osl [7] none 0 v.2.2.2.1), (.v (CV.int .i64 v.2.2.2.2.1)), .undef, .undef, .undef, .undef, .undef, .undef, .undef, .undef, .undef, .undef, .undef, .undef, .undef, .undef, .undef, .undef, .undef, .undef, .undef, .undef, .undef, .undef, .undef, .undef, .undef, .undef, .undef, .undef, .undef, .undef, .undef, .undef, .undef, .undef, .undef, .undef, .undef, .undef, .undef, .undef, .undef, .undef, .undef, .undef, .undef, .undef, .undef, .undef, .undef, .undef, .undef, .undef, .undef, .undef, .undef, .undef, .undef, .undef, .undef, .undef, .undef, .undef, .undef, .undef, .undef, .undef, .undef, .undef, .undef, .undef, .undef, .undef, .undef, .undef, .undef, .undef, .undef, .undef, .undef, .undef, .undef, .undef, .undef], [([7], (.row false none v.2.2.2.2.2))]⟩
def f7_T1 {X : Type} (R_f9 : f9_R) (R_f16 : f16_R) (R_f11 : f11_R) (R_f18 : f18_R) (k : Nat) (K : Bool → Option X)   (rec1 : Int × (List CV) × Int × Nat × Int × (List CV) → Option X) (v9_2 : Int × (List CV) × Int × Nat × Int × (List CV)) : Option X :=
(bif (decide (v9_2.2.2.2.2.1 < v9_2.2.2.1)) then
grd (decide ((v9_2.2.2.2.1 + (List.length (List.take 1 (List.drop 0 [(CV.int .u8 0)])))) * 1 ≤ 140737488355328)) <|
rec1 (v9_2.1, v9_2.2.1, v9_2.2.2.1, (v9_2.2.2.2.1 + (List.length (List.take 1 (List.drop 0 [(CV.int .u8 0)])))), (IntKind.wrap .i64 (v9_2.2.2.2.2.1 + 1)), ((List.take v9_2.2.2.2.1 v9_2.2.2.2.2.2) ++ (List.take 1 (List.drop 0 [(CV.int .u8 0)]))))
else
grd (decide ((v9_2.2.2.2.1 + (List.length (List.take 1 (List.drop 0 [(CV.int .u8 (IntKind.wrap .u8 (Nat.cast ((List.length v9_2.2.1)) : Int)))])))) * 1 ≤ 140737488355328)) <|
grd (decide (((v9_2.2.2.2.1 + (List.length (List.take 1 (List.drop 0 [(CV.int .u8 (IntKind.wrap .u8 (Nat.cast ((List.length v9_2.2.1)) : Int)))])))) + (List.length v9_2.2.1)) * 1 ≤ 140737488355328)) <|
R_f16 _ (fun u4 =>
R_f11 _ (fun u5 =>
R_f16 _ (fun u6 =>
(bif (u4.2.1 == 0) then
(bif (u5.2.1 == 0) then
(bif (u6.2.1 == 0) then
R_f18 _ (fun u7 =>
(bif u7 then
K ((decide ((Nat.cast (u5.1) : Int) ≤ (Nat.cast (((v9_2.2.2.2.1 + (List.length (List.take 1 (List.drop 0 [(CV.int .u8 (IntKind.wrap .u8 (Nat.cast ((List.length v9_2.2.1)) : Int)))])))) + (List.length v9_2.2.1))) : Int))))
else
K (false))) ((List.take u4.1 (List.drop 0 u4.2.2))) ((List.take u6.1 (List.drop 0 u6.2.2)))
else
K (false))
else
K (false))
else
K (false))) ((List.take u5.1 (List.drop 0 u5.2.2)))) ((List.take 1 (List.drop 0 [(CV.agg [(CV.int .i64 3), (CV.int .i64 v9_2.1), (CV.slc none v9_2.2.1), (CV.slc (some 4) [])])])))) ((List.take ((v9_2.2.2.2.1 + (List.length (List.take 1 (List.drop 0 [(CV.int .u8 (IntKind.wrap .u8 (Nat.cast ((List.length v9_2.2.1)) : Int)))])))) + (List.length v9_2.2.1)) (List.drop 0 ((List.take (v9_2.2.2.2.1 + (List.length (List.take 1 (List.drop 0 [(CV.int .u8 (IntKind.wrap .u8 (Nat.cast ((List.length v9_2.2.1)) : Int)))])))) ((List.take v9_2.2.2.2.1 v9_2.2.2.2.2.2) ++ (List.take 1 (List.drop 0 [(CV.int .u8 (IntKind.wrap .u8 (Nat.cast ((List.length v9_2.2.1)) : Int)))])))) ++ v9_2.2.1)))))
def f7_L1 {X : Type} (R_f9 : f9_R) (R_f16 : f16_R) (R_f11 : f11_R) (R_f18 : f18_R) (k : Nat) (K : Bool → Option X)  (rec1 : Int × (List CV) × Int × Nat × Int × (List CV) → Option X) (v : Int × (List CV) × Int × Nat × Int × (List CV)) : Option X := f7_T1 R_f9 R_f16 R_f11 R_f18 k K   rec1 v
set_option maxRecDepth 100000 in
theorem f7_L1_ev {X : Type} (R_f9 : f9_R) (R_f16 : f16_R) (R_f11 : f11_R) (R_f18 : f18_R) (hR_f9 : AnsOk Try.prog 9 (f9_cOf R_f9)) (hR_f16 : AnsOk Try.prog 16 (f16_cOf R_f16)) (hR_f11 : AnsOk Try.prog 11 (f11_cOf R_f11)) (hR_f18 : AnsOk Try.prog 18 (f18_cOf R_f18)) (k : Nat) (K : Out → Option X)  (r1 : St → Option X) (v : Int × (List CV) × Int × Nat × Int × (List CV)) : loopB (f7_cx R_f9 R_f16 R_f11 R_f18 hR_f9 hR_f16 hR_f11 hR_f18) k [.r, .r, .r, .r, .r, .r, .l, .r, .b] (Try.f7.body.getD .skip) (retK (f7_cx R_f9 R_f16 R_f11 R_f18 hR_f9 hR_f16 hR_f11 hR_f18) [] Try.f7.results.toList K) [] r1 (f7_S1 v) = f7_T1 R_f9 R_f16 R_f11 R_f18 k (fun u => K (f7_out u))   (fun v => r1 (f7_S1 v)) v := by kernel_rfl
theorem f7_L1_it {X : Type} (R_f9 : f9_R) (R_f16 : f16_R) (R_f11 : f11_R) (R_f18 : f18_R) (hR_f9 : AnsOk Try.prog 9 (f9_cOf R_f9)) (hR_f16 : AnsOk Try.prog 16 (f16_cOf R_f16)) (hR_f11 : AnsOk Try.prog 11 (f11_cOf R_f11)) (hR_f18 : AnsOk Try.prog 18 (f18_cOf R_f18)) (k : Nat) (K : Out → Option X)  : (fun v => iter (loopB (f7_cx R_f9 R_f16 R_f11 R_f18 hR_f9 hR_f16 hR_f11 hR_f18) k [.r, .r, .r, .r, .r, .r, .l, .r, .b] (Try.f7.body.getD .skip) (retK (f7_cx R_f9 R_f16 R_f11 R_f18 hR_f9 hR_f16 hR_f11 hR_f18) [] Try.f7.results.toList K) []) k (f7_S1 v)) = iterV (f7_L1 R_f9 R_f16 R_f11 R_f18 k (fun u => K (f7_out u)) ) k :=
  iter_map (fun r1 v => (f7_L1_ev R_f9 R_f16 R_f11 R_f18 hR_f9 hR_f16 hR_f11 hR_f18 k K  r1 v).trans rfl) k
def f7_T {X : Type} (R_f9 : f9_R) (R_f16 : f16_R) (R_f11 : f11_R) (R_f18 : f18_R) (k : Nat) (K : Bool → Option X) (loop1 : Int × (List CV) × Int × Nat × Int × (List CV) → Option X) (x0 : Int) (x1 : List CV) (x2 : Int) : Option X :=
R_f9 _ (fun u2 =>
(bif (!u2) then
K (false)
else
(bif (decide ((Nat.cast ((List.length x1)) : Int) > 200)) then
K (true)
else
loop1 ((bop .and .i64 x0 255), x1, (IntKind.wrap .i64 (1 + (Int.tmod (bop .and .i64 x2 1023) 3))), 3, 1, [(CV.int .u8 (IntKind.wrap .u8 (bop .or .i64 (bop .or .i64 224 (IntKind.wrap .i64 ((IntKind.wrap .i64 (1 + (Int.tmod (bop .and .i64 x2 1023) 3))) * 2 ^ 3))) (bop .and .i64 (bop .and .i64 x0 255) 7)))), (CV.int .u8 0), (CV.int .u8 (IntKind.wrap .u8 (bop .and .i64 x0 255)))])))) 
/-- "outpost/outpostlaw15.TlvWide" -/
def f7_A (R_f9 : f9_R) (R_f16 : f16_R) (R_f11 : f11_R) (R_f18 : f18_R) (k : Nat) : f7_R := fun X K x0 x1 x2 => f7_T R_f9 R_f16 R_f11 R_f18 k K (iterV (f7_L1 R_f9 R_f16 R_f11 R_f18 k K) k) x0 x1 x2
set_option maxRecDepth 100000 in
theorem f7_ev' {X : Type} (R_f9 : f9_R) (R_f16 : f16_R) (R_f11 : f11_R) (R_f18 : f18_R) (hR_f9 : AnsOk Try.prog 9 (f9_cOf R_f9)) (hR_f16 : AnsOk Try.prog 16 (f16_cOf R_f16)) (hR_f11 : AnsOk Try.prog 11 (f11_cOf R_f11)) (hR_f18 : AnsOk Try.prog 18 (f18_cOf R_f18)) (k : Nat) (K : Out → Option X) (x0 : Int) (x1 : List CV) (x2 : Int) : evFn (f7_cx R_f9 R_f16 R_f11 R_f18 hR_f9 hR_f16 hR_f11 hR_f18) [] k Try.f7.ntmps Try.f7.results.toList (Try.f7.body.getD .skip) [(.v (CV.int .i64 x0)), (.sl true none x1), (.v (CV.int .i64 x2))] [] K = f7_T R_f9 R_f16 R_f11 R_f18 k (fun u => K (f7_out u)) (fun v => iter (loopB (f7_cx R_f9 R_f16 R_f11 R_f18 hR_f9 hR_f16 hR_f11 hR_f18) k [.r, .r, .r, .r, .r, .r, .l, .r, .b] (Try.f7.body.getD .skip) (retK (f7_cx R_f9 R_f16 R_f11 R_f18 hR_f9 hR_f16 hR_f11 hR_f18) [] Try.f7.results.toList K) []) k (f7_S1 v)) x0 x1 x2 := by kernel_rfl
theorem f7_ev {X : Type} (R_f9 : f9_R) (R_f16 : f16_R) (R_f11 : f11_R) (R_f18 : f18_R) (hR_f9 : AnsOk Try.prog 9 (f9_cOf R_f9)) (hR_f16 : AnsOk Try.prog 16 (f16_cOf R_f16)) (hR_f11 : AnsOk Try.prog 11 (f11_cOf R_f11)) (hR_f18 : AnsOk Try.prog 18 (f18_cOf R_f18)) (k : Nat) (K : Out → Option X) (x0 : Int) (x1 : List CV) (x2 : Int) : evFn (f7_cx R_f9 R_f16 R_f11 R_f18 hR_f9 hR_f16 hR_f11 hR_f18) [] k Try.f7.ntmps Try.f7.results.toList (Try.f7.body.getD .skip) [(.v (CV.int .i64 x0)), (.sl true none x1), (.v (CV.int .i64 x2))] [] K = f7_A R_f9 R_f16 R_f11 R_f18 k X (fun u => K (f7_out u)) x0 x1 x2 := (f7_ev' R_f9 R_f16 R_f11 R_f18 hR_f9 hR_f16 hR_f11 hR_f18 k K x0 x1 x2).trans (by rw [f7_L1_it R_f9 R_f16 R_f11 R_f18 hR_f9 hR_f16 hR_f11 hR_f18 k K]; rfl)
theorem f7_okA (R_f9 : f9_R) (R_f16 : f16_R) (R_f11 : f11_R) (R_f18 : f18_R) (hR_f9 : AnsOk Try.prog 9 (f9_cOf R_f9)) (hR_f16 : AnsOk Try.prog 16 (f16_cOf R_f16)) (hR_f11 : AnsOk Try.prog 11 (f11_cOf R_f11)) (hR_f18 : AnsOk Try.prog 18 (f18_cOf R_f18)) (k : Nat) : AnsOk Try.prog 7 (f7_cOf (f7_A R_f9 R_f16 R_f11 R_f18 k)) := by
  intro X xs ns K x h
  unfold f7_cOf at h ⊢
  split at h
  · exact ans_main S (f7_Cok R_f9 R_f16 R_f11 R_f18 hR_f9 hR_f16 hR_f11 hR_f18) Try.func7 (ent_of Try.func7 (by kernel_rfl) rfl) rfl (fun X K => f7_ev R_f9 R_f16 R_f11 R_f18 hR_f9 hR_f16 hR_f11 hR_f18 k K _ _ _) h
  · cases h
/-- "outpost/outpostlaw15.TlvWide" -/
def f7 {X : Type} (k : Nat) (K : Bool → Option X) (x0 : Int) (x1 : List CV) (x2 : Int) : Option X := f7_A (fun X => @f9 X k) (fun X => @f16 X k) (fun X => @f11 X k) (fun X => @f18 X k) k X K x0 x1 x2
theorem f7_ok (k : Nat) : AnsOk Try.prog 7 (f7_cOf (fun X => @f7 X k)) := f7_okA (fun X => @f9 X k) (fun X => @f16 X k) (fun X => @f11 X k) (fun X => @f18 X k) (f9_ok k) (f16_ok k) (f11_ok k) (f18_ok k) k
abbrev f8_R : Type 1 := (X : Type) → (Bool → Option X) → (List CV) → (List CV) → Option X
def f8_out (u : Bool) : Out := ⟨(.v (CV.bool u)), []⟩
def f8_cOf (R : f8_R) : FnC := fun X xs ns K => match xs, ns with
  | [(.sl true (some 4) x0), (.sl true (some 4) x1)], [] => R X (fun u => K (f8_out u)) x0 x1
  | _, _ => none
def f8_plan : Nat → Option (List Nat × List Wk)
  | 0 => some ([0, 1], [])
  | 1 => some ([0, 1], [])
  | 2 => some ([], [])
  | 3 => some ([0, 1], [])
  | 4 => some ([], [])
  | 5 => some ([0, 1], [])
  | 6 => some ([0, 1, 5, 6], [])
  | 7 => some ([0, 1, 5, 6, 7, 8], [])
  | 8 => some ([], [])
  | 9 => some ([0, 1, 5, 7], [])
  | 10 => some ([5, 7, 9], [])
  | 11 => some ([5, 7, 9, 10, 11], [])
  | 12 => some ([11], [])
  | 13 => some ([5, 7, 9, 10, 11], [])
  | 14 => some ([5, 7, 9, 10, 11, 12, 13], [])
  | _ => none
def f8_C (R_f9 : f9_R) (R_f10 : f10_R) (R_f11 : f11_R) (R_f21 : f21_R) (R_f22 : f22_R) (R_f16 : f16_R) (R_f15 : f15_R) (R_f20 : f20_R) : Fns := (orC 9 (f9_cOf R_f9) (orC 10 (f10_cOf R_f10) (orC 11 (f11_cOf R_f11) (orC 15 (f15_cOf R_f15) (orC 16 (f16_cOf R_f16) (orC 20 (f20_cOf R_f20) (orC 21 (f21_cOf R_f21) (orC 22 (f22_cOf R_f22) noC))))))))
theorem f8_Cok (R_f9 : f9_R) (R_f10 : f10_R) (R_f11 : f11_R) (R_f21 : f21_R) (R_f22 : f22_R) (R_f16 : f16_R) (R_f15 : f15_R) (R_f20 : f20_R) (hR_f9 : AnsOk Try.prog 9 (f9_cOf R_f9)) (hR_f10 : AnsOk Try.prog 10 (f10_cOf R_f10)) (hR_f11 : AnsOk Try.prog 11 (f11_cOf R_f11)) (hR_f21 : AnsOk Try.prog 21 (f21_cOf R_f21)) (hR_f22 : AnsOk Try.prog 22 (f22_cOf R_f22)) (hR_f16 : AnsOk Try.prog 16 (f16_cOf R_f16)) (hR_f15 : AnsOk Try.prog 15 (f15_cOf R_f15)) (hR_f20 : AnsOk Try.prog 20 (f20_cOf R_f20)) : CsOk Try.prog (f8_C R_f9 R_f10 R_f11 R_f21 R_f22 R_f16 R_f15 R_f20) := (orC_ok hR_f9 (orC_ok hR_f10 (orC_ok hR_f11 (orC_ok hR_f15 (orC_ok hR_f16 (orC_ok hR_f20 (orC_ok hR_f21 (orC_ok hR_f22 noC_ok))))))))
def f8_cx (R_f9 : f9_R) (R_f10 : f10_R) (R_f11 : f11_R) (R_f21 : f21_R) (R_f22 : f22_R) (R_f16 : f16_R) (R_f15 : f15_R) (R_f20 : f20_R) (hR_f9 : AnsOk Try.prog 9 (f9_cOf R_f9)) (hR_f10 : AnsOk Try.prog 10 (f10_cOf R_f10)) (hR_f11 : AnsOk Try.prog 11 (f11_cOf R_f11)) (hR_f21 : AnsOk Try.prog 21 (f21_cOf R_f21)) (hR_f22 : AnsOk Try.prog 22 (f22_cOf R_f22)) (hR_f16 : AnsOk Try.prog 16 (f16_cOf R_f16)) (hR_f15 : AnsOk Try.prog 15 (f15_cOf R_f15)) (hR_f20 : AnsOk Try.prog 20 (f20_cOf R_f20)) : Cx := mkCx (tabOf rows) (f8_C R_f9 R_f10 R_f11 R_f21 R_f22 R_f16 R_f15 R_f20) md (cmpIn cmps) f8_plan (f8_Cok R_f9 R_f10 R_f11 R_f21 R_f22 R_f16 R_f15 R_f20 hR_f9 hR_f10 hR_f11 hR_f21 hR_f22 hR_f16 hR_f15 hR_f20)
def f8_T {X : Type} (R_f9 : f9_R) (R_f10 : f10_R) (R_f11 : f11_R) (R_f21 : f21_R) (R_f22 : f22_R) (R_f16 : f16_R) (R_f15 : f15_R) (R_f20 : f20_R) (k : Nat) (K : Bool → Option X)  (x0 : List CV) (x1 : List CV) : Option X :=
R_f9 _ (fun u2 =>
(bif (!u2) then
K (false)
else
R_f10 _ (fun u5 =>
(bif (!u5) then
K (true)
else
R_f10 _ (fun u6 =>
(bif (!u6) then
K (true)
else
R_f11 _ (fun u7 =>
R_f11 _ (fun u8 =>
(bif (u7.2.1 != 0) then
K (true)
else
(bif (u8.2.1 != 0) then
K (true)
else
grd (decide ((0 + (List.length x0)) * 64 ≤ 140737488355328)) <|
grd (decide (((0 + (List.length x0)) + (List.length x1)) * 64 ≤ 140737488355328)) <|
R_f11 _ (fun u9 =>
R_f21 _ (fun u11 =>
(bif (decide (u11 > 64)) then
K ((u9.2.1 == 1))
else
R_f22 _ (fun u12 =>
grd (decide ((u12.1 + (List.length (List.take u8.1 (List.drop 0 u8.2.2)))) * 1 ≤ 140737488355328)) <|
R_f16 _ (fun u13 =>
(bif (u9.2.1 == 0) then
(bif (u13.2.1 == 0) then
R_f22 _ (fun u14 =>
grd (decide ((u14.1 + (List.length (List.take u8.1 (List.drop 0 u8.2.2)))) * 1 ≤ 140737488355328)) <|
R_f15 _ (fun u15 =>
(bif u15 then
R_f20 _ (fun u16 =>
K (u16)) ((List.take u13.1 (List.drop 0 u13.2.2))) ((List.take ((0 + (List.length x0)) + (List.length x1)) (List.drop 0 ((List.take (0 + (List.length x0)) ((List.take 0 []) ++ x0)) ++ x1))))
else
K (false))) ((List.take u9.1 (List.drop 0 u9.2.2))) ((List.take (u14.1 + (List.length (List.take u8.1 (List.drop 0 u8.2.2)))) (List.drop 0 ((List.take u14.1 u14.2) ++ (List.take u8.1 (List.drop 0 u8.2.2))))))) ((List.take u7.1 (List.drop 0 u7.2.2)))
else
K (false))
else
K (false))) ((List.take (u12.1 + (List.length (List.take u8.1 (List.drop 0 u8.2.2)))) (List.drop 0 ((List.take u12.1 u12.2) ++ (List.take u8.1 (List.drop 0 u8.2.2))))))) ((List.take u7.1 (List.drop 0 u7.2.2))))) ((List.take ((0 + (List.length x0)) + (List.length x1)) (List.drop 0 ((List.take (0 + (List.length x0)) ((List.take 0 []) ++ x0)) ++ x1)))) (64)) ((List.take ((0 + (List.length x0)) + (List.length x1)) (List.drop 0 ((List.take (0 + (List.length x0)) ((List.take 0 []) ++ x0)) ++ x1))))))) (x1)) (x0))) (x1))) (x0))) 
/-- "outpost/outpostlaw15.TlvJoins" -/
def f8_A (R_f9 : f9_R) (R_f10 : f10_R) (R_f11 : f11_R) (R_f21 : f21_R) (R_f22 : f22_R) (R_f16 : f16_R) (R_f15 : f15_R) (R_f20 : f20_R) (k : Nat) : f8_R := fun X K x0 x1 => f8_T R_f9 R_f10 R_f11 R_f21 R_f22 R_f16 R_f15 R_f20 k K  x0 x1
set_option maxRecDepth 100000 in
theorem f8_ev' {X : Type} (R_f9 : f9_R) (R_f10 : f10_R) (R_f11 : f11_R) (R_f21 : f21_R) (R_f22 : f22_R) (R_f16 : f16_R) (R_f15 : f15_R) (R_f20 : f20_R) (hR_f9 : AnsOk Try.prog 9 (f9_cOf R_f9)) (hR_f10 : AnsOk Try.prog 10 (f10_cOf R_f10)) (hR_f11 : AnsOk Try.prog 11 (f11_cOf R_f11)) (hR_f21 : AnsOk Try.prog 21 (f21_cOf R_f21)) (hR_f22 : AnsOk Try.prog 22 (f22_cOf R_f22)) (hR_f16 : AnsOk Try.prog 16 (f16_cOf R_f16)) (hR_f15 : AnsOk Try.prog 15 (f15_cOf R_f15)) (hR_f20 : AnsOk Try.prog 20 (f20_cOf R_f20)) (k : Nat) (K : Out → Option X) (x0 : List CV) (x1 : List CV) : evFn (f8_cx R_f9 R_f10 R_f11 R_f21 R_f22 R_f16 R_f15 R_f20 hR_f9 hR_f10 hR_f11 hR_f21 hR_f22 hR_f16 hR_f15 hR_f20) [] k Try.f8.ntmps Try.f8.results.toList (Try.f8.body.getD .skip) [(.sl true (some 4) x0), (.sl true (some 4) x1)] [] K = f8_T R_f9 R_f10 R_f11 R_f21 R_f22 R_f16 R_f15 R_f20 k (fun u => K (f8_out u)) x0 x1 := by kernel_rfl
theorem f8_ev {X : Type} (R_f9 : f9_R) (R_f10 : f10_R) (R_f11 : f11_R) (R_f21 : f21_R) (R_f22 : f22_R) (R_f16 : f16_R) (R_f15 : f15_R) (R_f20 : f20_R) (hR_f9 : AnsOk Try.prog 9 (f9_cOf R_f9)) (hR_f10 : AnsOk Try.prog 10 (f10_cOf R_f10)) (hR_f11 : AnsOk Try.prog 11 (f11_cOf R_f11)) (hR_f21 : AnsOk Try.prog 21 (f21_cOf R_f21)) (hR_f22 : AnsOk Try.prog 22 (f22_cOf R_f22)) (hR_f16 : AnsOk Try.prog 16 (f16_cOf R_f16)) (hR_f15 : AnsOk Try.prog 15 (f15_cOf R_f15)) (hR_f20 : AnsOk Try.prog 20 (f20_cOf R_f20)) (k : Nat) (K : Out → Option X) (x0 : List CV) (x1 : List CV) : evFn (f8_cx R_f9 R_f10 R_f11 R_f21 R_f22 R_f16 R_f15 R_f20 hR_f9 hR_f10 hR_f11 hR_f21 hR_f22 hR_f16 hR_f15 hR_f20) [] k Try.f8.ntmps Try.f8.results.toList (Try.f8.body.getD .skip) [(.sl true (some 4) x0), (.sl true (some 4) x1)] [] K = f8_A R_f9 R_f10 R_f11 R_f21 R_f22 R_f16 R_f15 R_f20 k X (fun u => K (f8_out u)) x0 x1 := (f8_ev' R_f9 R_f10 R_f11 R_f21 R_f22 R_f16 R_f15 R_f20 hR_f9 hR_f10 hR_f11 hR_f21 hR_f22 hR_f16 hR_f15 hR_f20 k K x0 x1).trans rfl
theorem f8_okA (R_f9 : f9_R) (R_f10 : f10_R) (R_f11 : f11_R) (R_f21 : f21_R) (R_f22 : f22_R) (R_f16 : f16_R) (R_f15 : f15_R) (R_f20 : f20_R) (hR_f9 : AnsOk Try.prog 9 (f9_cOf R_f9)) (hR_f10 : AnsOk Try.prog 10 (f10_cOf R_f10)) (hR_f11 : AnsOk Try.prog 11 (f11_cOf R_f11)) (hR_f21 : AnsOk Try.prog 21 (f21_cOf R_f21)) (hR_f22 : AnsOk Try.prog 22 (f22_cOf R_f22)) (hR_f16 : AnsOk Try.prog 16 (f16_cOf R_f16)) (hR_f15 : AnsOk Try.prog 15 (f15_cOf R_f15)) (hR_f20 : AnsOk Try.prog 20 (f20_cOf R_f20)) (k : Nat) : AnsOk Try.prog 8 (f8_cOf (f8_A R_f9 R_f10 R_f11 R_f21 R_f22 R_f16 R_f15 R_f20 k)) := by
  intro X xs ns K x h
  unfold f8_cOf at h ⊢
  split at h
  · exact ans_main S (f8_Cok R_f9 R_f10 R_f11 R_f21 R_f22 R_f16 R_f15 R_f20 hR_f9 hR_f10 hR_f11 hR_f21 hR_f22 hR_f16 hR_f15 hR_f20) Try.func8 (ent_of Try.func8 (by kernel_rfl) rfl) rfl (fun X K => f8_ev R_f9 R_f10 R_f11 R_f21 R_f22 R_f16 R_f15 R_f20 hR_f9 hR_f10 hR_f11 hR_f21 hR_f22 hR_f16 hR_f15 hR_f20 k K _ _) h
  · cases h
/-- "outpost/outpostlaw15.TlvJoins" -/
def f8 {X : Type} (k : Nat) (K : Bool → Option X) (x0 : List CV) (x1 : List CV) : Option X := f8_A (fun X => @f9 X k) (fun X => @f10 X k) (fun X => @f11 X k) (fun X => @f21 X k) (fun X => @f22 X k) (fun X => @f16 X k) (fun X => @f15 X k) (fun X => @f20 X k) k X K x0 x1
theorem f8_ok (k : Nat) : AnsOk Try.prog 8 (f8_cOf (fun X => @f8 X k)) := f8_okA (fun X => @f9 X k) (fun X => @f10 X k) (fun X => @f11 X k) (fun X => @f21 X k) (fun X => @f22 X k) (fun X => @f16 X k) (fun X => @f15 X k) (fun X => @f20 X k) (f9_ok k) (f10_ok k) (f11_ok k) (f21_ok k) (f22_ok k) (f16_ok k) (f15_ok k) (f20_ok k) k
end Go.Proofs.YtkkknhfbcflkfaaD
