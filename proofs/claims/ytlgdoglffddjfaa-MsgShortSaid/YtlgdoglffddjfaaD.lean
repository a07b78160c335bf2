/- Functions of the program, as plain Lean functions: each with the proof that the evaluator computes it. (Printed by wip/dec/dec.py.) -/
import Derived.Test.YtlgdoglffddjfaaTN
import Derived.Test.YtlgdoglffddjfaaTO
import Derived.Test.YtlgdoglffddjfaaTQ
import Derived.Test.YtlgdoglffddjfaaProg
import Derived.Test.YtlgdoglffddjfaaChecked
import Derived.Test.YtlgdoglffddjfaaDA
namespace Go.Proofs.YtlgdoglffddjfaaD
open Go Go.Proofs.YtlgdoglffddjfaaS Go.Proofs
set_option linter.unusedVariables false
abbrev f28_R : Type 1 := (X : Type) → (Nat × (List CV) → Option X) → (List CV) → Option X
def f28_out (u : Nat × (List CV)) : Out := ⟨(.osl [2000] (some 2) 0 u.1), [([2000], (.row false (some 2) u.2))]⟩
def f28_cOf (R : f28_R) : FnC := fun X xs ns K => match xs, ns with
  | [(.sl false (some 2) x0)], [] => R X (fun u => K (f28_out u)) x0
  | _, _ => none
def f28_plan : Nat → Option (List Nat × List Wk)
  | 0 => some ([0], [])
  | 1 => some ([0], [])
  | 2 => some ([0, 3], [])
  | 3 => some ([0, 3, 4], [])
  | 4 => some ([0, 3, 4], [])
  | 5 => some ([0, 3, 4], [])
  | 6 => some ([3], [])
  | _ => none
def f28_C (R_f47 : f47_R) : Fns := (orC 47 (f47_cOf R_f47) noC)
theorem f28_Cok (R_f47 : f47_R) (hR_f47 : AnsOk Try.prog 47 (f47_cOf R_f47)) : CsOk Try.prog (f28_C R_f47) := (orC_ok hR_f47 noC_ok)
def f28_cx (R_f47 : f47_R) (hR_f47 : AnsOk Try.prog 47 (f47_cOf R_f47)) : Cx := mkCx (tabOf rows) (f28_C R_f47) md (cmpIn cmps) f28_plan (f28_Cok R_f47 hR_f47)
def f28_S1 (v : (List CV) × Nat × Int × (List CV)) : St := ⟨[(.sl false (some 2) v.1), .undef, .undef, (.osl [3] (some 2) 0 v.2.1), (.v (CV.int .i64 v.2.2.1)), .undef, .undef, .undef, .undef, .undef, .undef, .undef, .undef, .undef, .undef, .undef, .undef, .undef, .undef, .undef, .undef, .undef, .undef, .undef, .undef], [([3], (.row false (some 2) v.2.2.2))]⟩
def f28_T1 {X : Type} (R_f47 : f47_R) (k : Nat) (K : Nat × (List CV) → Option X)   (rec1 : (List CV) × Nat × Int × (List CV) → Option X) (v5_0 : (List CV) × Nat × Int × (List CV)) : Option X :=
(bif (decide (v5_0.2.2.1 < (Nat.cast ((List.length v5_0.1)) : Int))) then
grd (decide (0 ≤ v5_0.2.2.1)) <|
Option.bind (v5_0.1)[(Int.toNat v5_0.2.2.1)]? fun e17 =>
Option.bind (CV.cell e17 0) fun c18 =>
grd (CV.isI .i64 c18) <|
grd (decide (0 ≤ v5_0.2.2.1)) <|
Option.bind (v5_0.1)[(Int.toNat v5_0.2.2.1)]? fun e19 =>
Option.bind (CV.cell e19 1) fun c20 =>
grd (CV.isL none c20) <|
R_f47 _ (fun u21 =>
rec1 (v5_0.1, u21.1, (IntKind.wrap .i64 (v5_0.2.2.1 + 1)), u21.2)) ((List.take v5_0.2.1 (List.drop 0 v5_0.2.2.2))) ((CV.toI c18)) ((CV.toL c20))
else
K (v5_0.2.1, (List.take (0 + v5_0.2.1) v5_0.2.2.2)))
def f28_L1 {X : Type} (R_f47 : f47_R) (k : Nat) (K : Nat × (List CV) → Option X)  (rec1 : (List CV) × Nat × Int × (List CV) → Option X) (v : (List CV) × Nat × Int × (List CV)) : Option X := f28_T1 R_f47 k K   rec1 v
set_option maxRecDepth 100000 in
theorem f28_L1_ev {X : Type} (R_f47 : f47_R) (hR_f47 : AnsOk Try.prog 47 (f47_cOf R_f47)) (k : Nat) (K : Out → Option X)  (r1 : St → Option X) (v : (List CV) × Nat × Int × (List CV)) : loopB (f28_cx R_f47 hR_f47) k [.r, .r, .l, .r, .b] (Try.f28.body.getD .skip) (retK (f28_cx R_f47 hR_f47) [] Try.f28.results.toList K) [] r1 (f28_S1 v) = f28_T1 R_f47 k (fun u => K (f28_out u))   (fun v => r1 (f28_S1 v)) v := by kernel_rfl
theorem f28_L1_it {X : Type} (R_f47 : f47_R) (hR_f47 : AnsOk Try.prog 47 (f47_cOf R_f47)) (k : Nat) (K : Out → Option X)  : (fun v => iter (loopB (f28_cx R_f47 hR_f47) k [.r, .r, .l, .r, .b] (Try.f28.body.getD .skip) (retK (f28_cx R_f47 hR_f47) [] Try.f28.results.toList K) []) k (f28_S1 v)) = iterV (f28_L1 R_f47 k (fun u => K (f28_out u)) ) k :=
  iter_map (fun r1 v => (f28_L1_ev R_f47 hR_f47 k K  r1 v).trans rfl) k
def f28_T {X : Type} (R_f47 : f47_R) (k : Nat) (K : Nat × (List CV) → Option X) (loop1 : (List CV) × Nat × Int × (List CV) → Option X) (x0 : List CV) : Option X :=
loop1 (x0, 0, 0, [])
/-- "outpost/outpostref08.Sorted" -/
def f28_A (R_f47 : f47_R) (k : Nat) : f28_R := fun X K x0 => f28_T R_f47 k K (iterV (f28_L1 R_f47 k K) k) x0
set_option maxRecDepth 100000 in
theorem f28_ev' {X : Type} (R_f47 : f47_R) (hR_f47 : AnsOk Try.prog 47 (f47_cOf R_f47)) (k : Nat) (K : Out → Option X) (x0 : List CV) : evFn (f28_cx R_f47 hR_f47) [] k Try.f28.ntmps Try.f28.results.toList (Try.f28.body.getD .skip) [(.sl false (some 2) x0)] [] K = f28_T R_f47 k (fun u => K (f28_out u)) (fun v => iter (loopB (f28_cx R_f47 hR_f47) k [.r, .r, .l, .r, .b] (Try.f28.body.getD .skip) (retK (f28_cx R_f47 hR_f47) [] Try.f28.results.toList K) []) k (f28_S1 v)) x0 := by kernel_rfl
theorem f28_ev {X : Type} (R_f47 : f47_R) (hR_f47 : AnsOk Try.prog 47 (f47_cOf R_f47)) (k : Nat) (K : Out → Option X) (x0 : List CV) : evFn (f28_cx R_f47 hR_f47) [] k Try.f28.ntmps Try.f28.results.toList (Try.f28.body.getD .skip) [(.sl false (some 2) x0)] [] K = f28_A R_f47 k X (fun u => K (f28_out u)) x0 := (f28_ev' R_f47 hR_f47 k K x0).trans (by rw [f28_L1_it R_f47 hR_f47 k K]; rfl)
theorem f28_okA (R_f47 : f47_R) (hR_f47 : AnsOk Try.prog 47 (f47_cOf R_f47)) (k : Nat) : AnsOk Try.prog 28 (f28_cOf (f28_A R_f47 k)) := by
  intro X xs ns K x h
  unfold f28_cOf at h ⊢
  split at h
  · exact ans_main S (f28_Cok R_f47 hR_f47) Try.func28 (ent_of Try.func28 (by kernel_rfl) rfl) rfl (fun X K => f28_ev R_f47 hR_f47 k K _) h
  · cases h
/-- "outpost/outpostref08.Sorted" -/
def f28 {X : Type} (k : Nat) (K : Nat × (List CV) → Option X) (x0 : List CV) : Option X := f28_A (fun X => @f47 X k) k X K x0
theorem f28_ok (k : Nat) : AnsOk Try.prog 28 (f28_cOf (fun X => @f28 X k)) := f28_okA (fun X => @f47 X k) (f47_ok k) k
abbrev f52_R : Type 1 := (X : Type) → (Int × Nat × (List CV) → Option X) → Int → Option X
def f52_out (u : Int × Nat × (List CV)) : Out := ⟨(.tup [(.v (CV.int .i64 u.1)), (.osl [1, 2000] none 0 u.2.1)]), [([1, 2000], (.row false none u.2.2))]⟩
def f52_cOf (R : f52_R) : FnC := fun X xs ns K => match xs, ns with
  | [(.v (CV.int .i64 x0))], [] => R X (fun u => K (f52_out u)) x0
  | _, _ => none
def f52_plan : Nat → Option (List Nat × List Wk)
  | 0 => some ([0], [])
  | 1 => some ([0], [])
  | 2 => some ([0], [])
  | 3 => some ([0], [])
  | 4 => some ([0], [])
  | 5 => some ([0], [])
  | _ => none
def f52_C : Fns := noC
theorem f52_Cok : CsOk Try.prog (f52_C) := noC_ok
def f52_cx : Cx := mkCx (tabOf rows) (f52_C) md (cmpIn cmps) f52_plan (f52_Cok)
def f52_T {X : Type} (k : Nat) (K : Int × Nat × (List CV) → Option X)  (x0 : Int) : Option X :=
(bif (decide (x0 < 13)) then
K (x0, 0, (List.take 0 []))
else
(bif (decide (x0 < 269)) then
K (13, 1, (List.take 1 [(CV.int .u8 (IntKind.wrap .u8 (IntKind.wrap .i64 (x0 - 13))))]))
else
K (14, 2, (List.take 2 [(CV.int .u8 (IntKind.wrap .u8 (IntKind.wrap .i64 (Int.tdiv (IntKind.wrap .i64 (x0 - 269)) 256)))), (CV.int .u8 (IntKind.wrap .u8 (Int.tmod (IntKind.wrap .i64 (x0 - 269)) 256)))]))))
/-- "outpost/outpostref08.tell" -/
def f52_A (k : Nat) : f52_R := fun X K x0 => f52_T k K  x0
set_option maxRecDepth 100000 in
theorem f52_ev' {X : Type} (k : Nat) (K : Out → Option X) (x0 : Int) : evFn (f52_cx) [] k Try.f52.ntmps Try.f52.results.toList (Try.f52.body.getD .skip) [(.v (CV.int .i64 x0))] [] K = f52_T k (fun u => K (f52_out u)) x0 := by kernel_rfl
theorem f52_ev {X : Type} (k : Nat) (K : Out → Option X) (x0 : Int) : evFn (f52_cx) [] k Try.f52.ntmps Try.f52.results.toList (Try.f52.body.getD .skip) [(.v (CV.int .i64 x0))] [] K = f52_A k X (fun u => K (f52_out u)) x0 := (f52_ev' k K x0).trans rfl
theorem f52_okA (k : Nat) : AnsOk Try.prog 52 (f52_cOf (f52_A k)) := by
  intro X xs ns K x h
  unfold f52_cOf at h ⊢
  split at h
  · exact ans_main S (f52_Cok) Try.func52 (ent_of Try.func52 (by kernel_rfl) rfl) rfl (fun X K => f52_ev k K _) h
  · cases h
/-- "outpost/outpostref08.tell" -/
def f52 {X : Type} (k : Nat) (K : Int × Nat × (List CV) → Option X) (x0 : Int) : Option X := f52_A k X K x0
theorem f52_ok (k : Nat) : AnsOk Try.prog 52 (f52_cOf (fun X => @f52 X k)) := f52_okA k
abbrev f36_R : Type 1 := (X : Type) → (Nat × (List CV) → Option X) → (List CV) → Option X
def f36_out (u : Nat × (List CV)) : Out := ⟨(.osl [2000] none 0 u.1), [([2000], (.row false none u.2))]⟩
def f36_cOf (R : f36_R) : FnC := fun X xs ns K => match xs, ns with
  | [(.sl false none x0)], [] => R X (fun u => K (f36_out u)) x0
  | _, _ => none
def f36_plan : Nat → Option (List Nat × List Wk)
  | 0 => some ([0], [])
  | 1 => some ([0], [])
  | 2 => some ([0, 3], [])
  | 3 => some ([0, 3, 4], [])
  | 4 => some ([0, 3, 4], [])
  | 5 => some ([0, 3, 4], [])
  | 6 => some ([0, 3, 4, 5], [])
  | 7 => some ([0, 3, 4, 5], [])
  | 8 => some ([0, 3, 4, 5], [])
  | 9 => some ([3], [])
  | _ => none
def f36_C : Fns := noC
theorem f36_Cok : CsOk Try.prog (f36_C) := noC_ok
def f36_cx : Cx := mkCx (tabOf rows) (f36_C) md (cmpIn cmps) f36_plan (f36_Cok)
def f36_S1 (v : (List CV) × Nat × Int × (List CV)) : St := ⟨[(.sl false none v.1), .undef, .undef, (.osl [3] none 0 v.2.1), (.v (CV.int .i64 v.2.2.1)), .undef, .undef, .undef, .undef, .undef, .undef, .undef, .undef, .undef, .undef, .undef, .undef, .undef, .undef, .undef, .undef, .undef, .undef, .undef, .undef, .undef, .undef, .undef, .undef, .undef, .undef, .undef, .undef], [([3], (.row false none v.2.2.2))]⟩
def f36_S2 (v : (List CV) × Nat × Int × Int × (List CV)) : St := ⟨[(.sl false none v.1), .undef, .undef, (.osl [3] none 0 v.2.1), (.v (CV.int .i64 v.2.2.1)), (.v (CV.int .i64 v.2.2.2.1)), .undef, .undef, .undef, .undef, .undef, .undef, .undef, .undef, .undef, .undef, .undef, .undef, .undef, .undef, .undef, .undef, .undef, .undef, .undef, .undef, .undef, .undef, .undef, .undef, .undef, .undef, .undef], [([3], (.row false none v.2.2.2.2))]⟩
def f36_T2 {X : Type} (k : Nat) (K : Nat × (List CV) → Option X) (rec1 : (List CV) × Nat × Int × (List CV) → Option X)  (rec2 : (List CV) × Nat × Int × Int × (List CV) → Option X) (v11_14 : (List CV) × Nat × Int × Int × (List CV)) : Option X :=
grd (decide (0 ≤ v11_14.2.2.1)) <|
Option.bind (v11_14.1)[(Int.toNat v11_14.2.2.1)]? fun e23 =>
grd (CV.isL none e23) <|
(bif (decide (v11_14.2.2.2.1 < (Nat.cast ((List.length (CV.toL e23))) : Int))) then
grd (decide (0 ≤ v11_14.2.2.1)) <|
Option.bind (v11_14.1)[(Int.toNat v11_14.2.2.1)]? fun e26 =>
grd (CV.isL none e26) <|
grd (decide (0 ≤ v11_14.2.2.2.1)) <|
Option.bind ((CV.toL e26))[(Int.toNat v11_14.2.2.2.1)]? fun e27 =>
grd (CV.isI .u8 e27) <|
grd (decide ((v11_14.2.1 + (List.length (List.take 1 (List.drop 0 [(CV.int .u8 (CV.toI e27))])))) * 1 ≤ 140737488355328)) <|
rec2 (v11_14.1, (v11_14.2.1 + (List.length (List.take 1 (List.drop 0 [(CV.int .u8 (CV.toI e27))])))), v11_14.2.2.1, (IntKind.wrap .i64 (v11_14.2.2.2.1 + 1)), ((List.take v11_14.2.1 v11_14.2.2.2.2) ++ (List.take 1 (List.drop 0 [(CV.int .u8 (CV.toI e27))]))))
else
rec1 (v11_14.1, v11_14.2.1, (IntKind.wrap .i64 (v11_14.2.2.1 + 1)), v11_14.2.2.2.2))
def f36_L2 {X : Type} (k : Nat) (K : Nat × (List CV) → Option X) (rec1 : (List CV) × Nat × Int × (List CV) → Option X) (rec2 : (List CV) × Nat × Int × Int × (List CV) → Option X) (v : (List CV) × Nat × Int × Int × (List CV)) : Option X := f36_T2 k K rec1  rec2 v
set_option maxRecDepth 100000 in
theorem f36_L2_ev {X : Type} (k : Nat) (K : Out → Option X) (r1 : St → Option X) (r2 : St → Option X) (v : (List CV) × Nat × Int × Int × (List CV)) : loopB (f36_cx) k [.r, .r, .l, .r, .b, .o, .r, .l, .b, .r, .b] (Try.f36.body.getD .skip) (retK (f36_cx) [] Try.f36.results.toList K) [r1] r2 (f36_S2 v) = f36_T2 k (fun u => K (f36_out u)) (fun v => r1 (f36_S1 v))  (fun v => r2 (f36_S2 v)) v := by kernel_rfl
theorem f36_L2_it {X : Type} (k : Nat) (K : Out → Option X) (r1 : St → Option X) : (fun v => iter (loopB (f36_cx) k [.r, .r, .l, .r, .b, .o, .r, .l, .b, .r, .b] (Try.f36.body.getD .skip) (retK (f36_cx) [] Try.f36.results.toList K) [r1]) k (f36_S2 v)) = iterV (f36_L2 k (fun u => K (f36_out u)) (fun v => r1 (f36_S1 v))) k :=
  iter_map (fun r2 v => (f36_L2_ev k K r1 r2 v).trans rfl) k
def f36_T1 {X : Type} (k : Nat) (K : Nat × (List CV) → Option X)  (loop2 : (List CV) × Nat × Int × Int × (List CV) → Option X) (rec1 : (List CV) × Nat × Int × (List CV) → Option X) (v5_0 : (List CV) × Nat × Int × (List CV)) : Option X :=
(bif (decide (v5_0.2.2.1 < (Nat.cast ((List.length v5_0.1)) : Int))) then
loop2 (v5_0.1, v5_0.2.1, v5_0.2.2.1, 0, v5_0.2.2.2)
else
K (v5_0.2.1, (List.take (0 + v5_0.2.1) v5_0.2.2.2)))
def f36_L1 {X : Type} (k : Nat) (K : Nat × (List CV) → Option X)  (rec1 : (List CV) × Nat × Int × (List CV) → Option X) (v : (List CV) × Nat × Int × (List CV)) : Option X := f36_T1 k K  (iterV (f36_L2 k K rec1) k) rec1 v
set_option maxRecDepth 100000 in
theorem f36_L1_ev {X : Type} (k : Nat) (K : Out → Option X)  (r1 : St → Option X) (v : (List CV) × Nat × Int × (List CV)) : loopB (f36_cx) k [.r, .r, .l, .r, .b] (Try.f36.body.getD .skip) (retK (f36_cx) [] Try.f36.results.toList K) [] r1 (f36_S1 v) = f36_T1 k (fun u => K (f36_out u))  (fun v => iter (loopB (f36_cx) k [.r, .r, .l, .r, .b, .o, .r, .l, .b, .r, .b] (Try.f36.body.getD .skip) (retK (f36_cx) [] Try.f36.results.toList K) [r1]) k (f36_S2 v)) (fun v => r1 (f36_S1 v)) v := by kernel_rfl
theorem f36_L1_it {X : Type} (k : Nat) (K : Out → Option X)  : (fun v => iter (loopB (f36_cx) k [.r, .r, .l, .r, .b] (Try.f36.body.getD .skip) (retK (f36_cx) [] Try.f36.results.toList K) []) k (f36_S1 v)) = iterV (f36_L1 k (fun u => K (f36_out u)) ) k :=
  iter_map (fun r1 v => (f36_L1_ev k K  r1 v).trans (by rw [f36_L2_it k K r1]; rfl)) k
def f36_T {X : Type} (k : Nat) (K : Nat × (List CV) → Option X) (loop1 : (List CV) × Nat × Int × (List CV) → Option X) (x0 : List CV) : Option X :=
loop1 (x0, 0, 0, [])
/-- "outpost/outpostref01.Join" -/
def f36_A (k : Nat) : f36_R := fun X K x0 => f36_T k K (iterV (f36_L1 k K) k) x0
set_option maxRecDepth 100000 in
theorem f36_ev' {X : Type} (k : Nat) (K : Out → Option X) (x0 : List CV) : evFn (f36_cx) [] k Try.f36.ntmps Try.f36.results.toList (Try.f36.body.getD .skip) [(.sl false none x0)] [] K = f36_T k (fun u => K (f36_out u)) (fun v => iter (loopB (f36_cx) k [.r, .r, .l, .r, .b] (Try.f36.body.getD .skip) (retK (f36_cx) [] Try.f36.results.toList K) []) k (f36_S1 v)) x0 := by kernel_rfl
theorem f36_ev {X : Type} (k : Nat) (K : Out → Option X) (x0 : List CV) : evFn (f36_cx) [] k Try.f36.ntmps Try.f36.results.toList (Try.f36.body.getD .skip) [(.sl false none x0)] [] K = f36_A k X (fun u => K (f36_out u)) x0 := (f36_ev' k K x0).trans (by rw [f36_L1_it k K]; rfl)
theorem f36_okA (k : Nat) : AnsOk Try.prog 36 (f36_cOf (f36_A k)) := by
  intro X xs ns K x h
  unfold f36_cOf at h ⊢
  split at h
  · exact ans_main S (f36_Cok) Try.func36 (ent_of Try.func36 (by kernel_rfl) rfl) rfl (fun X K => f36_ev k K _) h
  · cases h
/-- "outpost/outpostref01.Join" -/
def f36 {X : Type} (k : Nat) (K : Nat × (List CV) → Option X) (x0 : List CV) : Option X := f36_A k X K x0
theorem f36_ok (k : Nat) : AnsOk Try.prog 36 (f36_cOf (fun X => @f36 X k)) := f36_okA k
abbrev f35_R : Type 1 := (X : Type) → (Nat × Int × (List CV) → Option X) → (List CV) → Option X
def f35_out (u : Nat × Int × (List CV)) : Out := ⟨(.tup [(.osl [0, 2000] none 0 u.1), (.v (CV.int .i64 u.2.1))]), [([0, 2000], (.row false none u.2.2))]⟩
def f35_cOf (R : f35_R) : FnC := fun X xs ns K => match xs, ns with
  | [(.sl true (some 2) x0)], [] => R X (fun u => K (f35_out u)) x0
  | _, _ => none
def f35_plan : Nat → Option (List Nat × List Wk)
  | 0 => some ([0], [])
  | 1 => some ([0], [])
  | 2 => some ([], [])
  | 3 => some ([0], [])
  | 4 => some ([0, 4], [])
  | 5 => some ([0, 4], [])
  | 6 => some ([0, 4], [])
  | 7 => some ([], [])
  | 8 => some ([0], [])
  | 9 => some ([0, 5], [])
  | 10 => some ([0, 5], [])
  | 11 => some ([0, 5], [])
  | 12 => some ([], [])
  | 13 => some ([0], [])
  | 14 => some ([6], [])
  | 15 => some ([6, 7], [])
  | 16 => some ([6, 7, 8], [])
  | 17 => some ([6, 7, 8, 9], [])
  | 18 => some ([6, 7, 8, 9], [])
  | 19 => some ([6, 7, 8, 9], [])
  | 20 => some ([6, 7, 9, 10, 11], [])
  | 21 => some ([6, 7, 9, 10, 11, 12, 13], [])
  | 22 => some ([6, 7, 9], [])
  | 23 => some ([7], [])
  | _ => none
def f35_C (R_f28 : f28_R) (R_f52 : f52_R) (R_f36 : f36_R) : Fns := (orC 28 (f28_cOf R_f28) (orC 36 (f36_cOf R_f36) (orC 52 (f52_cOf R_f52) noC)))
theorem f35_Cok (R_f28 : f28_R) (R_f52 : f52_R) (R_f36 : f36_R) (hR_f28 : AnsOk Try.prog 28 (f28_cOf R_f28)) (hR_f52 : AnsOk Try.prog 52 (f52_cOf R_f52)) (hR_f36 : AnsOk Try.prog 36 (f36_cOf R_f36)) : CsOk Try.prog (f35_C R_f28 R_f52 R_f36) := (orC_ok hR_f28 (orC_ok hR_f36 (orC_ok hR_f52 noC_ok)))
def f35_cx (R_f28 : f28_R) (R_f52 : f52_R) (R_f36 : f36_R) (hR_f28 : AnsOk Try.prog 28 (f28_cOf R_f28)) (hR_f52 : AnsOk Try.prog 52 (f52_cOf R_f52)) (hR_f36 : AnsOk Try.prog 36 (f36_cOf R_f36)) : Cx := mkCx (tabOf rows) (f35_C R_f28 R_f52 R_f36) md (cmpIn cmps) f35_plan (f35_Cok R_f28 R_f52 R_f36 hR_f28 hR_f52 hR_f36)
def f35_S1 (v : (List CV) × Int) : St := ⟨[(.sl true (some 2) v.1), .undef, .undef, .undef, (.v (CV.int .i64 v.2)), .undef, .undef, .undef, .undef, .undef, .undef, .undef, .undef, .undef, .undef, .undef, .undef, .undef, .undef, .undef, .undef, .undef, .undef, .undef, .undef, .undef, .undef, .undef, .undef, .undef, .undef, .undef, .undef, .undef, .undef, .undef, .undef, .undef, .undef, .undef, .undef, .undef, .undef, .undef, .undef, .undef, .undef, .undef, .undef, .undef, .undef, .undef, .undef, .undef, .undef, .undef, .undef, .undef, .undef, .undef, .undef, .undef, .undef, .undef, .undef, .undef, .undef, .undef, .undef, .undef, .undef, .undef, .undef, .undef, .undef, .undef, .undef, .undef, .undef, .undef, .undef, .undef, .undef, .undef, .undef, .undef, .undef, .undef, .undef, .undef, .undef, .undef, .undef, .undef, .undef, .undef, .undef, .undef, .undef, .undef, .undef, .undef], []⟩
def f35_S2 (v : (List CV) × Int) : St := ⟨[(.sl true (some 2) v.1), .undef, .undef, .undef, .undef, (.v (CV.int .i64 v.2)), .undef, .undef, .undef, .undef, .undef, .undef, .undef, .undef, .undef, .undef, .undef, .undef, .undef, .undef, .undef, .undef, .undef, .undef, .undef, .undef, .undef, .undef, .undef, .undef, .undef, .undef, .undef, .undef, .undef, .undef, .undef, .undef, .undef, .undef, .undef, .undef, .undef, .undef, .undef, .undef, .undef, .undef, .undef, .undef, .undef, .undef, .undef, .undef, .undef, .undef, .undef, .undef, .undef, .undef, .undef, .undef, .undef, .undef, .undef, .undef, .undef, .undef, .undef, .undef, .undef, .undef, .undef, .undef, .undef, .undef, .undef, .undef, .undef, .undef, .undef, .undef, .undef, .undef, .undef, .undef, .undef, .undef, .undef, .undef, .undef, .undef, .undef, .undef, .undef, .undef, .undef, .undef, .undef, .undef, .undef, .undef], []⟩
def f35_S3 (v : Nat × Nat × Int × Int × (List CV) × (List CV)) : St := ⟨[.undef, .undef, .undef, .undef, .undef, .undef, (.osl [6] (some 2) 0 v.1), (.osl [7] none 0 v.2.1), (.v (CV.int .i64 v.2.2.1)), (.v (CV.int .i64 v.2.2.2.1)), .undef, .undef, .undef, .undef, .undef, .undef, .undef, .undef, .undef, .undef, .undef, .undef, .undef, .undef, .undef, .undef, .undef, .undef, .undef, .undef, .undef, .undef, .undef, .undef, .undef, .undef, .undef, .undef, .undef, .undef, .undef, .undef, .undef, .undef, .undef, .undef, .undef, .undef, .undef, .undef, .undef, .undef, .undef, .undef, .undef, .undef, .undef, .undef, .undef, .undef, .undef, .undef, .undef, .undef, .undef, .undef, .undef, .undef, .undef, .undef, .undef, .undef, .undef, .undef, .undef, .undef, .undef, .undef, .undef, .undef, .undef, .undef, .undef, .undef, .undef, .undef, .undef, .undef, .undef, .undef, .undef, .undef, .undef, .undef, .undef, .undef, .undef, .undef, .undef, .undef, .undef, .undef], [([6], (.row false (some 2) v.2.2.2.2.1)), ([7], (.row false none v.2.2.2.2.2))]⟩
def f35_T3 {X : Type} (R_f28 : f28_R) (R_f52 : f52_R) (R_f36 : f36_R) (k : Nat) (K : Nat × Int × (List CV) → Option X)   (rec3 : Nat × Nat × Int × Int × (List CV) × (List CV) → Option X) (v10_27 : Nat × Nat × Int × Int × (List CV) × (List CV)) : Option X :=
(bif (decide (v10_27.2.2.2.1 < (Nat.cast (v10_27.1) : Int))) then
grd (decide (0 ≤ v10_27.2.2.2.1)) <|
grd (decide (v10_27.2.2.2.1 < (Nat.cast (v10_27.1) : Int))) <|
Option.bind (v10_27.2.2.2.2.1)[(0 + (Int.toNat v10_27.2.2.2.1))]? fun e62 =>
Option.bind (CV.cell e62 0) fun c63 =>
grd (CV.isI .i64 c63) <|
R_f52 _ (fun u64 =>
grd (decide (0 ≤ v10_27.2.2.2.1)) <|
grd (decide (v10_27.2.2.2.1 < (Nat.cast (v10_27.1) : Int))) <|
Option.bind (v10_27.2.2.2.2.1)[(0 + (Int.toNat v10_27.2.2.2.1))]? fun e65 =>
Option.bind (CV.cell e65 1) fun c66 =>
grd (CV.isL none c66) <|
R_f52 _ (fun u67 =>
grd (decide (0 ≤ v10_27.2.2.2.1)) <|
grd (decide (v10_27.2.2.2.1 < (Nat.cast (v10_27.1) : Int))) <|
Option.bind (v10_27.2.2.2.2.1)[(0 + (Int.toNat v10_27.2.2.2.1))]? fun e68 =>
Option.bind (CV.cell e68 1) fun c69 =>
grd (CV.isL none c69) <|
R_f36 _ (fun u70 =>
grd (decide (0 ≤ v10_27.2.2.2.1)) <|
grd (decide (v10_27.2.2.2.1 < (Nat.cast (v10_27.1) : Int))) <|
Option.bind (v10_27.2.2.2.2.1)[(0 + (Int.toNat v10_27.2.2.2.1))]? fun e71 =>
Option.bind (CV.cell e71 0) fun c72 =>
grd (CV.isI .i64 c72) <|
rec3 (v10_27.1, u70.1, (CV.toI c72), (IntKind.wrap .i64 (v10_27.2.2.2.1 + 1)), v10_27.2.2.2.2.1, u70.2)) ((List.take 5 (List.drop 0 [(CV.slc none (List.take v10_27.2.1 (List.drop 0 v10_27.2.2.2.2.2))), (CV.slc none (List.take 1 (List.drop 0 [(CV.int .u8 (IntKind.wrap .u8 (IntKind.wrap .i64 ((IntKind.wrap .i64 (u64.1 * 16)) + u67.1))))]))), (CV.slc none (List.take u64.2.1 (List.drop 0 u64.2.2))), (CV.slc none (List.take u67.2.1 (List.drop 0 u67.2.2))), (CV.slc none (CV.toL c69))])))) ((Nat.cast ((List.length (CV.toL c66))) : Int))) ((IntKind.wrap .i64 ((CV.toI c63) - v10_27.2.2.1)))
else
K (v10_27.2.1, 0, (List.take (0 + v10_27.2.1) v10_27.2.2.2.2.2)))
def f35_L3 {X : Type} (R_f28 : f28_R) (R_f52 : f52_R) (R_f36 : f36_R) (k : Nat) (K : Nat × Int × (List CV) → Option X)  (rec3 : Nat × Nat × Int × Int × (List CV) × (List CV) → Option X) (v : Nat × Nat × Int × Int × (List CV) × (List CV)) : Option X := f35_T3 R_f28 R_f52 R_f36 k K   rec3 v
set_option maxRecDepth 100000 in
theorem f35_L3_ev {X : Type} (R_f28 : f28_R) (R_f52 : f52_R) (R_f36 : f36_R) (hR_f28 : AnsOk Try.prog 28 (f28_cOf R_f28)) (hR_f52 : AnsOk Try.prog 52 (f52_cOf R_f52)) (hR_f36 : AnsOk Try.prog 36 (f36_cOf R_f36)) (k : Nat) (K : Out → Option X)  (r3 : St → Option X) (v : Nat × Nat × Int × Int × (List CV) × (List CV)) : loopB (f35_cx R_f28 R_f52 R_f36 hR_f28 hR_f52 hR_f36) k [.r, .r, .r, .r, .r, .r, .r, .l, .r, .b] (Try.f35.body.getD .skip) (retK (f35_cx R_f28 R_f52 R_f36 hR_f28 hR_f52 hR_f36) [⟨0, [0], some [0, 2000]⟩] Try.f35.results.toList K) [] r3 (f35_S3 v) = f35_T3 R_f28 R_f52 R_f36 k (fun u => K (f35_out u))   (fun v => r3 (f35_S3 v)) v := by kernel_rfl
theorem f35_L3_it {X : Type} (R_f28 : f28_R) (R_f52 : f52_R) (R_f36 : f36_R) (hR_f28 : AnsOk Try.prog 28 (f28_cOf R_f28)) (hR_f52 : AnsOk Try.prog 52 (f52_cOf R_f52)) (hR_f36 : AnsOk Try.prog 36 (f36_cOf R_f36)) (k : Nat) (K : Out → Option X)  : (fun v => iter (loopB (f35_cx R_f28 R_f52 R_f36 hR_f28 hR_f52 hR_f36) k [.r, .r, .r, .r, .r, .r, .r, .l, .r, .b] (Try.f35.body.getD .skip) (retK (f35_cx R_f28 R_f52 R_f36 hR_f28 hR_f52 hR_f36) [⟨0, [0], some [0, 2000]⟩] Try.f35.results.toList K) []) k (f35_S3 v)) = iterV (f35_L3 R_f28 R_f52 R_f36 k (fun u => K (f35_out u)) ) k :=
  iter_map (fun r3 v => (f35_L3_ev R_f28 R_f52 R_f36 hR_f28 hR_f52 hR_f36 k K  r3 v).trans rfl) k
def f35_T2 {X : Type} (R_f28 : f28_R) (R_f52 : f52_R) (R_f36 : f36_R) (k : Nat) (K : Nat × Int × (List CV) → Option X)  (loop3 : Nat × Nat × Int × Int × (List CV) × (List CV) → Option X) (rec2 : (List CV) × Int → Option X) (v6_17 : (List CV) × Int) : Option X :=
(bif (decide (v6_17.2 < (Nat.cast ((List.length v6_17.1)) : Int))) then
grd (decide (0 ≤ v6_17.2)) <|
Option.bind (v6_17.1)[(Int.toNat v6_17.2)]? fun e25 =>
Option.bind (CV.cell e25 1) fun c26 =>
grd (CV.isL none c26) <|
(bif (decide ((Nat.cast ((List.length (CV.toL c26))) : Int) > 300)) then
K (0, 2, (List.take 0 []))
else
rec2 (v6_17.1, (IntKind.wrap .i64 (v6_17.2 + 1))))
else
R_f28 _ (fun u27 =>
loop3 (u27.1, 0, 0, 0, u27.2, [])) (v6_17.1))
def f35_L2 {X : Type} (R_f28 : f28_R) (R_f52 : f52_R) (R_f36 : f36_R) (k : Nat) (K : Nat × Int × (List CV) → Option X)  (rec2 : (List CV) × Int → Option X) (v : (List CV) × Int) : Option X := f35_T2 R_f28 R_f52 R_f36 k K  (iterV (f35_L3 R_f28 R_f52 R_f36 k K ) k) rec2 v
set_option maxRecDepth 100000 in
theorem f35_L2_ev {X : Type} (R_f28 : f28_R) (R_f52 : f52_R) (R_f36 : f36_R) (hR_f28 : AnsOk Try.prog 28 (f28_cOf R_f28)) (hR_f52 : AnsOk Try.prog 52 (f52_cOf R_f52)) (hR_f36 : AnsOk Try.prog 36 (f36_cOf R_f36)) (k : Nat) (K : Out → Option X)  (r2 : St → Option X) (v : (List CV) × Int) : loopB (f35_cx R_f28 R_f52 R_f36 hR_f28 hR_f52 hR_f36) k [.r, .r, .r, .l, .r, .b] (Try.f35.body.getD .skip) (retK (f35_cx R_f28 R_f52 R_f36 hR_f28 hR_f52 hR_f36) [⟨0, [0], some [0, 2000]⟩] Try.f35.results.toList K) [] r2 (f35_S2 v) = f35_T2 R_f28 R_f52 R_f36 k (fun u => K (f35_out u))  (fun v => iter (loopB (f35_cx R_f28 R_f52 R_f36 hR_f28 hR_f52 hR_f36) k [.r, .r, .r, .r, .r, .r, .r, .l, .r, .b] (Try.f35.body.getD .skip) (retK (f35_cx R_f28 R_f52 R_f36 hR_f28 hR_f52 hR_f36) [⟨0, [0], some [0, 2000]⟩] Try.f35.results.toList K) []) k (f35_S3 v)) (fun v => r2 (f35_S2 v)) v := by kernel_rfl
theorem f35_L2_it {X : Type} (R_f28 : f28_R) (R_f52 : f52_R) (R_f36 : f36_R) (hR_f28 : AnsOk Try.prog 28 (f28_cOf R_f28)) (hR_f52 : AnsOk Try.prog 52 (f52_cOf R_f52)) (hR_f36 : AnsOk Try.prog 36 (f36_cOf R_f36)) (k : Nat) (K : Out → Option X)  : (fun v => iter (loopB (f35_cx R_f28 R_f52 R_f36 hR_f28 hR_f52 hR_f36) k [.r, .r, .r, .l, .r, .b] (Try.f35.body.getD .skip) (retK (f35_cx R_f28 R_f52 R_f36 hR_f28 hR_f52 hR_f36) [⟨0, [0], some [0, 2000]⟩] Try.f35.results.toList K) []) k (f35_S2 v)) = iterV (f35_L2 R_f28 R_f52 R_f36 k (fun u => K (f35_out u)) ) k :=
  iter_map (fun r2 v => (f35_L2_ev R_f28 R_f52 R_f36 hR_f28 hR_f52 hR_f36 k K  r2 v).trans (by rw [f35_L3_it R_f28 R_f52 R_f36 hR_f28 hR_f52 hR_f36 k K ]; rfl)) k
def f35_T1 {X : Type} (R_f28 : f28_R) (R_f52 : f52_R) (R_f36 : f36_R) (k : Nat) (K : Nat × Int × (List CV) → Option X)  (loop2 : (List CV) × Int → Option X) (rec1 : (List CV) × Int → Option X) (v5_0 : (List CV) × Int) : Option X :=
(bif (decide (v5_0.2 < (Nat.cast ((List.length v5_0.1)) : Int))) then
grd (decide (0 ≤ v5_0.2)) <|
Option.bind (v5_0.1)[(Int.toNat v5_0.2)]? fun e14 =>
Option.bind (CV.cell e14 0) fun c15 =>
grd (CV.isI .i64 c15) <|
(bif (decide ((CV.toI c15) < 0)) then
K (0, 1, (List.take 0 []))
else
grd (decide (0 ≤ v5_0.2)) <|
Option.bind (v5_0.1)[(Int.toNat v5_0.2)]? fun e16 =>
Option.bind (CV.cell e16 0) fun c17 =>
grd (CV.isI .i64 c17) <|
(bif (decide ((CV.toI c17) > 65535)) then
K (0, 1, (List.take 0 []))
else
rec1 (v5_0.1, (IntKind.wrap .i64 (v5_0.2 + 1)))))
else
loop2 (v5_0.1, 0))
def f35_L1 {X : Type} (R_f28 : f28_R) (R_f52 : f52_R) (R_f36 : f36_R) (k : Nat) (K : Nat × Int × (List CV) → Option X)  (rec1 : (List CV) × Int → Option X) (v : (List CV) × Int) : Option X := f35_T1 R_f28 R_f52 R_f36 k K  (iterV (f35_L2 R_f28 R_f52 R_f36 k K ) k) rec1 v
set_option maxRecDepth 100000 in
theorem f35_L1_ev {X : Type} (R_f28 : f28_R) (R_f52 : f52_R) (R_f36 : f36_R) (hR_f28 : AnsOk Try.prog 28 (f28_cOf R_f28)) (hR_f52 : AnsOk Try.prog 52 (f52_cOf R_f52)) (hR_f36 : AnsOk Try.prog 36 (f36_cOf R_f36)) (k : Nat) (K : Out → Option X)  (r1 : St → Option X) (v : (List CV) × Int) : loopB (f35_cx R_f28 R_f52 R_f36 hR_f28 hR_f52 hR_f36) k [.r, .r, .l, .r, .b] (Try.f35.body.getD .skip) (retK (f35_cx R_f28 R_f52 R_f36 hR_f28 hR_f52 hR_f36) [⟨0, [0], some [0, 2000]⟩] Try.f35.results.toList K) [] r1 (f35_S1 v) = f35_T1 R_f28 R_f52 R_f36 k (fun u => K (f35_out u))  (fun v => iter (loopB (f35_cx R_f28 R_f52 R_f36 hR_f28 hR_f52 hR_f36) k [.r, .r, .r, .l, .r, .b] (Try.f35.body.getD .skip) (retK (f35_cx R_f28 R_f52 R_f36 hR_f28 hR_f52 hR_f36) [⟨0, [0], some [0, 2000]⟩] Try.f35.results.toList K) []) k (f35_S2 v)) (fun v => r1 (f35_S1 v)) v := by kernel_rfl
theorem f35_L1_it {X : Type} (R_f28 : f28_R) (R_f52 : f52_R) (R_f36 : f36_R) (hR_f28 : AnsOk Try.prog 28 (f28_cOf R_f28)) (hR_f52 : AnsOk Try.prog 52 (f52_cOf R_f52)) (hR_f36 : AnsOk Try.prog 36 (f36_cOf R_f36)) (k : Nat) (K : Out → Option X)  : (fun v => iter (loopB (f35_cx R_f28 R_f52 R_f36 hR_f28 hR_f52 hR_f36) k [.r, .r, .l, .r, .b] (Try.f35.body.getD .skip) (retK (f35_cx R_f28 R_f52 R_f36 hR_f28 hR_f52 hR_f36) [⟨0, [0], some [0, 2000]⟩] Try.f35.results.toList K) []) k (f35_S1 v)) = iterV (f35_L1 R_f28 R_f52 R_f36 k (fun u => K (f35_out u)) ) k :=
  iter_map (fun r1 v => (f35_L1_ev R_f28 R_f52 R_f36 hR_f28 hR_f52 hR_f36 k K  r1 v).trans (by rw [f35_L2_it R_f28 R_f52 R_f36 hR_f28 hR_f52 hR_f36 k K ]; rfl)) k
def f35_T {X : Type} (R_f28 : f28_R) (R_f52 : f52_R) (R_f36 : f36_R) (k : Nat) (K : Nat × Int × (List CV) → Option X) (loop1 : (List CV) × Int → Option X) (x0 : List CV) : Option X :=
(bif (decide ((Nat.cast ((List.length x0)) : Int) > 24)) then
K (0, 3, (List.take 0 []))
else
loop1 (x0, 0))
/-- "outpost/outpostref08.Write" -/
def f35_A (R_f28 : f28_R) (R_f52 : f52_R) (R_f36 : f36_R) (k : Nat) : f35_R := fun X K x0 => f35_T R_f28 R_f52 R_f36 k K (iterV (f35_L1 R_f28 R_f52 R_f36 k K) k) x0
set_option maxRecDepth 100000 in
theorem f35_ev' {X : Type} (R_f28 : f28_R) (R_f52 : f52_R) (R_f36 : f36_R) (hR_f28 : AnsOk Try.prog 28 (f28_cOf R_f28)) (hR_f52 : AnsOk Try.prog 52 (f52_cOf R_f52)) (hR_f36 : AnsOk Try.prog 36 (f36_cOf R_f36)) (k : Nat) (K : Out → Option X) (x0 : List CV) : evFn (f35_cx R_f28 R_f52 R_f36 hR_f28 hR_f52 hR_f36) [⟨0, [0], some [0, 2000]⟩] k Try.f35.ntmps Try.f35.results.toList (Try.f35.body.getD .skip) [(.sl true (some 2) x0)] [] K = f35_T R_f28 R_f52 R_f36 k (fun u => K (f35_out u)) (fun v => iter (loopB (f35_cx R_f28 R_f52 R_f36 hR_f28 hR_f52 hR_f36) k [.r, .r, .l, .r, .b] (Try.f35.body.getD .skip) (retK (f35_cx R_f28 R_f52 R_f36 hR_f28 hR_f52 hR_f36) [⟨0, [0], some [0, 2000]⟩] Try.f35.results.toList K) []) k (f35_S1 v)) x0 := by kernel_rfl
theorem f35_ev {X : Type} (R_f28 : f28_R) (R_f52 : f52_R) (R_f36 : f36_R) (hR_f28 : AnsOk Try.prog 28 (f28_cOf R_f28)) (hR_f52 : AnsOk Try.prog 52 (f52_cOf R_f52)) (hR_f36 : AnsOk Try.prog 36 (f36_cOf R_f36)) (k : Nat) (K : Out → Option X) (x0 : List CV) : evFn (f35_cx R_f28 R_f52 R_f36 hR_f28 hR_f52 hR_f36) [⟨0, [0], some [0, 2000]⟩] k Try.f35.ntmps Try.f35.results.toList (Try.f35.body.getD .skip) [(.sl true (some 2) x0)] [] K = f35_A R_f28 R_f52 R_f36 k X (fun u => K (f35_out u)) x0 := (f35_ev' R_f28 R_f52 R_f36 hR_f28 hR_f52 hR_f36 k K x0).trans (by rw [f35_L1_it R_f28 R_f52 R_f36 hR_f28 hR_f52 hR_f36 k K]; rfl)
theorem f35_okA (R_f28 : f28_R) (R_f52 : f52_R) (R_f36 : f36_R) (hR_f28 : AnsOk Try.prog 28 (f28_cOf R_f28)) (hR_f52 : AnsOk Try.prog 52 (f52_cOf R_f52)) (hR_f36 : AnsOk Try.prog 36 (f36_cOf R_f36)) (k : Nat) : AnsOk Try.prog 35 (f35_cOf (f35_A R_f28 R_f52 R_f36 k)) := by
  intro X xs ns K x h
  unfold f35_cOf at h ⊢
  split at h
  · exact ans_main S (f35_Cok R_f28 R_f52 R_f36 hR_f28 hR_f52 hR_f36) Try.func35 (ent_of Try.func35 (by kernel_rfl) rfl) rfl (fun X K => f35_ev R_f28 R_f52 R_f36 hR_f28 hR_f52 hR_f36 k K _) h
  · cases h
/-- "outpost/outpostref08.Write" -/
def f35 {X : Type} (k : Nat) (K : Nat × Int × (List CV) → Option X) (x0 : List CV) : Option X := f35_A (fun X => @f28 X k) (fun X => @f52 X k) (fun X => @f36 X k) k X K x0
theorem f35_ok (k : Nat) : AnsOk Try.prog 35 (f35_cOf (fun X => @f35 X k)) := f35_okA (fun X => @f28 X k) (fun X => @f52 X k) (fun X => @f36 X k) (f28_ok k) (f52_ok k) (f36_ok k) k
abbrev f12_R : Type 1 := (X : Type) → (Nat × Int × (List CV) → Option X) → CV → Option X
def f12_out (u : Nat × Int × (List CV)) : Out := ⟨(.tup [(.osl [0, 2000] none 0 u.1), (.v (CV.int .i64 u.2.1))]), [([0, 2000], (.row false none u.2.2))]⟩
def f12_cOf (R : f12_R) : FnC := fun X xs ns K => match xs, ns with
  | [(.v x0)], [] => R X (fun u => K (f12_out u)) x0
  | _, _ => none
def f12_plan : Nat → Option (List Nat × List Wk)
  | 0 => some ([0], [])
  | 1 => some ([1], [])
  | 2 => some ([], [])
  | 3 => some ([1], [])
  | 4 => some ([], [])
  | 5 => some ([1], [])
  | 6 => some ([], [])
  | 7 => some ([1], [])
  | 8 => some ([1, 4, 5], [])
  | 9 => some ([5], [])
  | 10 => some ([1, 4], [])
  | 11 => some ([1, 6], [])
  | 12 => some ([1, 6], [])
  | 13 => some ([6], [])
  | _ => none
def f12_C (R_f34 : f34_R) (R_f35 : f35_R) (R_f36 : f36_R) : Fns := (orC 34 (f34_cOf R_f34) (orC 35 (f35_cOf R_f35) (orC 36 (f36_cOf R_f36) noC)))
theorem f12_Cok (R_f34 : f34_R) (R_f35 : f35_R) (R_f36 : f36_R) (hR_f34 : AnsOk Try.prog 34 (f34_cOf R_f34)) (hR_f35 : AnsOk Try.prog 35 (f35_cOf R_f35)) (hR_f36 : AnsOk Try.prog 36 (f36_cOf R_f36)) : CsOk Try.prog (f12_C R_f34 R_f35 R_f36) := (orC_ok hR_f34 (orC_ok hR_f35 (orC_ok hR_f36 noC_ok)))
def f12_cx (R_f34 : f34_R) (R_f35 : f35_R) (R_f36 : f36_R) (hR_f34 : AnsOk Try.prog 34 (f34_cOf R_f34)) (hR_f35 : AnsOk Try.prog 35 (f35_cOf R_f35)) (hR_f36 : AnsOk Try.prog 36 (f36_cOf R_f36)) : Cx := mkCx (tabOf rows) (f12_C R_f34 R_f35 R_f36) md (cmpIn cmps) f12_plan (f12_Cok R_f34 R_f35 R_f36 hR_f34 hR_f35 hR_f36)
def f12_J1 {X : Type} (R_f34 : f34_R) (R_f35 : f35_R) (R_f36 : f36_R) (k : Nat) (K : Nat × Int × (List CV) → Option X)  (v7 : Nat × (List CV)) : Option X :=
K (v7.1, 0, (List.take (0 + v7.1) v7.2))
def f12_J2 {X : Type} (R_f34 : f34_R) (R_f35 : f35_R) (R_f36 : f36_R) (k : Nat) (K : Nat × Int × (List CV) → Option X) (x0 : CV) (v3 : Unit) : Option X :=
(bif (decide ((Nat.cast ((List.length (CV.toL (CV.cellD 3 x0)))) : Int) > 8)) then
K (0, 2, (List.take 0 []))
else
(bif (decide ((Nat.cast ((List.length (CV.toL (CV.cellD 5 x0)))) : Int) > 1200)) then
K (0, 2, (List.take 0 []))
else
R_f35 _ (fun u4 =>
(bif (u4.2.1 != 0) then
K (0, u4.2.1, (List.take 0 []))
else
R_f36 _ (fun u5 =>
(bif (decide ((Nat.cast ((List.length (CV.toL (CV.cellD 5 x0)))) : Int) > 0)) then
R_f36 _ (fun u8 =>
f12_J1 R_f34 R_f35 R_f36 k K (u8.1, u8.2)) ((List.take 3 (List.drop 0 [(CV.slc none (List.take u5.1 (List.drop 0 u5.2))), (CV.slc none (List.take 1 (List.drop 0 [(CV.int .u8 255)]))), (CV.slc none (CV.toL (CV.cellD 5 x0)))])))
else
f12_J1 R_f34 R_f35 R_f36 k K (u5.1, u5.2))) ((List.take 3 (List.drop 0 [(CV.slc none (List.take 4 (List.drop 0 [(CV.int .u8 (IntKind.wrap .u8 (IntKind.wrap .i64 ((IntKind.wrap .i64 (64 + (IntKind.wrap .i64 (16 * (CV.toI (CV.cellD 0 x0)))))) + (Nat.cast ((List.length (CV.toL (CV.cellD 3 x0)))) : Int))))), (CV.int .u8 (IntKind.wrap .u8 (CV.toI (CV.cellD 1 x0)))), (CV.int .u8 (IntKind.wrap .u8 (IntKind.wrap .i64 (Int.tdiv (CV.toI (CV.cellD 2 x0)) 256)))), (CV.int .u8 (IntKind.wrap .u8 (Int.tmod (CV.toI (CV.cellD 2 x0)) 256)))]))), (CV.slc none (CV.toL (CV.cellD 3 x0))), (CV.slc none (List.take u4.1 (List.drop 0 u4.2.2)))]))))) ((CV.toL (CV.cellD 4 x0)))))
def f12_T {X : Type} (R_f34 : f34_R) (R_f35 : f35_R) (R_f36 : f36_R) (k : Nat) (K : Nat × Int × (List CV) → Option X)  (x0 : CV) : Option X :=
grd (CV.isA 6 x0) <|
grd (CV.isI .i64 (CV.cellD 0 x0)) <|
grd (CV.isI .i64 (CV.cellD 1 x0)) <|
grd (CV.isI .i64 (CV.cellD 2 x0)) <|
grd (CV.isL none (CV.cellD 3 x0)) <|
grd (CV.isL (some 2) (CV.cellD 4 x0)) <|
grd (CV.isL none (CV.cellD 5 x0)) <|
(bif (decide ((CV.toI (CV.cellD 0 x0)) < 0)) then
K (0, 1, (List.take 0 []))
else
(bif (decide ((CV.toI (CV.cellD 0 x0)) > 3)) then
K (0, 1, (List.take 0 []))
else
(bif (decide ((CV.toI (CV.cellD 1 x0)) < 0)) then
K (0, 1, (List.take 0 []))
else
(bif (decide ((CV.toI (CV.cellD 1 x0)) > 255)) then
K (0, 1, (List.take 0 []))
else
(bif (decide ((CV.toI (CV.cellD 2 x0)) < 0)) then
K (0, 1, (List.take 0 []))
else
(bif (decide ((CV.toI (CV.cellD 2 x0)) > 65535)) then
K (0, 1, (List.take 0 []))
else
R_f34 _ (fun u2 =>
(bif (!u2) then
K (0, 1, (List.take 0 []))
else
(bif ((CV.toI (CV.cellD 1 x0)) == 0) then
(bif (decide ((Nat.cast ((List.length (CV.toL (CV.cellD 3 x0)))) : Int) > 0)) then
K (0, 1, (List.take 0 []))
else
(bif (decide ((Nat.cast ((List.length (CV.toL (CV.cellD 4 x0)))) : Int) > 0)) then
K (0, 1, (List.take 0 []))
else
(bif (decide ((Nat.cast ((List.length (CV.toL (CV.cellD 5 x0)))) : Int) > 0)) then
K (0, 1, (List.take 0 []))
else
f12_J2 R_f34 R_f35 R_f36 k K x0 (()))))
else
f12_J2 R_f34 R_f35 R_f36 k K x0 (())))) ((CV.toI (CV.cellD 1 x0)))))))))
/-- "outpost/outpostref09.Write" -/
def f12_A (R_f34 : f34_R) (R_f35 : f35_R) (R_f36 : f36_R) (k : Nat) : f12_R := fun X K x0 => f12_T R_f34 R_f35 R_f36 k K  x0
set_option maxRecDepth 100000 in
theorem f12_ev' {X : Type} (R_f34 : f34_R) (R_f35 : f35_R) (R_f36 : f36_R) (hR_f34 : AnsOk Try.prog 34 (f34_cOf R_f34)) (hR_f35 : AnsOk Try.prog 35 (f35_cOf R_f35)) (hR_f36 : AnsOk Try.prog 36 (f36_cOf R_f36)) (k : Nat) (K : Out → Option X) (x0 : CV) : evFn (f12_cx R_f34 R_f35 R_f36 hR_f34 hR_f35 hR_f36) [⟨0, [0], some [0, 2000]⟩] k Try.f12.ntmps Try.f12.results.toList (Try.f12.body.getD .skip) [(.v x0)] [] K = f12_T R_f34 R_f35 R_f36 k (fun u => K (f12_out u)) x0 := by kernel_rfl
theorem f12_ev {X : Type} (R_f34 : f34_R) (R_f35 : f35_R) (R_f36 : f36_R) (hR_f34 : AnsOk Try.prog 34 (f34_cOf R_f34)) (hR_f35 : AnsOk Try.prog 35 (f35_cOf R_f35)) (hR_f36 : AnsOk Try.prog 36 (f36_cOf R_f36)) (k : Nat) (K : Out → Option X) (x0 : CV) : evFn (f12_cx R_f34 R_f35 R_f36 hR_f34 hR_f35 hR_f36) [⟨0, [0], some [0, 2000]⟩] k Try.f12.ntmps Try.f12.results.toList (Try.f12.body.getD .skip) [(.v x0)] [] K = f12_A R_f34 R_f35 R_f36 k X (fun u => K (f12_out u)) x0 := (f12_ev' R_f34 R_f35 R_f36 hR_f34 hR_f35 hR_f36 k K x0).trans rfl
theorem f12_okA (R_f34 : f34_R) (R_f35 : f35_R) (R_f36 : f36_R) (hR_f34 : AnsOk Try.prog 34 (f34_cOf R_f34)) (hR_f35 : AnsOk Try.prog 35 (f35_cOf R_f35)) (hR_f36 : AnsOk Try.prog 36 (f36_cOf R_f36)) (k : Nat) : AnsOk Try.prog 12 (f12_cOf (f12_A R_f34 R_f35 R_f36 k)) := by
  intro X xs ns K x h
  unfold f12_cOf at h ⊢
  split at h
  · exact ans_main S (f12_Cok R_f34 R_f35 R_f36 hR_f34 hR_f35 hR_f36) Try.func12 (ent_of Try.func12 (by kernel_rfl) rfl) rfl (fun X K => f12_ev R_f34 R_f35 R_f36 hR_f34 hR_f35 hR_f36 k K _) h
  · cases h
/-- "outpost/outpostref09.Write" -/
def f12 {X : Type} (k : Nat) (K : Nat × Int × (List CV) → Option X) (x0 : CV) : Option X := f12_A (fun X => @f34 X k) (fun X => @f35 X k) (fun X => @f36 X k) k X K x0
theorem f12_ok (k : Nat) : AnsOk Try.prog 12 (f12_cOf (fun X => @f12 X k)) := f12_okA (fun X => @f34 X k) (fun X => @f35 X k) (fun X => @f36 X k) (f34_ok k) (f35_ok k) (f36_ok k) k
abbrev f13_R : Type 1 := (X : Type) → (Bool → Option X) → (List CV) → (List CV) → Option X
def f13_out (u : Bool) : Out := ⟨(.v (CV.bool u)), []⟩
def f13_cOf (R : f13_R) : FnC := fun X xs ns K => match xs, ns with
  | [(.sl false none x0), (.sl false none x1)], [] => R X (fun u => K (f13_out u)) x0 x1
  | _, _ => none
def f13_plan : Nat → Option (List Nat × List Wk)
  | 0 => some ([0, 1], [])
  | 1 => some ([0, 1], [])
  | 2 => some ([], [])
  | 3 => some ([0, 1], [])
  | 4 => some ([0, 1, 5], [])
  | 5 => some ([0, 1, 5], [])
  | 6 => some ([0, 1, 5], [])
  | 7 => some ([], [])
  | 8 => some ([], [])
  | _ => none
def f13_C : Fns := noC
theorem f13_Cok : CsOk Try.prog (f13_C) := noC_ok
def f13_cx : Cx := mkCx (tabOf rows) (f13_C) md (cmpIn cmps) f13_plan (f13_Cok)
def f13_S1 (v : (List CV) × (List CV) × Int) : St := ⟨[(.sl false none v.1), (.sl false none v.2.1), .undef, .undef, .undef, (.v (CV.int .i64 v.2.2)), .undef, .undef, .undef, .undef, .undef, .undef, .undef, .undef, .undef, .undef, .undef, .undef, .undef, .undef, .undef, .undef, .undef, .undef, .undef, .undef], []⟩
def f13_T1 {X : Type} (k : Nat) (K : Bool → Option X)   (rec1 : (List CV) × (List CV) × Int → Option X) (v5_0 : (List CV) × (List CV) × Int) : Option X :=
(bif (decide (v5_0.2.2 < (Nat.cast ((List.length v5_0.1)) : Int))) then
grd (decide (0 ≤ v5_0.2.2)) <|
Option.bind (v5_0.1)[(Int.toNat v5_0.2.2)]? fun e8 =>
grd (CV.isI .u8 e8) <|
grd (decide (0 ≤ v5_0.2.2)) <|
Option.bind (v5_0.2.1)[(Int.toNat v5_0.2.2)]? fun e9 =>
grd (CV.isI .u8 e9) <|
(bif ((CV.toI e8) != (CV.toI e9)) then
K (false)
else
rec1 (v5_0.1, v5_0.2.1, (IntKind.wrap .i64 (v5_0.2.2 + 1))))
else
K (true))
def f13_L1 {X : Type} (k : Nat) (K : Bool → Option X)  (rec1 : (List CV) × (List CV) × Int → Option X) (v : (List CV) × (List CV) × Int) : Option X := f13_T1 k K   rec1 v
set_option maxRecDepth 100000 in
theorem f13_L1_ev {X : Type} (k : Nat) (K : Out → Option X)  (r1 : St → Option X) (v : (List CV) × (List CV) × Int) : loopB (f13_cx) k [.r, .r, .l, .r, .b] (Try.f13.body.getD .skip) (retK (f13_cx) [] Try.f13.results.toList K) [] r1 (f13_S1 v) = f13_T1 k (fun u => K (f13_out u))   (fun v => r1 (f13_S1 v)) v := by kernel_rfl
theorem f13_L1_it {X : Type} (k : Nat) (K : Out → Option X)  : (fun v => iter (loopB (f13_cx) k [.r, .r, .l, .r, .b] (Try.f13.body.getD .skip) (retK (f13_cx) [] Try.f13.results.toList K) []) k (f13_S1 v)) = iterV (f13_L1 k (fun u => K (f13_out u)) ) k :=
  iter_map (fun r1 v => (f13_L1_ev k K  r1 v).trans rfl) k
def f13_T {X : Type} (k : Nat) (K : Bool → Option X) (loop1 : (List CV) × (List CV) × Int → Option X) (x0 : List CV) (x1 : List CV) : Option X :=
(bif ((Nat.cast ((List.length x0)) : Int) != (Nat.cast ((List.length x1)) : Int)) then
K (false)
else
loop1 (x0, x1, 0))
/-- "outpost/outpostref01.Same" -/
def f13_A (k : Nat) : f13_R := fun X K x0 x1 => f13_T k K (iterV (f13_L1 k K) k) x0 x1
set_option maxRecDepth 100000 in
theorem f13_ev' {X : Type} (k : Nat) (K : Out → Option X) (x0 : List CV) (x1 : List CV) : evFn (f13_cx) [] k Try.f13.ntmps Try.f13.results.toList (Try.f13.body.getD .skip) [(.sl false none x0), (.sl false none x1)] [] K = f13_T k (fun u => K (f13_out u)) (fun v => iter (loopB (f13_cx) k [.r, .r, .l, .r, .b] (Try.f13.body.getD .skip) (retK (f13_cx) [] Try.f13.results.toList K) []) k (f13_S1 v)) x0 x1 := by kernel_rfl
theorem f13_ev {X : Type} (k : Nat) (K : Out → Option X) (x0 : List CV) (x1 : List CV) : evFn (f13_cx) [] k Try.f13.ntmps Try.f13.results.toList (Try.f13.body.getD .skip) [(.sl false none x0), (.sl false none x1)] [] K = f13_A k X (fun u => K (f13_out u)) x0 x1 := (f13_ev' k K x0 x1).trans (by rw [f13_L1_it k K]; rfl)
theorem f13_okA (k : Nat) : AnsOk Try.prog 13 (f13_cOf (f13_A k)) := by
  intro X xs ns K x h
  unfold f13_cOf at h ⊢
  split at h
  · exact ans_main S (f13_Cok) Try.func13 (ent_of Try.func13 (by kernel_rfl) rfl) rfl (fun X K => f13_ev k K _ _) h
  · cases h
/-- "outpost/outpostref01.Same" -/
def f13 {X : Type} (k : Nat) (K : Bool → Option X) (x0 : List CV) (x1 : List CV) : Option X := f13_A k X K x0 x1
theorem f13_ok (k : Nat) : AnsOk Try.prog 13 (f13_cOf (fun X => @f13 X k)) := f13_okA k
abbrev f3_R : Type 1 := (X : Type) → (Bool → Option X) → CV → Option X
def f3_out (u : Bool) : Out := ⟨(.v (CV.bool u)), []⟩
def f3_cOf (R : f3_R) : FnC := fun X xs ns K => match xs, ns with
  | [(.v x0)], [] => R X (fun u => K (f3_out u)) x0
  | _, _ => none
def f3_plan : Nat → Option (List Nat × List Wk)
  | 0 => some ([0], [])
  | 1 => some ([1], [])
  | 2 => some ([], [])
  | 3 => some ([1], [])
  | 4 => some ([], [])
  | 5 => some ([1], [])
  | 6 => some ([1, 3, 4], [])
  | 7 => some ([3, 4, 5, 6], [])
  | _ => none
def f3_C (R_f9 : f9_R) (R_f10 : f10_R) (R_f11 : f11_R) (R_f12 : f12_R) (R_f13 : f13_R) : Fns := (orC 9 (f9_cOf R_f9) (orC 10 (f10_cOf R_f10) (orC 11 (f11_cOf R_f11) (orC 12 (f12_cOf R_f12) (orC 13 (f13_cOf R_f13) noC)))))
theorem f3_Cok (R_f9 : f9_R) (R_f10 : f10_R) (R_f11 : f11_R) (R_f12 : f12_R) (R_f13 : f13_R) (hR_f9 : AnsOk Try.prog 9 (f9_cOf R_f9)) (hR_f10 : AnsOk Try.prog 10 (f10_cOf R_f10)) (hR_f11 : AnsOk Try.prog 11 (f11_cOf R_f11)) (hR_f12 : AnsOk Try.prog 12 (f12_cOf R_f12)) (hR_f13 : AnsOk Try.prog 13 (f13_cOf R_f13)) : CsOk Try.prog (f3_C R_f9 R_f10 R_f11 R_f12 R_f13) := (orC_ok hR_f9 (orC_ok hR_f10 (orC_ok hR_f11 (orC_ok hR_f12 (orC_ok hR_f13 noC_ok)))))
def f3_cx (R_f9 : f9_R) (R_f10 : f10_R) (R_f11 : f11_R) (R_f12 : f12_R) (R_f13 : f13_R) (hR_f9 : AnsOk Try.prog 9 (f9_cOf R_f9)) (hR_f10 : AnsOk Try.prog 10 (f10_cOf R_f10)) (hR_f11 : AnsOk Try.prog 11 (f11_cOf R_f11)) (hR_f12 : AnsOk Try.prog 12 (f12_cOf R_f12)) (hR_f13 : AnsOk Try.prog 13 (f13_cOf R_f13)) : Cx := mkCx (tabOf rows) (f3_C R_f9 R_f10 R_f11 R_f12 R_f13) md (cmpIn cmps) f3_plan (f3_Cok R_f9 R_f10 R_f11 R_f12 R_f13 hR_f9 hR_f10 hR_f11 hR_f12 hR_f13)
def f3_T {X : Type} (R_f9 : f9_R) (R_f10 : f10_R) (R_f11 : f11_R) (R_f12 : f12_R) (R_f13 : f13_R) (k : Nat) (K : Bool → Option X)  (x0 : CV) : Option X :=
grd (CV.isA 6 x0) <|
grd (CV.isI .i64 (CV.cellD 0 x0)) <|
grd (CV.isI .i64 (CV.cellD 1 x0)) <|
grd (CV.isI .i64 (CV.cellD 2 x0)) <|
grd (CV.isL none (CV.cellD 3 x0)) <|
grd (CV.isL (some 2) (CV.cellD 4 x0)) <|
grd (CV.isL none (CV.cellD 5 x0)) <|
R_f9 _ (fun u2 =>
(bif (!u2) then
K (false)
else
R_f10 _ (fun u4 =>
(bif (!u4) then
K (true)
else
R_f11 _ (fun u5 =>
R_f12 _ (fun u6 =>
(bif (u5.2.1 == u6.2.1) then
R_f13 _ (fun u7 =>
K (u7)) ((List.take u5.1 (List.drop 0 u5.2.2))) ((List.take u6.1 (List.drop 0 u6.2.2)))
else
K (false))) ((CV.agg [(CV.int .i64 (CV.toI (CV.cellD 0 x0))), (CV.int .i64 (CV.toI (CV.cellD 1 x0))), (CV.int .i64 (CV.toI (CV.cellD 2 x0))), (CV.slc none (CV.toL (CV.cellD 3 x0))), (CV.slc (some 2) (CV.toL (CV.cellD 4 x0))), (CV.slc none (CV.toL (CV.cellD 5 x0)))]))) ((CV.agg [(CV.int .i64 (CV.toI (CV.cellD 0 x0))), (CV.int .i64 (CV.toI (CV.cellD 1 x0))), (CV.int .i64 (CV.toI (CV.cellD 2 x0))), (CV.slc none (CV.toL (CV.cellD 3 x0))), (CV.slc (some 2) (CV.toL (CV.cellD 4 x0))), (CV.slc none (CV.toL (CV.cellD 5 x0)))])))) ((CV.agg [(CV.int .i64 (CV.toI (CV.cellD 0 x0))), (CV.int .i64 (CV.toI (CV.cellD 1 x0))), (CV.int .i64 (CV.toI (CV.cellD 2 x0))), (CV.slc none (CV.toL (CV.cellD 3 x0))), (CV.slc (some 2) (CV.toL (CV.cellD 4 x0))), (CV.slc none (CV.toL (CV.cellD 5 x0)))])))) 
/-- "outpost/outpostlaw09.MsgWrites" -/
def f3_A (R_f9 : f9_R) (R_f10 : f10_R) (R_f11 : f11_R) (R_f12 : f12_R) (R_f13 : f13_R) (k : Nat) : f3_R := fun X K x0 => f3_T R_f9 R_f10 R_f11 R_f12 R_f13 k K  x0
set_option maxRecDepth 100000 in
theorem f3_ev' {X : Type} (R_f9 : f9_R) (R_f10 : f10_R) (R_f11 : f11_R) (R_f12 : f12_R) (R_f13 : f13_R) (hR_f9 : AnsOk Try.prog 9 (f9_cOf R_f9)) (hR_f10 : AnsOk Try.prog 10 (f10_cOf R_f10)) (hR_f11 : AnsOk Try.prog 11 (f11_cOf R_f11)) (hR_f12 : AnsOk Try.prog 12 (f12_cOf R_f12)) (hR_f13 : AnsOk Try.prog 13 (f13_cOf R_f13)) (k : Nat) (K : Out → Option X) (x0 : CV) : evFn (f3_cx R_f9 R_f10 R_f11 R_f12 R_f13 hR_f9 hR_f10 hR_f11 hR_f12 hR_f13) [] k Try.f3.ntmps Try.f3.results.toList (Try.f3.body.getD .skip) [(.v x0)] [] K = f3_T R_f9 R_f10 R_f11 R_f12 R_f13 k (fun u => K (f3_out u)) x0 := by kernel_rfl
theorem f3_ev {X : Type} (R_f9 : f9_R) (R_f10 : f10_R) (R_f11 : f11_R) (R_f12 : f12_R) (R_f13 : f13_R) (hR_f9 : AnsOk Try.prog 9 (f9_cOf R_f9)) (hR_f10 : AnsOk Try.prog 10 (f10_cOf R_f10)) (hR_f11 : AnsOk Try.prog 11 (f11_cOf R_f11)) (hR_f12 : AnsOk Try.prog 12 (f12_cOf R_f12)) (hR_f13 : AnsOk Try.prog 13 (f13_cOf R_f13)) (k : Nat) (K : Out → Option X) (x0 : CV) : evFn (f3_cx R_f9 R_f10 R_f11 R_f12 R_f13 hR_f9 hR_f10 hR_f11 hR_f12 hR_f13) [] k Try.f3.ntmps Try.f3.results.toList (Try.f3.body.getD .skip) [(.v x0)] [] K = f3_A R_f9 R_f10 R_f11 R_f12 R_f13 k X (fun u => K (f3_out u)) x0 := (f3_ev' R_f9 R_f10 R_f11 R_f12 R_f13 hR_f9 hR_f10 hR_f11 hR_f12 hR_f13 k K x0).trans rfl
theorem f3_okA (R_f9 : f9_R) (R_f10 : f10_R) (R_f11 : f11_R) (R_f12 : f12_R) (R_f13 : f13_R) (hR_f9 : AnsOk Try.prog 9 (f9_cOf R_f9)) (hR_f10 : AnsOk Try.prog 10 (f10_cOf R_f10)) (hR_f11 : AnsOk Try.prog 11 (f11_cOf R_f11)) (hR_f12 : AnsOk Try.prog 12 (f12_cOf R_f12)) (hR_f13 : AnsOk Try.prog 13 (f13_cOf R_f13)) (k : Nat) : AnsOk Try.prog 3 (f3_cOf (f3_A R_f9 R_f10 R_f11 R_f12 R_f13 k)) := by
  intro X xs ns K x h
  unfold f3_cOf at h ⊢
  split at h
  · exact ans_main S (f3_Cok R_f9 R_f10 R_f11 R_f12 R_f13 hR_f9 hR_f10 hR_f11 hR_f12 hR_f13) Try.func3 (ent_of Try.func3 (by kernel_rfl) rfl) rfl (fun X K => f3_ev R_f9 R_f10 R_f11 R_f12 R_f13 hR_f9 hR_f10 hR_f11 hR_f12 hR_f13 k K _) h
  · cases h
/-- "outpost/outpostlaw09.MsgWrites" -/
def f3 {X : Type} (k : Nat) (K : Bool → Option X) (x0 : CV) : Option X := f3_A (fun X => @f9 X k) (fun X => @f10 X k) (fun X => @f11 X k) (fun X => @f12 X k) (fun X => @f13 X k) k X K x0
theorem f3_ok (k : Nat) : AnsOk Try.prog 3 (f3_cOf (fun X => @f3 X k)) := f3_okA (fun X => @f9 X k) (fun X => @f10 X k) (fun X => @f11 X k) (fun X => @f12 X k) (fun X => @f13 X k) (f9_ok k) (f10_ok k) (f11_ok k) (f12_ok k) (f13_ok k) k
abbrev f54_R : Type 1 := (X : Type) → (Int × Int × Bool → Option X) → (List CV) → Int → Int → Option X
def f54_out (u : Int × Int × Bool) : Out := ⟨(.tup [(.v (CV.int .i64 u.1)), (.v (CV.int .i64 u.2.1)), (.v (CV.bool u.2.2))]), []⟩
def f54_cOf (R : f54_R) : FnC := fun X xs ns K => match xs, ns with
  | [(.sl false none x0), (.v (CV.int .i64 x1)), (.v (CV.int .i64 x2))], [] => R X (fun u => K (f54_out u)) x0 x1 x2
  | _, _ => none
def f54_plan : Nat → Option (List Nat × List Wk)
  | 0 => some ([0, 1, 2], [])
  | 1 => some ([0, 1, 2], [])
  | 2 => some ([1, 2], [])
  | 3 => some ([0, 1, 2], [])
  | 4 => some ([0, 1], [])
  | 5 => some ([1], [])
  | 6 => some ([0, 1], [])
  | 7 => some ([0, 1], [])
  | 8 => some ([1], [])
  | 9 => some ([0, 1], [])
  | _ => none
def f54_C : Fns := noC
theorem f54_Cok : CsOk Try.prog (f54_C) := noC_ok
def f54_cx : Cx := mkCx (tabOf rows) (f54_C) md (cmpIn cmps) f54_plan (f54_Cok)
def f54_T {X : Type} (k : Nat) (K : Int × Int × Bool → Option X)  (x0 : List CV) (x1 : Int) (x2 : Int) : Option X :=
(bif (decide (x2 < 13)) then
K (x2, x1, true)
else
(bif (x2 == 13) then
(bif (decide (x1 ≥ (Nat.cast ((List.length x0)) : Int))) then
K (0, x1, false)
else
grd (decide (0 ≤ x1)) <|
Option.bind (x0)[(Int.toNat x1)]? fun e2 =>
grd (CV.isI .u8 e2) <|
K ((IntKind.wrap .i64 (13 + (IntKind.wrap .i64 (CV.toI e2)))), (IntKind.wrap .i64 (x1 + 1)), true))
else
(bif (decide ((IntKind.wrap .i64 ((Nat.cast ((List.length x0)) : Int) - x1)) < 2)) then
K (0, x1, false)
else
grd (decide (0 ≤ x1)) <|
Option.bind (x0)[(Int.toNat x1)]? fun e3 =>
grd (CV.isI .u8 e3) <|
grd (decide (0 ≤ (IntKind.wrap .i64 (x1 + 1)))) <|
Option.bind (x0)[(Int.toNat (IntKind.wrap .i64 (x1 + 1)))]? fun e4 =>
grd (CV.isI .u8 e4) <|
K ((IntKind.wrap .i64 ((IntKind.wrap .i64 (269 + (IntKind.wrap .i64 ((IntKind.wrap .i64 (CV.toI e3)) * 256)))) + (IntKind.wrap .i64 (CV.toI e4)))), (IntKind.wrap .i64 (x1 + 2)), true))))
/-- "outpost/outpostref08.number" -/
def f54_A (k : Nat) : f54_R := fun X K x0 x1 x2 => f54_T k K  x0 x1 x2
set_option maxRecDepth 100000 in
theorem f54_ev' {X : Type} (k : Nat) (K : Out → Option X) (x0 : List CV) (x1 : Int) (x2 : Int) : evFn (f54_cx) [] k Try.f54.ntmps Try.f54.results.toList (Try.f54.body.getD .skip) [(.sl false none x0), (.v (CV.int .i64 x1)), (.v (CV.int .i64 x2))] [] K = f54_T k (fun u => K (f54_out u)) x0 x1 x2 := by kernel_rfl
theorem f54_ev {X : Type} (k : Nat) (K : Out → Option X) (x0 : List CV) (x1 : Int) (x2 : Int) : evFn (f54_cx) [] k Try.f54.ntmps Try.f54.results.toList (Try.f54.body.getD .skip) [(.sl false none x0), (.v (CV.int .i64 x1)), (.v (CV.int .i64 x2))] [] K = f54_A k X (fun u => K (f54_out u)) x0 x1 x2 := (f54_ev' k K x0 x1 x2).trans rfl
theorem f54_okA (k : Nat) : AnsOk Try.prog 54 (f54_cOf (f54_A k)) := by
  intro X xs ns K x h
  unfold f54_cOf at h ⊢
  split at h
  · exact ans_main S (f54_Cok) Try.func54 (ent_of Try.func54 (by kernel_rfl) rfl) rfl (fun X K => f54_ev k K _ _ _) h
  · cases h
/-- "outpost/outpostref08.number" -/
def f54 {X : Type} (k : Nat) (K : Int × Int × Bool → Option X) (x0 : List CV) (x1 : Int) (x2 : Int) : Option X := f54_A k X K x0 x1 x2
theorem f54_ok (k : Nat) : AnsOk Try.prog 54 (f54_cOf (fun X => @f54 X k)) := f54_okA k
abbrev f41_R : Type 1 := (X : Type) → (Nat × Int × Int × (List CV) → Option X) → (List CV) → Option X
def f41_out (u : Nat × Int × Int × (List CV)) : Out := ⟨(.tup [(.osl [0, 2000] (some 2) 0 u.1), (.v (CV.int .i64 u.2.1)), (.v (CV.int .i64 u.2.2.1))]), [([0, 2000], (.row false (some 2) u.2.2.2))]⟩
def f41_cOf (R : f41_R) : FnC := fun X xs ns K => match xs, ns with
  | [(.sl false none x0)], [] => R X (fun u => K (f41_out u)) x0
  | _, _ => none
def f41_plan : Nat → Option (List Nat × List Wk)
  | 0 => some ([0], [])
  | 1 => some ([0], [])
  | 2 => some ([0, 5], [])
  | 3 => some ([0, 5, 6, 7], [])
  | 4 => some ([0, 5, 6, 7], [])
  | 5 => some ([0, 5, 6, 7, 8, 9], [])
  | 6 => some ([], [])
  | 7 => some ([0, 5, 6, 7, 8, 9], [])
  | 8 => some ([0, 5, 7, 9, 10, 11, 12], [])
  | 9 => some ([], [])
  | 10 => some ([0, 5, 7, 9, 10, 11], [])
  | 11 => some ([0, 5, 7, 10, 13, 14, 15], [])
  | 12 => some ([], [])
  | 13 => some ([0, 5, 7, 10, 13, 14], [])
  | 14 => some ([], [])
  | 15 => some ([0, 5, 7, 10, 13, 14], [])
  | 16 => some ([], [])
  | 17 => some ([0, 5, 7, 10, 13, 14], [])
  | 18 => some ([], [])
  | 19 => some ([0, 5, 7, 10, 13, 14], [])
  | 20 => some ([], [])
  | 21 => some ([0, 5, 7, 10, 13, 14], [])
  | 22 => some ([0, 5, 7, 13, 14], [])
  | 23 => some ([0, 5, 7, 13, 14], [])
  | 24 => some ([5, 6], [])
  | _ => none
def f41_C (R_f54 : f54_R) (R_f40 : f40_R) : Fns := (orC 40 (f40_cOf R_f40) (orC 54 (f54_cOf R_f54) noC))
theorem f41_Cok (R_f54 : f54_R) (R_f40 : f40_R) (hR_f54 : AnsOk Try.prog 54 (f54_cOf R_f54)) (hR_f40 : AnsOk Try.prog 40 (f40_cOf R_f40)) : CsOk Try.prog (f41_C R_f54 R_f40) := (orC_ok hR_f40 (orC_ok hR_f54 noC_ok))
def f41_cx (R_f54 : f54_R) (R_f40 : f40_R) (hR_f54 : AnsOk Try.prog 54 (f54_cOf R_f54)) (hR_f40 : AnsOk Try.prog 40 (f40_cOf R_f40)) : Cx := mkCx (tabOf rows) (f41_C R_f54 R_f40) md (cmpIn cmps) f41_plan (f41_Cok R_f54 R_f40 hR_f54 hR_f40)
def f41_S1 (v : (List CV) × Nat × Int × Int × (List CV)) : St := ⟨[(.sl false none v.1), .undef, .undef, .undef, .undef, (.osl [5] (some 2) 0 v.2.1), (.v (CV.int .i64 v.2.2.1)), (.v (CV.int .i64 v.2.2.2.1)), .undef, .undef, .undef, .undef, .undef, .undef, .undef, .undef, .undef, .undef, .undef, .undef, .undef, .undef, .undef, .undef, .undef, .undef, .undef, .undef, .undef, .undef, .undef, .undef, .undef, .undef, .undef, .undef, .undef, .undef, .undef, .undef, .undef, .undef, .undef, .undef, .undef, .undef, .undef, .undef, .undef, .undef, .undef, .undef, .undef, .undef, .undef, .undef, .undef, .undef, .undef, .undef, .undef, .undef, .undef, .undef, .undef, .undef, .undef, .undef, .undef, .undef, .undef, .undef, .undef, .undef, .undef, .undef, .undef, .undef, .undef, .undef, .undef, .undef, .undef, .undef, .undef, .undef, .undef, .undef, .undef, .undef, .undef, .undef, .undef, .undef, .undef, .undef, .undef, .undef, .undef, .undef, .undef, .undef], [([5], (.row false (some 2) v.2.2.2.2))]⟩
def f41_T1 {X : Type} (R_f54 : f54_R) (R_f40 : f40_R) (k : Nat) (K : Nat × Int × Int × (List CV) → Option X)   (rec1 : (List CV) × Nat × Int × Int × (List CV) → Option X) (v5_0 : (List CV) × Nat × Int × Int × (List CV)) : Option X :=
(bif (decide (v5_0.2.2.1 < (Nat.cast ((List.length v5_0.1)) : Int))) then
grd (decide (0 ≤ v5_0.2.2.1)) <|
Option.bind (v5_0.1)[(Int.toNat v5_0.2.2.1)]? fun e10 =>
grd (CV.isI .u8 e10) <|
(bif ((CV.toI e10) != 255) then
grd (decide (0 ≤ v5_0.2.2.1)) <|
Option.bind (v5_0.1)[(Int.toNat v5_0.2.2.1)]? fun e11 =>
grd (CV.isI .u8 e11) <|
grd (decide (0 ≤ v5_0.2.2.1)) <|
Option.bind (v5_0.1)[(Int.toNat v5_0.2.2.1)]? fun e12 =>
grd (CV.isI .u8 e12) <|
(bif ((IntKind.wrap .i64 (Int.tdiv (IntKind.wrap .i64 (CV.toI e11)) 16)) == 15) then
K (0, 0, 20, (List.take 0 []))
else
(bif ((Int.tmod (IntKind.wrap .i64 (CV.toI e12)) 16) == 15) then
K (0, 0, 20, (List.take 0 []))
else
R_f54 _ (fun u13 =>
(bif (!u13.2.2) then
K (0, 0, 20, (List.take 0 []))
else
R_f54 _ (fun u14 =>
(bif (!u14.2.2) then
K (0, 0, 20, (List.take 0 []))
else
(bif (decide ((Nat.cast (v5_0.2.1) : Int) ≥ 24)) then
K (0, 0, 3, (List.take 0 []))
else
(bif (decide ((IntKind.wrap .i64 (v5_0.2.2.2.1 + u13.1)) > 65535)) then
K (0, 0, 1, (List.take 0 []))
else
(bif (decide (u14.1 > 300)) then
K (0, 0, 2, (List.take 0 []))
else
(bif (decide ((IntKind.wrap .i64 ((Nat.cast ((List.length v5_0.1)) : Int) - u14.2.1)) < u14.1)) then
K (0, 0, 20, (List.take 0 []))
else
grd (decide (0 ≤ u14.2.1)) <|
grd (decide (u14.2.1 ≤ (IntKind.wrap .i64 (u14.2.1 + u14.1)))) <|
grd (decide ((IntKind.wrap .i64 (u14.2.1 + u14.1)) ≤ (Nat.cast ((List.length v5_0.1)) : Int))) <|
R_f40 _ (fun u15 =>
grd (decide ((v5_0.2.1 + (List.length (List.take 1 (List.drop 0 [(CV.agg [(CV.int .i64 (IntKind.wrap .i64 (v5_0.2.2.2.1 + u13.1))), (CV.slc none (List.take u15.1 (List.drop 0 u15.2)))])])))) * 32 ≤ 140737488355328)) <|
rec1 (v5_0.1, (v5_0.2.1 + (List.length (List.take 1 (List.drop 0 [(CV.agg [(CV.int .i64 (IntKind.wrap .i64 (v5_0.2.2.2.1 + u13.1))), (CV.slc none (List.take u15.1 (List.drop 0 u15.2)))])])))), (IntKind.wrap .i64 (u14.2.1 + u14.1)), (IntKind.wrap .i64 (v5_0.2.2.2.1 + u13.1)), ((List.take v5_0.2.1 v5_0.2.2.2.2) ++ (List.take 1 (List.drop 0 [(CV.agg [(CV.int .i64 (IntKind.wrap .i64 (v5_0.2.2.2.1 + u13.1))), (CV.slc none (List.take u15.1 (List.drop 0 u15.2)))])]))))) ((List.take ((Int.toNat (IntKind.wrap .i64 (u14.2.1 + u14.1))) - (Int.toNat u14.2.1)) (List.drop (Int.toNat u14.2.1) v5_0.1))))))))) (v5_0.1) (u13.2.1) ((Int.tmod (IntKind.wrap .i64 (CV.toI e12)) 16)))) (v5_0.1) ((IntKind.wrap .i64 (v5_0.2.2.1 + 1))) ((IntKind.wrap .i64 (Int.tdiv (IntKind.wrap .i64 (CV.toI e11)) 16)))))
else
K (v5_0.2.1, v5_0.2.2.1, 0, (List.take (0 + v5_0.2.1) v5_0.2.2.2.2)))
else
K (v5_0.2.1, v5_0.2.2.1, 0, (List.take (0 + v5_0.2.1) v5_0.2.2.2.2)))
def f41_L1 {X : Type} (R_f54 : f54_R) (R_f40 : f40_R) (k : Nat) (K : Nat × Int × Int × (List CV) → Option X)  (rec1 : (List CV) × Nat × Int × Int × (List CV) → Option X) (v : (List CV) × Nat × Int × Int × (List CV)) : Option X := f41_T1 R_f54 R_f40 k K   rec1 v
set_option maxRecDepth 100000 in
theorem f41_L1_ev {X : Type} (R_f54 : f54_R) (R_f40 : f40_R) (hR_f54 : AnsOk Try.prog 54 (f54_cOf R_f54)) (hR_f40 : AnsOk Try.prog 40 (f40_cOf R_f40)) (k : Nat) (K : Out → Option X)  (r1 : St → Option X) (v : (List CV) × Nat × Int × Int × (List CV)) : loopB (f41_cx R_f54 R_f40 hR_f54 hR_f40) k [.r, .r, .r, .l, .b] (Try.f41.body.getD .skip) (retK (f41_cx R_f54 R_f40 hR_f54 hR_f40) [⟨0, [0], some [0, 2000]⟩] Try.f41.results.toList K) [] r1 (f41_S1 v) = f41_T1 R_f54 R_f40 k (fun u => K (f41_out u))   (fun v => r1 (f41_S1 v)) v := by kernel_rfl
theorem f41_L1_it {X : Type} (R_f54 : f54_R) (R_f40 : f40_R) (hR_f54 : AnsOk Try.prog 54 (f54_cOf R_f54)) (hR_f40 : AnsOk Try.prog 40 (f40_cOf R_f40)) (k : Nat) (K : Out → Option X)  : (fun v => iter (loopB (f41_cx R_f54 R_f40 hR_f54 hR_f40) k [.r, .r, .r, .l, .b] (Try.f41.body.getD .skip) (retK (f41_cx R_f54 R_f40 hR_f54 hR_f40) [⟨0, [0], some [0, 2000]⟩] Try.f41.results.toList K) []) k (f41_S1 v)) = iterV (f41_L1 R_f54 R_f40 k (fun u => K (f41_out u)) ) k :=
  iter_map (fun r1 v => (f41_L1_ev R_f54 R_f40 hR_f54 hR_f40 k K  r1 v).trans rfl) k
def f41_T {X : Type} (R_f54 : f54_R) (R_f40 : f40_R) (k : Nat) (K : Nat × Int × Int × (List CV) → Option X) (loop1 : (List CV) × Nat × Int × Int × (List CV) → Option X) (x0 : List CV) : Option X :=
loop1 (x0, 0, 0, 0, [])
/-- "outpost/outpostref08.Read" -/
def f41_A (R_f54 : f54_R) (R_f40 : f40_R) (k : Nat) : f41_R := fun X K x0 => f41_T R_f54 R_f40 k K (iterV (f41_L1 R_f54 R_f40 k K) k) x0
set_option maxRecDepth 100000 in
theorem f41_ev' {X : Type} (R_f54 : f54_R) (R_f40 : f40_R) (hR_f54 : AnsOk Try.prog 54 (f54_cOf R_f54)) (hR_f40 : AnsOk Try.prog 40 (f40_cOf R_f40)) (k : Nat) (K : Out → Option X) (x0 : List CV) : evFn (f41_cx R_f54 R_f40 hR_f54 hR_f40) [⟨0, [0], some [0, 2000]⟩] k Try.f41.ntmps Try.f41.results.toList (Try.f41.body.getD .skip) [(.sl false none x0)] [] K = f41_T R_f54 R_f40 k (fun u => K (f41_out u)) (fun v => iter (loopB (f41_cx R_f54 R_f40 hR_f54 hR_f40) k [.r, .r, .r, .l, .b] (Try.f41.body.getD .skip) (retK (f41_cx R_f54 R_f40 hR_f54 hR_f40) [⟨0, [0], some [0, 2000]⟩] Try.f41.results.toList K) []) k (f41_S1 v)) x0 := by kernel_rfl
theorem f41_ev {X : Type} (R_f54 : f54_R) (R_f40 : f40_R) (hR_f54 : AnsOk Try.prog 54 (f54_cOf R_f54)) (hR_f40 : AnsOk Try.prog 40 (f40_cOf R_f40)) (k : Nat) (K : Out → Option X) (x0 : List CV) : evFn (f41_cx R_f54 R_f40 hR_f54 hR_f40) [⟨0, [0], some [0, 2000]⟩] k Try.f41.ntmps Try.f41.results.toList (Try.f41.body.getD .skip) [(.sl false none x0)] [] K = f41_A R_f54 R_f40 k X (fun u => K (f41_out u)) x0 := (f41_ev' R_f54 R_f40 hR_f54 hR_f40 k K x0).trans (by rw [f41_L1_it R_f54 R_f40 hR_f54 hR_f40 k K]; rfl)
theorem f41_okA (R_f54 : f54_R) (R_f40 : f40_R) (hR_f54 : AnsOk Try.prog 54 (f54_cOf R_f54)) (hR_f40 : AnsOk Try.prog 40 (f40_cOf R_f40)) (k : Nat) : AnsOk Try.prog 41 (f41_cOf (f41_A R_f54 R_f40 k)) := by
  intro X xs ns K x h
  unfold f41_cOf at h ⊢
  split at h
  · exact ans_main S (f41_Cok R_f54 R_f40 hR_f54 hR_f40) Try.func41 (ent_of Try.func41 (by kernel_rfl) rfl) rfl (fun X K => f41_ev R_f54 R_f40 hR_f54 hR_f40 k K _) h
  · cases h
/-- "outpost/outpostref08.Read" -/
def f41 {X : Type} (k : Nat) (K : Nat × Int × Int × (List CV) → Option X) (x0 : List CV) : Option X := f41_A (fun X => @f54 X k) (fun X => @f40 X k) k X K x0
theorem f41_ok (k : Nat) : AnsOk Try.prog 41 (f41_cOf (fun X => @f41 X k)) := f41_okA (fun X => @f54 X k) (fun X => @f40 X k) (f54_ok k) (f40_ok k) k
abbrev f15_R : Type 1 := (X : Type) → (Int × Int × Int × Nat × Nat × Nat × Int × (List CV) × (List CV) × (List CV) → Option X) → (List CV) → Option X
def f15_out (u : Int × Int × Int × Nat × Nat × Nat × Int × (List CV) × (List CV) × (List CV)) : Out := ⟨(.tup [(.agg [(.v (CV.int .i64 u.1)), (.v (CV.int .i64 u.2.1)), (.v (CV.int .i64 u.2.2.1)), (.osl [3, 0, 2000] none 0 u.2.2.2.1), (.osl [4, 0, 2000] (some 2) 0 u.2.2.2.2.1), (.osl [5, 0, 2000] none 0 u.2.2.2.2.2.1)]), (.v (CV.int .i64 u.2.2.2.2.2.2.1))]), [([3, 0, 2000], (.row false none u.2.2.2.2.2.2.2.1)), ([4, 0, 2000], (.row false (some 2) u.2.2.2.2.2.2.2.2.1)), ([5, 0, 2000], (.row false none u.2.2.2.2.2.2.2.2.2))]⟩
def f15_cOf (R : f15_R) : FnC := fun X xs ns K => match xs, ns with
  | [(.sl false none x0)], [] => R X (fun u => K (f15_out u)) x0
  | _, _ => none
def f15_plan : Nat → Option (List Nat × List Wk)
  | 0 => some ([0], [])
  | 1 => some ([0, 2], [])
  | 2 => some ([2], [])
  | 3 => some ([0, 2], [])
  | 4 => some ([0, 2, 4], [])
  | 5 => some ([2], [])
  | 6 => some ([0, 2, 4], [])
  | 7 => some ([0, 2, 4, 5], [])
  | 8 => some ([0, 2, 4, 5, 6, 7, 8], [])
  | 9 => some ([2, 8], [])
  | 10 => some ([0, 2, 4, 5, 6, 7], [])
  | 11 => some ([0, 2, 4, 5, 7], [])
  | 12 => some ([2, 5, 9], [])
  | 13 => some ([2], [])
  | 14 => some ([2, 5, 9], [])
  | 15 => some ([2], [])
  | 16 => some ([2, 5, 9], [])
  | 17 => some ([2, 5, 9], [])
  | 18 => some ([2, 5], [])
  | _ => none
def f15_C (R_f34 : f34_R) (R_f40 : f40_R) (R_f41 : f41_R) : Fns := (orC 34 (f34_cOf R_f34) (orC 40 (f40_cOf R_f40) (orC 41 (f41_cOf R_f41) noC)))
theorem f15_Cok (R_f34 : f34_R) (R_f40 : f40_R) (R_f41 : f41_R) (hR_f34 : AnsOk Try.prog 34 (f34_cOf R_f34)) (hR_f40 : AnsOk Try.prog 40 (f40_cOf R_f40)) (hR_f41 : AnsOk Try.prog 41 (f41_cOf R_f41)) : CsOk Try.prog (f15_C R_f34 R_f40 R_f41) := (orC_ok hR_f34 (orC_ok hR_f40 (orC_ok hR_f41 noC_ok)))
def f15_cx (R_f34 : f34_R) (R_f40 : f40_R) (R_f41 : f41_R) (hR_f34 : AnsOk Try.prog 34 (f34_cOf R_f34)) (hR_f40 : AnsOk Try.prog 40 (f40_cOf R_f40)) (hR_f41 : AnsOk Try.prog 41 (f41_cOf R_f41)) : Cx := mkCx (tabOf rows) (f15_C R_f34 R_f40 R_f41) md (cmpIn cmps) f15_plan (f15_Cok R_f34 R_f40 R_f41 hR_f34 hR_f40 hR_f41)
def f15_J1 {X : Type} (R_f34 : f34_R) (R_f40 : f40_R) (R_f41 : f41_R) (k : Nat) (K : Int × Int × Int × Nat × Nat × Nat × Int × (List CV) × (List CV) × (List CV) → Option X) (e10 : CV) (e11 : CV) (e8 : CV) (e9 : CV) (u12 : Nat × (List CV)) (u13 : Nat × Int × Int × (List CV)) (v15 : Nat × (List CV)) : Option X :=
K ((Int.tmod (IntKind.wrap .i64 (IntKind.wrap .u8 (Int.tdiv (CV.toI e8) 16))) 4), (IntKind.wrap .i64 (CV.toI e9)), (IntKind.wrap .i64 ((IntKind.wrap .i64 ((IntKind.wrap .i64 (CV.toI e10)) * 256)) + (IntKind.wrap .i64 (CV.toI e11)))), u12.1, u13.1, v15.1, 0, (List.take (0 + u12.1) u12.2), (List.take (0 + u13.1) u13.2.2.2), (List.take (0 + v15.1) v15.2))
def f15_J2 {X : Type} (R_f34 : f34_R) (R_f40 : f40_R) (R_f41 : f41_R) (k : Nat) (K : Int × Int × Int × Nat × Nat × Nat × Int × (List CV) × (List CV) × (List CV) → Option X) (e3 : CV) (x0 : List CV) (v7 : Unit) : Option X :=
Option.bind (x0)[0]? fun e8 =>
grd (CV.isI .u8 e8) <|
Option.bind (x0)[1]? fun e9 =>
grd (CV.isI .u8 e9) <|
Option.bind (x0)[2]? fun e10 =>
grd (CV.isI .u8 e10) <|
Option.bind (x0)[3]? fun e11 =>
grd (CV.isI .u8 e11) <|
grd (decide (4 ≤ (IntKind.wrap .i64 (4 + (IntKind.wrap .i64 (Int.tmod (CV.toI e3) 16)))))) <|
grd (decide ((IntKind.wrap .i64 (4 + (IntKind.wrap .i64 (Int.tmod (CV.toI e3) 16)))) ≤ (Nat.cast ((List.length x0)) : Int))) <|
R_f40 _ (fun u12 =>
grd (decide (0 ≤ (IntKind.wrap .i64 (4 + (IntKind.wrap .i64 (Int.tmod (CV.toI e3) 16)))))) <|
grd (decide ((IntKind.wrap .i64 (4 + (IntKind.wrap .i64 (Int.tmod (CV.toI e3) 16)))) ≤ (Nat.cast ((List.length x0)) : Int))) <|
grd (decide ((Nat.cast ((List.length x0)) : Int) ≤ (Nat.cast ((List.length x0)) : Int))) <|
R_f41 _ (fun u13 =>
(bif (u13.2.2.1 != 0) then
K (0, 0, 0, 0, 0, 0, u13.2.2.1, (List.take 0 []), (List.take 0 []), (List.take 0 []))
else
grd (decide (0 ≤ (IntKind.wrap .i64 ((IntKind.wrap .i64 (4 + (IntKind.wrap .i64 (Int.tmod (CV.toI e3) 16)))) + u13.2.1)))) <|
grd (decide ((IntKind.wrap .i64 ((IntKind.wrap .i64 (4 + (IntKind.wrap .i64 (Int.tmod (CV.toI e3) 16)))) + u13.2.1)) ≤ (Nat.cast ((List.length x0)) : Int))) <|
grd (decide ((Nat.cast ((List.length x0)) : Int) ≤ (Nat.cast ((List.length x0)) : Int))) <|
(bif ((Nat.cast ((List.length (List.take ((List.length x0) - (Int.toNat (IntKind.wrap .i64 ((IntKind.wrap .i64 (4 + (IntKind.wrap .i64 (Int.tmod (CV.toI e3) 16)))) + u13.2.1)))) (List.drop (Int.toNat (IntKind.wrap .i64 ((IntKind.wrap .i64 (4 + (IntKind.wrap .i64 (Int.tmod (CV.toI e3) 16)))) + u13.2.1))) x0)))) : Int) == 1) then
K (0, 0, 0, 0, 0, 0, 20, (List.take 0 []), (List.take 0 []), (List.take 0 []))
else
(bif (decide ((Nat.cast ((List.length (List.take ((List.length x0) - (Int.toNat (IntKind.wrap .i64 ((IntKind.wrap .i64 (4 + (IntKind.wrap .i64 (Int.tmod (CV.toI e3) 16)))) + u13.2.1)))) (List.drop (Int.toNat (IntKind.wrap .i64 ((IntKind.wrap .i64 (4 + (IntKind.wrap .i64 (Int.tmod (CV.toI e3) 16)))) + u13.2.1))) x0)))) : Int) > 1201)) then
K (0, 0, 0, 0, 0, 0, 2, (List.take 0 []), (List.take 0 []), (List.take 0 []))
else
(bif (decide ((Nat.cast ((List.length (List.take ((List.length x0) - (Int.toNat (IntKind.wrap .i64 ((IntKind.wrap .i64 (4 + (IntKind.wrap .i64 (Int.tmod (CV.toI e3) 16)))) + u13.2.1)))) (List.drop (Int.toNat (IntKind.wrap .i64 ((IntKind.wrap .i64 (4 + (IntKind.wrap .i64 (Int.tmod (CV.toI e3) 16)))) + u13.2.1))) x0)))) : Int) > 0)) then
grd (decide (1 ≤ (Nat.cast ((List.length (List.take ((List.length x0) - (Int.toNat (IntKind.wrap .i64 ((IntKind.wrap .i64 (4 + (IntKind.wrap .i64 (Int.tmod (CV.toI e3) 16)))) + u13.2.1)))) (List.drop (Int.toNat (IntKind.wrap .i64 ((IntKind.wrap .i64 (4 + (IntKind.wrap .i64 (Int.tmod (CV.toI e3) 16)))) + u13.2.1))) x0)))) : Int))) <|
grd (decide ((Nat.cast ((List.length (List.take ((List.length x0) - (Int.toNat (IntKind.wrap .i64 ((IntKind.wrap .i64 (4 + (IntKind.wrap .i64 (Int.tmod (CV.toI e3) 16)))) + u13.2.1)))) (List.drop (Int.toNat (IntKind.wrap .i64 ((IntKind.wrap .i64 (4 + (IntKind.wrap .i64 (Int.tmod (CV.toI e3) 16)))) + u13.2.1))) x0)))) : Int) ≤ (Nat.cast ((List.length (List.take ((List.length x0) - (Int.toNat (IntKind.wrap .i64 ((IntKind.wrap .i64 (4 + (IntKind.wrap .i64 (Int.tmod (CV.toI e3) 16)))) + u13.2.1)))) (List.drop (Int.toNat (IntKind.wrap .i64 ((IntKind.wrap .i64 (4 + (IntKind.wrap .i64 (Int.tmod (CV.toI e3) 16)))) + u13.2.1))) x0)))) : Int))) <|
R_f40 _ (fun u16 =>
f15_J1 R_f34 R_f40 R_f41 k K e10 e11 e8 e9 u12 u13 (u16.1, u16.2)) ((List.take ((List.length (List.take ((List.length x0) - (Int.toNat (IntKind.wrap .i64 ((IntKind.wrap .i64 (4 + (IntKind.wrap .i64 (Int.tmod (CV.toI e3) 16)))) + u13.2.1)))) (List.drop (Int.toNat (IntKind.wrap .i64 ((IntKind.wrap .i64 (4 + (IntKind.wrap .i64 (Int.tmod (CV.toI e3) 16)))) + u13.2.1))) x0))) - 1) (List.drop 1 (List.take ((List.length x0) - (Int.toNat (IntKind.wrap .i64 ((IntKind.wrap .i64 (4 + (IntKind.wrap .i64 (Int.tmod (CV.toI e3) 16)))) + u13.2.1)))) (List.drop (Int.toNat (IntKind.wrap .i64 ((IntKind.wrap .i64 (4 + (IntKind.wrap .i64 (Int.tmod (CV.toI e3) 16)))) + u13.2.1))) x0)))))
else
f15_J1 R_f34 R_f40 R_f41 k K e10 e11 e8 e9 u12 u13 (0, [])))))) ((List.take ((List.length x0) - (Int.toNat (IntKind.wrap .i64 (4 + (IntKind.wrap .i64 (Int.tmod (CV.toI e3) 16)))))) (List.drop (Int.toNat (IntKind.wrap .i64 (4 + (IntKind.wrap .i64 (Int.tmod (CV.toI e3) 16))))) x0)))) ((List.take ((Int.toNat (IntKind.wrap .i64 (4 + (IntKind.wrap .i64 (Int.tmod (CV.toI e3) 16))))) - 4) (List.drop 4 x0)))
def f15_T {X : Type} (R_f34 : f34_R) (R_f40 : f40_R) (R_f41 : f41_R) (k : Nat) (K : Int × Int × Int × Nat × Nat × Nat × Int × (List CV) × (List CV) × (List CV) → Option X)  (x0 : List CV) : Option X :=
(bif (decide ((Nat.cast ((List.length x0)) : Int) < 4)) then
K (0, 0, 0, 0, 0, 0, 20, (List.take 0 []), (List.take 0 []), (List.take 0 []))
else
Option.bind (x0)[0]? fun e2 =>
grd (CV.isI .u8 e2) <|
(bif ((IntKind.wrap .u8 (Int.tdiv (CV.toI e2) 64)) != 1) then
K (0, 0, 0, 0, 0, 0, 20, (List.take 0 []), (List.take 0 []), (List.take 0 []))
else
Option.bind (x0)[0]? fun e3 =>
grd (CV.isI .u8 e3) <|
(bif (decide ((IntKind.wrap .i64 (Int.tmod (CV.toI e3) 16)) > 8)) then
K (0, 0, 0, 0, 0, 0, 20, (List.take 0 []), (List.take 0 []), (List.take 0 []))
else
Option.bind (x0)[1]? fun e17 =>
grd (CV.isI .u8 e17) <|
R_f34 _ (fun u18 =>
(bif (!u18) then
K (0, 0, 0, 0, 0, 0, 20, (List.take 0 []), (List.take 0 []), (List.take 0 []))
else
Option.bind (x0)[1]? fun e19 =>
grd (CV.isI .u8 e19) <|
(bif ((CV.toI e19) == 0) then
(bif ((Nat.cast ((List.length x0)) : Int) != 4) then
K (0, 0, 0, 0, 0, 0, 20, (List.take 0 []), (List.take 0 []), (List.take 0 []))
else
(bif (decide ((IntKind.wrap .i64 ((Nat.cast ((List.length x0)) : Int) - 4)) < (IntKind.wrap .i64 (Int.tmod (CV.toI e3) 16)))) then
K (0, 0, 0, 0, 0, 0, 20, (List.take 0 []), (List.take 0 []), (List.take 0 []))
else
f15_J2 R_f34 R_f40 R_f41 k K e3 x0 (())))
else
(bif (decide ((IntKind.wrap .i64 ((Nat.cast ((List.length x0)) : Int) - 4)) < (IntKind.wrap .i64 (Int.tmod (CV.toI e3) 16)))) then
K (0, 0, 0, 0, 0, 0, 20, (List.take 0 []), (List.take 0 []), (List.take 0 []))
else
f15_J2 R_f34 R_f40 R_f41 k K e3 x0 (()))))) ((IntKind.wrap .i64 (CV.toI e17))))))
/-- "outpost/outpostref09.Read" -/
def f15_A (R_f34 : f34_R) (R_f40 : f40_R) (R_f41 : f41_R) (k : Nat) : f15_R := fun X K x0 => f15_T R_f34 R_f40 R_f41 k K  x0
set_option maxRecDepth 100000 in
theorem f15_ev' {X : Type} (R_f34 : f34_R) (R_f40 : f40_R) (R_f41 : f41_R) (hR_f34 : AnsOk Try.prog 34 (f34_cOf R_f34)) (hR_f40 : AnsOk Try.prog 40 (f40_cOf R_f40)) (hR_f41 : AnsOk Try.prog 41 (f41_cOf R_f41)) (k : Nat) (K : Out → Option X) (x0 : List CV) : evFn (f15_cx R_f34 R_f40 R_f41 hR_f34 hR_f40 hR_f41) [] k Try.f15.ntmps Try.f15.results.toList (Try.f15.body.getD .skip) [(.sl false none x0)] [] K = f15_T R_f34 R_f40 R_f41 k (fun u => K (f15_out u)) x0 := by kernel_rfl
theorem f15_ev {X : Type} (R_f34 : f34_R) (R_f40 : f40_R) (R_f41 : f41_R) (hR_f34 : AnsOk Try.prog 34 (f34_cOf R_f34)) (hR_f40 : AnsOk Try.prog 40 (f40_cOf R_f40)) (hR_f41 : AnsOk Try.prog 41 (f41_cOf R_f41)) (k : Nat) (K : Out → Option X) (x0 : List CV) : evFn (f15_cx R_f34 R_f40 R_f41 hR_f34 hR_f40 hR_f41) [] k Try.f15.ntmps Try.f15.results.toList (Try.f15.body.getD .skip) [(.sl false none x0)] [] K = f15_A R_f34 R_f40 R_f41 k X (fun u => K (f15_out u)) x0 := (f15_ev' R_f34 R_f40 R_f41 hR_f34 hR_f40 hR_f41 k K x0).trans rfl
theorem f15_okA (R_f34 : f34_R) (R_f40 : f40_R) (R_f41 : f41_R) (hR_f34 : AnsOk Try.prog 34 (f34_cOf R_f34)) (hR_f40 : AnsOk Try.prog 40 (f40_cOf R_f40)) (hR_f41 : AnsOk Try.prog 41 (f41_cOf R_f41)) (k : Nat) : AnsOk Try.prog 15 (f15_cOf (f15_A R_f34 R_f40 R_f41 k)) := by
  intro X xs ns K x h
  unfold f15_cOf at h ⊢
  split at h
  · exact ans_main S (f15_Cok R_f34 R_f40 R_f41 hR_f34 hR_f40 hR_f41) Try.func15 (ent_of Try.func15 (by kernel_rfl) rfl) rfl (fun X K => f15_ev R_f34 R_f40 R_f41 hR_f34 hR_f40 hR_f41 k K _) h
  · cases h
/-- "outpost/outpostref09.Read" -/
def f15 {X : Type} (k : Nat) (K : Int × Int × Int × Nat × Nat × Nat × Int × (List CV) × (List CV) × (List CV) → Option X) (x0 : List CV) : Option X := f15_A (fun X => @f34 X k) (fun X => @f40 X k) (fun X => @f41 X k) k X K x0
theorem f15_ok (k : Nat) : AnsOk Try.prog 15 (f15_cOf (fun X => @f15 X k)) := f15_okA (fun X => @f34 X k) (fun X => @f40 X k) (fun X => @f41 X k) (f34_ok k) (f40_ok k) (f41_ok k) k
abbrev f29_R : Type 1 := (X : Type) → (Bool → Option X) → (List CV) → (List CV) → Option X
def f29_out (u : Bool) : Out := ⟨(.v (CV.bool u)), []⟩
def f29_cOf (R : f29_R) : FnC := fun X xs ns K => match xs, ns with
  | [(.sl true (some 2) x0), (.sl true (some 2) x1)], [] => R X (fun u => K (f29_out u)) x0 x1
  | _, _ => none
def f29_plan : Nat → Option (List Nat × List Wk)
  | 0 => some ([0, 1], [])
  | 1 => some ([0, 1], [])
  | 2 => some ([], [])
  | 3 => some ([0, 1], [])
  | 4 => some ([0, 1, 5], [])
  | 5 => some ([0, 1, 5], [])
  | 6 => some ([0, 1, 5], [])
  | 7 => some ([], [])
  | 8 => some ([], [])
  | _ => none
def f29_C (R_f13 : f13_R) : Fns := (orC 13 (f13_cOf R_f13) noC)
theorem f29_Cok (R_f13 : f13_R) (hR_f13 : AnsOk Try.prog 13 (f13_cOf R_f13)) : CsOk Try.prog (f29_C R_f13) := (orC_ok hR_f13 noC_ok)
def f29_cx (R_f13 : f13_R) (hR_f13 : AnsOk Try.prog 13 (f13_cOf R_f13)) : Cx := mkCx (tabOf rows) (f29_C R_f13) md (cmpIn cmps) f29_plan (f29_Cok R_f13 hR_f13)
def f29_S1 (v : (List CV) × (List CV) × Int) : St := ⟨[(.sl true (some 2) v.1), (.sl true (some 2) v.2.1), .undef, .undef, .undef, (.v (CV.int .i64 v.2.2)), .undef, .undef, .undef, .undef, .undef, .undef, .undef, .undef, .undef, .undef, .undef, .undef, .undef, .undef, .undef, .undef, .undef, .undef, .undef, .undef, .undef, .undef, .undef, .undef, .undef, .undef, .undef, .undef, .undef, .undef, .undef, .undef, .undef, .undef, .undef, .undef], []⟩
def f29_T1 {X : Type} (R_f13 : f13_R) (k : Nat) (K : Bool → Option X)   (rec1 : (List CV) × (List CV) × Int → Option X) (v5_0 : (List CV) × (List CV) × Int) : Option X :=
(bif (decide (v5_0.2.2 < (Nat.cast ((List.length v5_0.1)) : Int))) then
grd (decide (0 ≤ v5_0.2.2)) <|
Option.bind (v5_0.1)[(Int.toNat v5_0.2.2)]? fun e29 =>
Option.bind (CV.cell e29 0) fun c30 =>
grd (CV.isI .i64 c30) <|
grd (decide (0 ≤ v5_0.2.2)) <|
Option.bind (v5_0.2.1)[(Int.toNat v5_0.2.2)]? fun e31 =>
Option.bind (CV.cell e31 0) fun c32 =>
grd (CV.isI .i64 c32) <|
(bif ((CV.toI c30) != (CV.toI c32)) then
K (false)
else
grd (decide (0 ≤ v5_0.2.2)) <|
Option.bind (v5_0.1)[(Int.toNat v5_0.2.2)]? fun e33 =>
Option.bind (CV.cell e33 1) fun c34 =>
grd (CV.isL none c34) <|
grd (decide (0 ≤ v5_0.2.2)) <|
Option.bind (v5_0.2.1)[(Int.toNat v5_0.2.2)]? fun e35 =>
Option.bind (CV.cell e35 1) fun c36 =>
grd (CV.isL none c36) <|
R_f13 _ (fun u37 =>
(bif (!u37) then
K (false)
else
rec1 (v5_0.1, v5_0.2.1, (IntKind.wrap .i64 (v5_0.2.2 + 1))))) ((CV.toL c34)) ((CV.toL c36)))
else
K (true))
def f29_L1 {X : Type} (R_f13 : f13_R) (k : Nat) (K : Bool → Option X)  (rec1 : (List CV) × (List CV) × Int → Option X) (v : (List CV) × (List CV) × Int) : Option X := f29_T1 R_f13 k K   rec1 v
set_option maxRecDepth 100000 in
theorem f29_L1_ev {X : Type} (R_f13 : f13_R) (hR_f13 : AnsOk Try.prog 13 (f13_cOf R_f13)) (k : Nat) (K : Out → Option X)  (r1 : St → Option X) (v : (List CV) × (List CV) × Int) : loopB (f29_cx R_f13 hR_f13) k [.r, .r, .l, .r, .b] (Try.f29.body.getD .skip) (retK (f29_cx R_f13 hR_f13) [] Try.f29.results.toList K) [] r1 (f29_S1 v) = f29_T1 R_f13 k (fun u => K (f29_out u))   (fun v => r1 (f29_S1 v)) v := by kernel_rfl
theorem f29_L1_it {X : Type} (R_f13 : f13_R) (hR_f13 : AnsOk Try.prog 13 (f13_cOf R_f13)) (k : Nat) (K : Out → Option X)  : (fun v => iter (loopB (f29_cx R_f13 hR_f13) k [.r, .r, .l, .r, .b] (Try.f29.body.getD .skip) (retK (f29_cx R_f13 hR_f13) [] Try.f29.results.toList K) []) k (f29_S1 v)) = iterV (f29_L1 R_f13 k (fun u => K (f29_out u)) ) k :=
  iter_map (fun r1 v => (f29_L1_ev R_f13 hR_f13 k K  r1 v).trans rfl) k
def f29_T {X : Type} (R_f13 : f13_R) (k : Nat) (K : Bool → Option X) (loop1 : (List CV) × (List CV) × Int → Option X) (x0 : List CV) (x1 : List CV) : Option X :=
(bif ((Nat.cast ((List.length x0)) : Int) != (Nat.cast ((List.length x1)) : Int)) then
K (false)
else
loop1 (x0, x1, 0))
/-- "outpost/outpostref08.Same" -/
def f29_A (R_f13 : f13_R) (k : Nat) : f29_R := fun X K x0 x1 => f29_T R_f13 k K (iterV (f29_L1 R_f13 k K) k) x0 x1
set_option maxRecDepth 100000 in
theorem f29_ev' {X : Type} (R_f13 : f13_R) (hR_f13 : AnsOk Try.prog 13 (f13_cOf R_f13)) (k : Nat) (K : Out → Option X) (x0 : List CV) (x1 : List CV) : evFn (f29_cx R_f13 hR_f13) [] k Try.f29.ntmps Try.f29.results.toList (Try.f29.body.getD .skip) [(.sl true (some 2) x0), (.sl true (some 2) x1)] [] K = f29_T R_f13 k (fun u => K (f29_out u)) (fun v => iter (loopB (f29_cx R_f13 hR_f13) k [.r, .r, .l, .r, .b] (Try.f29.body.getD .skip) (retK (f29_cx R_f13 hR_f13) [] Try.f29.results.toList K) []) k (f29_S1 v)) x0 x1 := by kernel_rfl
theorem f29_ev {X : Type} (R_f13 : f13_R) (hR_f13 : AnsOk Try.prog 13 (f13_cOf R_f13)) (k : Nat) (K : Out → Option X) (x0 : List CV) (x1 : List CV) : evFn (f29_cx R_f13 hR_f13) [] k Try.f29.ntmps Try.f29.results.toList (Try.f29.body.getD .skip) [(.sl true (some 2) x0), (.sl true (some 2) x1)] [] K = f29_A R_f13 k X (fun u => K (f29_out u)) x0 x1 := (f29_ev' R_f13 hR_f13 k K x0 x1).trans (by rw [f29_L1_it R_f13 hR_f13 k K]; rfl)
theorem f29_okA (R_f13 : f13_R) (hR_f13 : AnsOk Try.prog 13 (f13_cOf R_f13)) (k : Nat) : AnsOk Try.prog 29 (f29_cOf (f29_A R_f13 k)) := by
  intro X xs ns K x h
  unfold f29_cOf at h ⊢
  split at h
  · exact ans_main S (f29_Cok R_f13 hR_f13) Try.func29 (ent_of Try.func29 (by kernel_rfl) rfl) rfl (fun X K => f29_ev R_f13 hR_f13 k K _ _) h
  · cases h
/-- "outpost/outpostref08.Same" -/
def f29 {X : Type} (k : Nat) (K : Bool → Option X) (x0 : List CV) (x1 : List CV) : Option X := f29_A (fun X => @f13 X k) k X K x0 x1
theorem f29_ok (k : Nat) : AnsOk Try.prog 29 (f29_cOf (fun X => @f29 X k)) := f29_okA (fun X => @f13 X k) (f13_ok k) k
abbrev f17_R : Type 1 := (X : Type) → (Bool → Option X) → CV → CV → Option X
def f17_out (u : Bool) : Out := ⟨(.v (CV.bool u)), []⟩
def f17_cOf (R : f17_R) : FnC := fun X xs ns K => match xs, ns with
  | [(.v x0), (.v x1)], [] => R X (fun u => K (f17_out u)) x0 x1
  | _, _ => none
def f17_plan : Nat → Option (List Nat × List Wk)
  | 0 => some ([0, 1], [])
  | 1 => some ([2, 3], [])
  | _ => none
def f17_C (R_f13 : f13_R) (R_f29 : f29_R) : Fns := (orC 13 (f13_cOf R_f13) (orC 29 (f29_cOf R_f29) noC))
theorem f17_Cok (R_f13 : f13_R) (R_f29 : f29_R) (hR_f13 : AnsOk Try.prog 13 (f13_cOf R_f13)) (hR_f29 : AnsOk Try.prog 29 (f29_cOf R_f29)) : CsOk Try.prog (f17_C R_f13 R_f29) := (orC_ok hR_f13 (orC_ok hR_f29 noC_ok))
def f17_cx (R_f13 : f13_R) (R_f29 : f29_R) (hR_f13 : AnsOk Try.prog 13 (f13_cOf R_f13)) (hR_f29 : AnsOk Try.prog 29 (f29_cOf R_f29)) : Cx := mkCx (tabOf rows) (f17_C R_f13 R_f29) md (cmpIn cmps) f17_plan (f17_Cok R_f13 R_f29 hR_f13 hR_f29)
def f17_T {X : Type} (R_f13 : f13_R) (R_f29 : f29_R) (k : Nat) (K : Bool → Option X)  (x0 : CV) (x1 : CV) : Option X :=
grd (CV.isA 6 x0) <|
grd (CV.isI .i64 (CV.cellD 0 x0)) <|
grd (CV.isI .i64 (CV.cellD 1 x0)) <|
grd (CV.isI .i64 (CV.cellD 2 x0)) <|
grd (CV.isL none (CV.cellD 3 x0)) <|
grd (CV.isL (some 2) (CV.cellD 4 x0)) <|
grd (CV.isL none (CV.cellD 5 x0)) <|
grd (CV.isA 6 x1) <|
grd (CV.isI .i64 (CV.cellD 0 x1)) <|
grd (CV.isI .i64 (CV.cellD 1 x1)) <|
grd (CV.isI .i64 (CV.cellD 2 x1)) <|
grd (CV.isL none (CV.cellD 3 x1)) <|
grd (CV.isL (some 2) (CV.cellD 4 x1)) <|
grd (CV.isL none (CV.cellD 5 x1)) <|
(bif ((CV.toI (CV.cellD 0 x0)) == (CV.toI (CV.cellD 0 x1))) then
(bif ((CV.toI (CV.cellD 1 x0)) == (CV.toI (CV.cellD 1 x1))) then
(bif ((CV.toI (CV.cellD 2 x0)) == (CV.toI (CV.cellD 2 x1))) then
R_f13 _ (fun u1 =>
(bif u1 then
R_f29 _ (fun u2 =>
(bif u2 then
R_f13 _ (fun u3 =>
K (u3)) ((CV.toL (CV.cellD 5 x0))) ((CV.toL (CV.cellD 5 x1)))
else
K (false))) ((CV.toL (CV.cellD 4 x0))) ((CV.toL (CV.cellD 4 x1)))
else
K (false))) ((CV.toL (CV.cellD 3 x0))) ((CV.toL (CV.cellD 3 x1)))
else
K (false))
else
K (false))
else
K (false))
/-- "outpost/outpostref09.Same" -/
def f17_A (R_f13 : f13_R) (R_f29 : f29_R) (k : Nat) : f17_R := fun X K x0 x1 => f17_T R_f13 R_f29 k K  x0 x1
set_option maxRecDepth 100000 in
theorem f17_ev' {X : Type} (R_f13 : f13_R) (R_f29 : f29_R) (hR_f13 : AnsOk Try.prog 13 (f13_cOf R_f13)) (hR_f29 : AnsOk Try.prog 29 (f29_cOf R_f29)) (k : Nat) (K : Out → Option X) (x0 : CV) (x1 : CV) : evFn (f17_cx R_f13 R_f29 hR_f13 hR_f29) [] k Try.f17.ntmps Try.f17.results.toList (Try.f17.body.getD .skip) [(.v x0), (.v x1)] [] K = f17_T R_f13 R_f29 k (fun u => K (f17_out u)) x0 x1 := by kernel_rfl
theorem f17_ev {X : Type} (R_f13 : f13_R) (R_f29 : f29_R) (hR_f13 : AnsOk Try.prog 13 (f13_cOf R_f13)) (hR_f29 : AnsOk Try.prog 29 (f29_cOf R_f29)) (k : Nat) (K : Out → Option X) (x0 : CV) (x1 : CV) : evFn (f17_cx R_f13 R_f29 hR_f13 hR_f29) [] k Try.f17.ntmps Try.f17.results.toList (Try.f17.body.getD .skip) [(.v x0), (.v x1)] [] K = f17_A R_f13 R_f29 k X (fun u => K (f17_out u)) x0 x1 := (f17_ev' R_f13 R_f29 hR_f13 hR_f29 k K x0 x1).trans rfl
theorem f17_okA (R_f13 : f13_R) (R_f29 : f29_R) (hR_f13 : AnsOk Try.prog 13 (f13_cOf R_f13)) (hR_f29 : AnsOk Try.prog 29 (f29_cOf R_f29)) (k : Nat) : AnsOk Try.prog 17 (f17_cOf (f17_A R_f13 R_f29 k)) := by
  intro X xs ns K x h
  unfold f17_cOf at h ⊢
  split at h
  · exact ans_main S (f17_Cok R_f13 R_f29 hR_f13 hR_f29) Try.func17 (ent_of Try.func17 (by kernel_rfl) rfl) rfl (fun X K => f17_ev R_f13 R_f29 hR_f13 hR_f29 k K _ _) h
  · cases h
/-- "outpost/outpostref09.Same" -/
def f17 {X : Type} (k : Nat) (K : Bool → Option X) (x0 : CV) (x1 : CV) : Option X := f17_A (fun X => @f13 X k) (fun X => @f29 X k) k X K x0 x1
theorem f17_ok (k : Nat) : AnsOk Try.prog 17 (f17_cOf (fun X => @f17 X k)) := f17_okA (fun X => @f13 X k) (fun X => @f29 X k) (f13_ok k) (f29_ok k) k
abbrev f4_R : Type 1 := (X : Type) → (Bool → Option X) → (List CV) → Option X
def f4_out (u : Bool) : Out := ⟨(.v (CV.bool u)), []⟩
def f4_cOf (R : f4_R) : FnC := fun X xs ns K => match xs, ns with
  | [(.sl true none x0)], [] => R X (fun u => K (f4_out u)) x0
  | _, _ => none
def f4_plan : Nat → Option (List Nat × List Wk)
  | 0 => some ([0], [])
  | 1 => some ([0], [])
  | 2 => some ([], [])
  | 3 => some ([0], [])
  | 4 => some ([], [])
  | 5 => some ([0], [])
  | 6 => some ([0, 3, 4], [])
  | 7 => some ([0, 3, 4, 5, 6], [])
  | 8 => some ([0, 3, 4, 5, 6, 7, 8, 9], [])
  | 9 => some ([0, 3, 4, 5, 6, 7, 8, 9, 10], [])
  | 10 => some ([], [])
  | 11 => some ([3, 4, 5, 6], [])
  | _ => none
def f4_C (R_f9 : f9_R) (R_f14 : f14_R) (R_f15 : f15_R) (R_f16 : f16_R) (R_f17 : f17_R) : Fns := (orC 9 (f9_cOf R_f9) (orC 14 (f14_cOf R_f14) (orC 15 (f15_cOf R_f15) (orC 16 (f16_cOf R_f16) (orC 17 (f17_cOf R_f17) noC)))))
theorem f4_Cok (R_f9 : f9_R) (R_f14 : f14_R) (R_f15 : f15_R) (R_f16 : f16_R) (R_f17 : f17_R) (hR_f9 : AnsOk Try.prog 9 (f9_cOf R_f9)) (hR_f14 : AnsOk Try.prog 14 (f14_cOf R_f14)) (hR_f15 : AnsOk Try.prog 15 (f15_cOf R_f15)) (hR_f16 : AnsOk Try.prog 16 (f16_cOf R_f16)) (hR_f17 : AnsOk Try.prog 17 (f17_cOf R_f17)) : CsOk Try.prog (f4_C R_f9 R_f14 R_f15 R_f16 R_f17) := (orC_ok hR_f9 (orC_ok hR_f14 (orC_ok hR_f15 (orC_ok hR_f16 (orC_ok hR_f17 noC_ok)))))
def f4_cx (R_f9 : f9_R) (R_f14 : f14_R) (R_f15 : f15_R) (R_f16 : f16_R) (R_f17 : f17_R) (hR_f9 : AnsOk Try.prog 9 (f9_cOf R_f9)) (hR_f14 : AnsOk Try.prog 14 (f14_cOf R_f14)) (hR_f15 : AnsOk Try.prog 15 (f15_cOf R_f15)) (hR_f16 : AnsOk Try.prog 16 (f16_cOf R_f16)) (hR_f17 : AnsOk Try.prog 17 (f17_cOf R_f17)) : Cx := mkCx (tabOf rows) (f4_C R_f9 R_f14 R_f15 R_f16 R_f17) md (cmpIn cmps) f4_plan (f4_Cok R_f9 R_f14 R_f15 R_f16 R_f17 hR_f9 hR_f14 hR_f15 hR_f16 hR_f17)
def f4_J1 {X : Type} (R_f9 : f9_R) (R_f14 : f14_R) (R_f15 : f15_R) (R_f16 : f16_R) (R_f17 : f17_R) (k : Nat) (K : Bool → Option X) (u3 : Int × Int × Int × Nat × Nat × Nat × Int × (List CV) × (List CV) × (List CV)) (u4 : Int × Int × Int × Nat × Nat × Nat × Int × (List CV) × (List CV) × (List CV)) (v13 : Unit) : Option X :=
(bif (u3.2.2.2.2.2.2.1 == u4.2.2.2.2.2.2.1) then
R_f17 _ (fun u14 =>
K (u14)) ((CV.agg [(CV.int .i64 u3.1), (CV.int .i64 u3.2.1), (CV.int .i64 u3.2.2.1), (CV.slc none (List.take u3.2.2.2.1 (List.drop 0 u3.2.2.2.2.2.2.2.1))), (CV.slc (some 2) (List.take u3.2.2.2.2.1 (List.drop 0 u3.2.2.2.2.2.2.2.2.1))), (CV.slc none (List.take u3.2.2.2.2.2.1 (List.drop 0 u3.2.2.2.2.2.2.2.2.2)))])) ((CV.agg [(CV.int .i64 u4.1), (CV.int .i64 u4.2.1), (CV.int .i64 u4.2.2.1), (CV.slc none (List.take u4.2.2.2.1 (List.drop 0 u4.2.2.2.2.2.2.2.1))), (CV.slc (some 2) (List.take u4.2.2.2.2.1 (List.drop 0 u4.2.2.2.2.2.2.2.2.1))), (CV.slc none (List.take u4.2.2.2.2.2.1 (List.drop 0 u4.2.2.2.2.2.2.2.2.2)))]))
else
K (false))
def f4_J2 {X : Type} (R_f9 : f9_R) (R_f14 : f14_R) (R_f15 : f15_R) (R_f16 : f16_R) (R_f17 : f17_R) (k : Nat) (K : Bool → Option X) (u3 : Int × Int × Int × Nat × Nat × Nat × Int × (List CV) × (List CV) × (List CV)) (u4 : Int × Int × Int × Nat × Nat × Nat × Int × (List CV) × (List CV) × (List CV)) (v27 : Unit) : Option X :=
(bif (u3.2.2.2.2.2.2.1 == u4.2.2.2.2.2.2.1) then
R_f17 _ (fun u28 =>
K (u28)) ((CV.agg [(CV.int .i64 u3.1), (CV.int .i64 u3.2.1), (CV.int .i64 u3.2.2.1), (CV.slc none (List.take u3.2.2.2.1 (List.drop 0 u3.2.2.2.2.2.2.2.1))), (CV.slc (some 2) (List.take u3.2.2.2.2.1 (List.drop 0 u3.2.2.2.2.2.2.2.2.1))), (CV.slc none (List.take u3.2.2.2.2.2.1 (List.drop 0 u3.2.2.2.2.2.2.2.2.2)))])) ((CV.agg [(CV.int .i64 u4.1), (CV.int .i64 u4.2.1), (CV.int .i64 u4.2.2.1), (CV.slc none (List.take u4.2.2.2.1 (List.drop 0 u4.2.2.2.2.2.2.2.1))), (CV.slc (some 2) (List.take u4.2.2.2.2.1 (List.drop 0 u4.2.2.2.2.2.2.2.2.1))), (CV.slc none (List.take u4.2.2.2.2.2.1 (List.drop 0 u4.2.2.2.2.2.2.2.2.2)))]))
else
K (false))
def f4_T {X : Type} (R_f9 : f9_R) (R_f14 : f14_R) (R_f15 : f15_R) (R_f16 : f16_R) (R_f17 : f17_R) (k : Nat) (K : Bool → Option X)  (x0 : List CV) : Option X :=
R_f9 _ (fun u2 =>
(bif (!u2) then
K (false)
else
(bif (decide ((Nat.cast ((List.length x0)) : Int) > 4000)) then
K (true)
else
R_f14 _ (fun u3 =>
R_f15 _ (fun u4 =>
R_f16 _ (fun u5 =>
(bif (decide ((Nat.cast ((List.length x0)) : Int) ≥ 4)) then
Option.bind (x0)[0]? fun e6 =>
grd (CV.isI .u8 e6) <|
(bif (!(u5.2.2 == ((bop .and .u8 (CV.toI e6) 192) == 64))) then
K (false)
else
(bif (!u5.2.2) then
(bif (u5.1 != 0) then
K (false)
else
(bif (u5.2.1 != 0) then
K (false)
else
(bif u5.2.2 then
Option.bind (x0)[0]? fun e15 =>
grd (CV.isI .u8 e15) <|
(bif (u5.1 != (IntKind.wrap .i64 (Int.tdiv (IntKind.wrap .i64 (bop .and .u8 (CV.toI e15) 48)) 16))) then
K (false)
else
Option.bind (x0)[2]? fun e16 =>
grd (CV.isI .u8 e16) <|
Option.bind (x0)[3]? fun e17 =>
grd (CV.isI .u8 e17) <|
(bif (u5.2.1 != (IntKind.wrap .i64 ((IntKind.wrap .i64 ((IntKind.wrap .i64 (CV.toI e16)) * 256)) + (IntKind.wrap .i64 (CV.toI e17))))) then
K (false)
else
f4_J1 R_f9 R_f14 R_f15 R_f16 R_f17 k K u3 u4 (())))
else
f4_J1 R_f9 R_f14 R_f15 R_f16 R_f17 k K u3 u4 (()))))
else
(bif u5.2.2 then
Option.bind (x0)[0]? fun e18 =>
grd (CV.isI .u8 e18) <|
(bif (u5.1 != (IntKind.wrap .i64 (Int.tdiv (IntKind.wrap .i64 (bop .and .u8 (CV.toI e18) 48)) 16))) then
K (false)
else
Option.bind (x0)[2]? fun e19 =>
grd (CV.isI .u8 e19) <|
Option.bind (x0)[3]? fun e20 =>
grd (CV.isI .u8 e20) <|
(bif (u5.2.1 != (IntKind.wrap .i64 ((IntKind.wrap .i64 ((IntKind.wrap .i64 (CV.toI e19)) * 256)) + (IntKind.wrap .i64 (CV.toI e20))))) then
K (false)
else
f4_J1 R_f9 R_f14 R_f15 R_f16 R_f17 k K u3 u4 (())))
else
f4_J1 R_f9 R_f14 R_f15 R_f16 R_f17 k K u3 u4 (()))))
else
(bif (!(u5.2.2 == false)) then
K (false)
else
(bif (!u5.2.2) then
(bif (u5.1 != 0) then
K (false)
else
(bif (u5.2.1 != 0) then
K (false)
else
(bif u5.2.2 then
Option.bind (x0)[0]? fun e29 =>
grd (CV.isI .u8 e29) <|
(bif (u5.1 != (IntKind.wrap .i64 (Int.tdiv (IntKind.wrap .i64 (bop .and .u8 (CV.toI e29) 48)) 16))) then
K (false)
else
Option.bind (x0)[2]? fun e30 =>
grd (CV.isI .u8 e30) <|
Option.bind (x0)[3]? fun e31 =>
grd (CV.isI .u8 e31) <|
(bif (u5.2.1 != (IntKind.wrap .i64 ((IntKind.wrap .i64 ((IntKind.wrap .i64 (CV.toI e30)) * 256)) + (IntKind.wrap .i64 (CV.toI e31))))) then
K (false)
else
f4_J2 R_f9 R_f14 R_f15 R_f16 R_f17 k K u3 u4 (())))
else
f4_J2 R_f9 R_f14 R_f15 R_f16 R_f17 k K u3 u4 (()))))
else
(bif u5.2.2 then
Option.bind (x0)[0]? fun e32 =>
grd (CV.isI .u8 e32) <|
(bif (u5.1 != (IntKind.wrap .i64 (Int.tdiv (IntKind.wrap .i64 (bop .and .u8 (CV.toI e32) 48)) 16))) then
K (false)
else
Option.bind (x0)[2]? fun e33 =>
grd (CV.isI .u8 e33) <|
Option.bind (x0)[3]? fun e34 =>
grd (CV.isI .u8 e34) <|
(bif (u5.2.1 != (IntKind.wrap .i64 ((IntKind.wrap .i64 ((IntKind.wrap .i64 (CV.toI e33)) * 256)) + (IntKind.wrap .i64 (CV.toI e34))))) then
K (false)
else
f4_J2 R_f9 R_f14 R_f15 R_f16 R_f17 k K u3 u4 (())))
else
f4_J2 R_f9 R_f14 R_f15 R_f16 R_f17 k K u3 u4 (())))))) (x0)) (x0)) (x0)))) 
/-- "outpost/outpostlaw09.MsgReads" -/
def f4_A (R_f9 : f9_R) (R_f14 : f14_R) (R_f15 : f15_R) (R_f16 : f16_R) (R_f17 : f17_R) (k : Nat) : f4_R := fun X K x0 => f4_T R_f9 R_f14 R_f15 R_f16 R_f17 k K  x0
set_option maxRecDepth 100000 in
theorem f4_ev' {X : Type} (R_f9 : f9_R) (R_f14 : f14_R) (R_f15 : f15_R) (R_f16 : f16_R) (R_f17 : f17_R) (hR_f9 : AnsOk Try.prog 9 (f9_cOf R_f9)) (hR_f14 : AnsOk Try.prog 14 (f14_cOf R_f14)) (hR_f15 : AnsOk Try.prog 15 (f15_cOf R_f15)) (hR_f16 : AnsOk Try.prog 16 (f16_cOf R_f16)) (hR_f17 : AnsOk Try.prog 17 (f17_cOf R_f17)) (k : Nat) (K : Out → Option X) (x0 : List CV) : evFn (f4_cx R_f9 R_f14 R_f15 R_f16 R_f17 hR_f9 hR_f14 hR_f15 hR_f16 hR_f17) [] k Try.f4.ntmps Try.f4.results.toList (Try.f4.body.getD .skip) [(.sl true none x0)] [] K = f4_T R_f9 R_f14 R_f15 R_f16 R_f17 k (fun u => K (f4_out u)) x0 := by kernel_rfl
theorem f4_ev {X : Type} (R_f9 : f9_R) (R_f14 : f14_R) (R_f15 : f15_R) (R_f16 : f16_R) (R_f17 : f17_R) (hR_f9 : AnsOk Try.prog 9 (f9_cOf R_f9)) (hR_f14 : AnsOk Try.prog 14 (f14_cOf R_f14)) (hR_f15 : AnsOk Try.prog 15 (f15_cOf R_f15)) (hR_f16 : AnsOk Try.prog 16 (f16_cOf R_f16)) (hR_f17 : AnsOk Try.prog 17 (f17_cOf R_f17)) (k : Nat) (K : Out → Option X) (x0 : List CV) : evFn (f4_cx R_f9 R_f14 R_f15 R_f16 R_f17 hR_f9 hR_f14 hR_f15 hR_f16 hR_f17) [] k Try.f4.ntmps Try.f4.results.toList (Try.f4.body.getD .skip) [(.sl true none x0)] [] K = f4_A R_f9 R_f14 R_f15 R_f16 R_f17 k X (fun u => K (f4_out u)) x0 := (f4_ev' R_f9 R_f14 R_f15 R_f16 R_f17 hR_f9 hR_f14 hR_f15 hR_f16 hR_f17 k K x0).trans rfl
theorem f4_okA (R_f9 : f9_R) (R_f14 : f14_R) (R_f15 : f15_R) (R_f16 : f16_R) (R_f17 : f17_R) (hR_f9 : AnsOk Try.prog 9 (f9_cOf R_f9)) (hR_f14 : AnsOk Try.prog 14 (f14_cOf R_f14)) (hR_f15 : AnsOk Try.prog 15 (f15_cOf R_f15)) (hR_f16 : AnsOk Try.prog 16 (f16_cOf R_f16)) (hR_f17 : AnsOk Try.prog 17 (f17_cOf R_f17)) (k : Nat) : AnsOk Try.prog 4 (f4_cOf (f4_A R_f9 R_f14 R_f15 R_f16 R_f17 k)) := by
  intro X xs ns K x h
  unfold f4_cOf at h ⊢
  split at h
  · exact ans_main S (f4_Cok R_f9 R_f14 R_f15 R_f16 R_f17 hR_f9 hR_f14 hR_f15 hR_f16 hR_f17) Try.func4 (ent_of Try.func4 (by kernel_rfl) rfl) rfl (fun X K => f4_ev R_f9 R_f14 R_f15 R_f16 R_f17 hR_f9 hR_f14 hR_f15 hR_f16 hR_f17 k K _) h
  · cases h
/-- "outpost/outpostlaw09.MsgReads" -/
def f4 {X : Type} (k : Nat) (K : Bool → Option X) (x0 : List CV) : Option X := f4_A (fun X => @f9 X k) (fun X => @f14 X k) (fun X => @f15 X k) (fun X => @f16 X k) (fun X => @f17 X k) k X K x0
theorem f4_ok (k : Nat) : AnsOk Try.prog 4 (f4_cOf (fun X => @f4 X k)) := f4_okA (fun X => @f9 X k) (fun X => @f14 X k) (fun X => @f15 X k) (fun X => @f16 X k) (fun X => @f17 X k) (f9_ok k) (f14_ok k) (f15_ok k) (f16_ok k) (f17_ok k) k
abbrev f22_R : Type 1 := (X : Type) → (Int × Int × Int × (List CV) × (List CV) × (List CV) → Option X) → CV → Int → Int → (List CV) → (List CV) → Option X
def f22_out (u : Int × Int × Int × (List CV) × (List CV) × (List CV)) : Out := ⟨(.agg [(.v (CV.int .i64 u.1)), (.v (CV.int .i64 u.2.1)), (.v (CV.int .i64 u.2.2.1)), (.sl true none u.2.2.2.1), (.sl true (some 2) u.2.2.2.2.1), (.sl true none u.2.2.2.2.2)]), []⟩
def f22_cOf (R : f22_R) : FnC := fun X xs ns K => match xs, ns with
  | [(.v x0), (.v (CV.int .i64 x1)), (.v (CV.int .i64 x2)), (.sl true (some 2) x3), (.sl true none x4)], [] => R X (fun u => K (f22_out u)) x0 x1 x2 x3 x4
  | _, _ => none
def f22_plan : Nat → Option (List Nat × List Wk)
  | 0 => some ([0, 1, 2, 3, 4], [])
  | 1 => some ([1, 2, 3, 4, 5, 10], [])
  | 2 => some ([5, 10, 11], [])
  | 3 => some ([5, 10, 11], [])
  | 4 => some ([5, 10, 11], [])
  | 5 => some ([10, 11], [])
  | _ => none
def f22_C : Fns := noC
theorem f22_Cok : CsOk Try.prog (f22_C) := noC_ok
def f22_cx : Cx := mkCx (tabOf rows) (f22_C) md (cmpIn cmps) f22_plan (f22_Cok)
def f22_J1 {X : Type} (k : Nat) (K : Int × Int × Int × (List CV) × (List CV) × (List CV) → Option X) (x0 : CV) (v1 : Int × Int × Int × (List CV) × (List CV)) : Option X :=
K (v1.1, v1.2.1, v1.2.2.1, (CV.toL (CV.cellD 3 x0)), v1.2.2.2.1, v1.2.2.2.2)
def f22_T {X : Type} (k : Nat) (K : Int × Int × Int × (List CV) × (List CV) × (List CV) → Option X)  (x0 : CV) (x1 : Int) (x2 : Int) (x3 : List CV) (x4 : List CV) : Option X :=
grd (CV.isA 6 x0) <|
grd (CV.isI .i64 (CV.cellD 0 x0)) <|
grd (CV.isI .i64 (CV.cellD 1 x0)) <|
grd (CV.isI .i64 (CV.cellD 2 x0)) <|
grd (CV.isL none (CV.cellD 3 x0)) <|
grd (CV.isL (some 2) (CV.cellD 4 x0)) <|
grd (CV.isL none (CV.cellD 5 x0)) <|
(bif ((CV.toI (CV.cellD 0 x0)) == 0) then
f22_J1 k K x0 (2, x1, (CV.toI (CV.cellD 2 x0)), x3, x4)
else
f22_J1 k K x0 (1, x1, x2, x3, x4))
/-- "outpost/outpostref09.Reply" -/
def f22_A (k : Nat) : f22_R := fun X K x0 x1 x2 x3 x4 => f22_T k K  x0 x1 x2 x3 x4
set_option maxRecDepth 100000 in
theorem f22_ev' {X : Type} (k : Nat) (K : Out → Option X) (x0 : CV) (x1 : Int) (x2 : Int) (x3 : List CV) (x4 : List CV) : evFn (f22_cx) [] k Try.f22.ntmps Try.f22.results.toList (Try.f22.body.getD .skip) [(.v x0), (.v (CV.int .i64 x1)), (.v (CV.int .i64 x2)), (.sl true (some 2) x3), (.sl true none x4)] [] K = f22_T k (fun u => K (f22_out u)) x0 x1 x2 x3 x4 := by kernel_rfl
theorem f22_ev {X : Type} (k : Nat) (K : Out → Option X) (x0 : CV) (x1 : Int) (x2 : Int) (x3 : List CV) (x4 : List CV) : evFn (f22_cx) [] k Try.f22.ntmps Try.f22.results.toList (Try.f22.body.getD .skip) [(.v x0), (.v (CV.int .i64 x1)), (.v (CV.int .i64 x2)), (.sl true (some 2) x3), (.sl true none x4)] [] K = f22_A k X (fun u => K (f22_out u)) x0 x1 x2 x3 x4 := (f22_ev' k K x0 x1 x2 x3 x4).trans rfl
theorem f22_okA (k : Nat) : AnsOk Try.prog 22 (f22_cOf (f22_A k)) := by
  intro X xs ns K x h
  unfold f22_cOf at h ⊢
  split at h
  · exact ans_main S (f22_Cok) Try.func22 (ent_of Try.func22 (by kernel_rfl) rfl) rfl (fun X K => f22_ev k K _ _ _ _ _) h
  · cases h
/-- "outpost/outpostref09.Reply" -/
def f22 {X : Type} (k : Nat) (K : Int × Int × Int × (List CV) × (List CV) × (List CV) → Option X) (x0 : CV) (x1 : Int) (x2 : Int) (x3 : List CV) (x4 : List CV) : Option X := f22_A k X K x0 x1 x2 x3 x4
theorem f22_ok (k : Nat) : AnsOk Try.prog 22 (f22_cOf (fun X => @f22 X k)) := f22_okA k
abbrev f24_R : Type 1 := (X : Type) → (Bool → Option X) → CV → Option X
def f24_out (u : Bool) : Out := ⟨(.v (CV.bool u)), []⟩
def f24_cOf (R : f24_R) : FnC := fun X xs ns K => match xs, ns with
  | [(.v x0)], [] => R X (fun u => K (f24_out u)) x0
  | _, _ => none
def f24_plan : Nat → Option (List Nat × List Wk)
  | 0 => some ([0], [])
  | 1 => some ([1], [])
  | _ => none
def f24_C : Fns := noC
theorem f24_Cok : CsOk Try.prog (f24_C) := noC_ok
def f24_cx : Cx := mkCx (tabOf rows) (f24_C) md (cmpIn cmps) f24_plan (f24_Cok)
def f24_T {X : Type} (k : Nat) (K : Bool → Option X)  (x0 : CV) : Option X :=
grd (CV.isA 6 x0) <|
grd (CV.isI .i64 (CV.cellD 0 x0)) <|
grd (CV.isI .i64 (CV.cellD 1 x0)) <|
grd (CV.isI .i64 (CV.cellD 2 x0)) <|
grd (CV.isL none (CV.cellD 3 x0)) <|
grd (CV.isL (some 2) (CV.cellD 4 x0)) <|
grd (CV.isL none (CV.cellD 5 x0)) <|
(bif (decide ((CV.toI (CV.cellD 1 x0)) ≥ 1)) then
K ((decide ((CV.toI (CV.cellD 1 x0)) ≤ 31)))
else
K (false))
/-- "outpost/outpostref09.Request" -/
def f24_A (k : Nat) : f24_R := fun X K x0 => f24_T k K  x0
set_option maxRecDepth 100000 in
theorem f24_ev' {X : Type} (k : Nat) (K : Out → Option X) (x0 : CV) : evFn (f24_cx) [] k Try.f24.ntmps Try.f24.results.toList (Try.f24.body.getD .skip) [(.v x0)] [] K = f24_T k (fun u => K (f24_out u)) x0 := by kernel_rfl
theorem f24_ev {X : Type} (k : Nat) (K : Out → Option X) (x0 : CV) : evFn (f24_cx) [] k Try.f24.ntmps Try.f24.results.toList (Try.f24.body.getD .skip) [(.v x0)] [] K = f24_A k X (fun u => K (f24_out u)) x0 := (f24_ev' k K x0).trans rfl
theorem f24_okA (k : Nat) : AnsOk Try.prog 24 (f24_cOf (f24_A k)) := by
  intro X xs ns K x h
  unfold f24_cOf at h ⊢
  split at h
  · exact ans_main S (f24_Cok) Try.func24 (ent_of Try.func24 (by kernel_rfl) rfl) rfl (fun X K => f24_ev k K _) h
  · cases h
/-- "outpost/outpostref09.Request" -/
def f24 {X : Type} (k : Nat) (K : Bool → Option X) (x0 : CV) : Option X := f24_A k X K x0
theorem f24_ok (k : Nat) : AnsOk Try.prog 24 (f24_cOf (fun X => @f24 X k)) := f24_okA k
abbrev f26_R : Type 1 := (X : Type) → (Bool → Option X) → CV → Option X
def f26_out (u : Bool) : Out := ⟨(.v (CV.bool u)), []⟩
def f26_cOf (R : f26_R) : FnC := fun X xs ns K => match xs, ns with
  | [(.v x0)], [] => R X (fun u => K (f26_out u)) x0
  | _, _ => none
def f26_plan : Nat → Option (List Nat × List Wk)
  | 0 => some ([0], [])
  | 1 => some ([1], [])
  | _ => none
def f26_C : Fns := noC
theorem f26_Cok : CsOk Try.prog (f26_C) := noC_ok
def f26_cx : Cx := mkCx (tabOf rows) (f26_C) md (cmpIn cmps) f26_plan (f26_Cok)
def f26_T {X : Type} (k : Nat) (K : Bool → Option X)  (x0 : CV) : Option X :=
grd (CV.isA 6 x0) <|
grd (CV.isI .i64 (CV.cellD 0 x0)) <|
grd (CV.isI .i64 (CV.cellD 1 x0)) <|
grd (CV.isI .i64 (CV.cellD 2 x0)) <|
grd (CV.isL none (CV.cellD 3 x0)) <|
grd (CV.isL (some 2) (CV.cellD 4 x0)) <|
grd (CV.isL none (CV.cellD 5 x0)) <|
(bif (decide ((CV.toI (CV.cellD 1 x0)) ≥ 64)) then
(bif (decide ((CV.toI (CV.cellD 1 x0)) ≤ 95)) then
K (true)
else
(bif (decide ((CV.toI (CV.cellD 1 x0)) ≥ 128)) then
K ((decide ((CV.toI (CV.cellD 1 x0)) ≤ 191)))
else
K (false)))
else
(bif (decide ((CV.toI (CV.cellD 1 x0)) ≥ 128)) then
K ((decide ((CV.toI (CV.cellD 1 x0)) ≤ 191)))
else
K (false)))
/-- "outpost/outpostref09.Answer" -/
def f26_A (k : Nat) : f26_R := fun X K x0 => f26_T k K  x0
set_option maxRecDepth 100000 in
theorem f26_ev' {X : Type} (k : Nat) (K : Out → Option X) (x0 : CV) : evFn (f26_cx) [] k Try.f26.ntmps Try.f26.results.toList (Try.f26.body.getD .skip) [(.v x0)] [] K = f26_T k (fun u => K (f26_out u)) x0 := by kernel_rfl
theorem f26_ev {X : Type} (k : Nat) (K : Out → Option X) (x0 : CV) : evFn (f26_cx) [] k Try.f26.ntmps Try.f26.results.toList (Try.f26.body.getD .skip) [(.v x0)] [] K = f26_A k X (fun u => K (f26_out u)) x0 := (f26_ev' k K x0).trans rfl
theorem f26_okA (k : Nat) : AnsOk Try.prog 26 (f26_cOf (f26_A k)) := by
  intro X xs ns K x h
  unfold f26_cOf at h ⊢
  split at h
  · exact ans_main S (f26_Cok) Try.func26 (ent_of Try.func26 (by kernel_rfl) rfl) rfl (fun X K => f26_ev k K _) h
  · cases h
/-- "outpost/outpostref09.Answer" -/
def f26 {X : Type} (k : Nat) (K : Bool → Option X) (x0 : CV) : Option X := f26_A k X K x0
theorem f26_ok (k : Nat) : AnsOk Try.prog 26 (f26_cOf (fun X => @f26 X k)) := f26_okA k
abbrev f5_R : Type 1 := (X : Type) → (Bool → Option X) → CV → Int → Int → (List CV) → (List CV) → Option X
def f5_out (u : Bool) : Out := ⟨(.v (CV.bool u)), []⟩
def f5_cOf (R : f5_R) : FnC := fun X xs ns K => match xs, ns with
  | [(.v x0), (.v (CV.int .i64 x1)), (.v (CV.int .i64 x2)), (.sl true (some 2) x3), (.sl true none x4)], [] => R X (fun u => K (f5_out u)) x0 x1 x2 x3 x4
  | _, _ => none
def f5_plan : Nat → Option (List Nat × List Wk)
  | 0 => some ([0, 1, 2, 3, 4], [])
  | 1 => some ([1, 2, 3, 4, 5], [])
  | 2 => some ([], [])
  | 3 => some ([1, 2, 3, 4, 5], [])
  | 4 => some ([], [])
  | 5 => some ([1, 2, 3, 4, 5], [])
  | 6 => some ([], [])
  | 7 => some ([1, 2, 3, 4, 5], [])
  | 8 => some ([1, 2, 3, 4, 5, 11, 12], [])
  | _ => none
def f5_C (R_f9 : f9_R) (R_f10 : f10_R) (R_f18 : f18_R) (R_f19 : f19_R) (R_f20 : f20_R) (R_f21 : f21_R) (R_f22 : f22_R) (R_f17 : f17_R) (R_f23 : f23_R) (R_f24 : f24_R) (R_f25 : f25_R) (R_f26 : f26_R) : Fns := (orC 9 (f9_cOf R_f9) (orC 10 (f10_cOf R_f10) (orC 17 (f17_cOf R_f17) (orC 18 (f18_cOf R_f18) (orC 19 (f19_cOf R_f19) (orC 20 (f20_cOf R_f20) (orC 21 (f21_cOf R_f21) (orC 22 (f22_cOf R_f22) (orC 23 (f23_cOf R_f23) (orC 24 (f24_cOf R_f24) (orC 25 (f25_cOf R_f25) (orC 26 (f26_cOf R_f26) noC))))))))))))
theorem f5_Cok (R_f9 : f9_R) (R_f10 : f10_R) (R_f18 : f18_R) (R_f19 : f19_R) (R_f20 : f20_R) (R_f21 : f21_R) (R_f22 : f22_R) (R_f17 : f17_R) (R_f23 : f23_R) (R_f24 : f24_R) (R_f25 : f25_R) (R_f26 : f26_R) (hR_f9 : AnsOk Try.prog 9 (f9_cOf R_f9)) (hR_f10 : AnsOk Try.prog 10 (f10_cOf R_f10)) (hR_f18 : AnsOk Try.prog 18 (f18_cOf R_f18)) (hR_f19 : AnsOk Try.prog 19 (f19_cOf R_f19)) (hR_f20 : AnsOk Try.prog 20 (f20_cOf R_f20)) (hR_f21 : AnsOk Try.prog 21 (f21_cOf R_f21)) (hR_f22 : AnsOk Try.prog 22 (f22_cOf R_f22)) (hR_f17 : AnsOk Try.prog 17 (f17_cOf R_f17)) (hR_f23 : AnsOk Try.prog 23 (f23_cOf R_f23)) (hR_f24 : AnsOk Try.prog 24 (f24_cOf R_f24)) (hR_f25 : AnsOk Try.prog 25 (f25_cOf R_f25)) (hR_f26 : AnsOk Try.prog 26 (f26_cOf R_f26)) : CsOk Try.prog (f5_C R_f9 R_f10 R_f18 R_f19 R_f20 R_f21 R_f22 R_f17 R_f23 R_f24 R_f25 R_f26) := (orC_ok hR_f9 (orC_ok hR_f10 (orC_ok hR_f17 (orC_ok hR_f18 (orC_ok hR_f19 (orC_ok hR_f20 (orC_ok hR_f21 (orC_ok hR_f22 (orC_ok hR_f23 (orC_ok hR_f24 (orC_ok hR_f25 (orC_ok hR_f26 noC_ok))))))))))))
def f5_cx (R_f9 : f9_R) (R_f10 : f10_R) (R_f18 : f18_R) (R_f19 : f19_R) (R_f20 : f20_R) (R_f21 : f21_R) (R_f22 : f22_R) (R_f17 : f17_R) (R_f23 : f23_R) (R_f24 : f24_R) (R_f25 : f25_R) (R_f26 : f26_R) (hR_f9 : AnsOk Try.prog 9 (f9_cOf R_f9)) (hR_f10 : AnsOk Try.prog 10 (f10_cOf R_f10)) (hR_f18 : AnsOk Try.prog 18 (f18_cOf R_f18)) (hR_f19 : AnsOk Try.prog 19 (f19_cOf R_f19)) (hR_f20 : AnsOk Try.prog 20 (f20_cOf R_f20)) (hR_f21 : AnsOk Try.prog 21 (f21_cOf R_f21)) (hR_f22 : AnsOk Try.prog 22 (f22_cOf R_f22)) (hR_f17 : AnsOk Try.prog 17 (f17_cOf R_f17)) (hR_f23 : AnsOk Try.prog 23 (f23_cOf R_f23)) (hR_f24 : AnsOk Try.prog 24 (f24_cOf R_f24)) (hR_f25 : AnsOk Try.prog 25 (f25_cOf R_f25)) (hR_f26 : AnsOk Try.prog 26 (f26_cOf R_f26)) : Cx := mkCx (tabOf rows) (f5_C R_f9 R_f10 R_f18 R_f19 R_f20 R_f21 R_f22 R_f17 R_f23 R_f24 R_f25 R_f26) md (cmpIn cmps) f5_plan (f5_Cok R_f9 R_f10 R_f18 R_f19 R_f20 R_f21 R_f22 R_f17 R_f23 R_f24 R_f25 R_f26 hR_f9 hR_f10 hR_f18 hR_f19 hR_f20 hR_f21 hR_f22 hR_f17 hR_f23 hR_f24 hR_f25 hR_f26)
def f5_T {X : Type} (R_f9 : f9_R) (R_f10 : f10_R) (R_f18 : f18_R) (R_f19 : f19_R) (R_f20 : f20_R) (R_f21 : f21_R) (R_f22 : f22_R) (R_f17 : f17_R) (R_f23 : f23_R) (R_f24 : f24_R) (R_f25 : f25_R) (R_f26 : f26_R) (k : Nat) (K : Bool → Option X)  (x0 : CV) (x1 : Int) (x2 : Int) (x3 : List CV) (x4 : List CV) : Option X :=
grd (CV.isA 6 x0) <|
grd (CV.isI .i64 (CV.cellD 0 x0)) <|
grd (CV.isI .i64 (CV.cellD 1 x0)) <|
grd (CV.isI .i64 (CV.cellD 2 x0)) <|
grd (CV.isL none (CV.cellD 3 x0)) <|
grd (CV.isL (some 2) (CV.cellD 4 x0)) <|
grd (CV.isL none (CV.cellD 5 x0)) <|
R_f9 _ (fun u2 =>
(bif (!u2) then
K (false)
else
R_f10 _ (fun u5 =>
(bif (!u5) then
K (true)
else
R_f18 _ (fun u6 =>
(bif (!u6) then
K (true)
else
(bif (decide ((Nat.cast ((List.length x4)) : Int) > 2000)) then
K (true)
else
(bif (decide ((CV.toI (CV.cellD 1 x0)) < 0)) then
K (true)
else
(bif (decide ((CV.toI (CV.cellD 1 x0)) > 255)) then
K (true)
else
R_f19 _ (fun u7 =>
R_f20 _ (fun u8 =>
R_f21 _ (fun u9 =>
R_f22 _ (fun u10 =>
R_f17 _ (fun u11 =>
(bif u11 then
R_f23 _ (fun u12 =>
R_f24 _ (fun u13 =>
(bif (u12 == u13) then
R_f25 _ (fun u14 =>
R_f26 _ (fun u15 =>
(bif (u14 == u15) then
R_f17 _ (fun u16 =>
(bif u16 then
R_f17 _ (fun u17 =>
K (u17)) ((CV.agg [(CV.int .i64 3), (CV.int .i64 0), (CV.int .i64 u8.1), (CV.slc none (List.take 0 (List.drop 0 u8.2.1))), (CV.slc (some 2) (List.take 0 (List.drop 0 u8.2.2.1))), (CV.slc none (List.take 0 (List.drop 0 u8.2.2.2)))])) ((CV.agg [(CV.int .i64 3), (CV.int .i64 0), (CV.int .i64 x2), (CV.slc none []), (CV.slc (some 2) []), (CV.slc none [])]))
else
K (false))) ((CV.agg [(CV.int .i64 2), (CV.int .i64 0), (CV.int .i64 u7.1), (CV.slc none (List.take 0 (List.drop 0 u7.2.1))), (CV.slc (some 2) (List.take 0 (List.drop 0 u7.2.2.1))), (CV.slc none (List.take 0 (List.drop 0 u7.2.2.2)))])) ((CV.agg [(CV.int .i64 2), (CV.int .i64 0), (CV.int .i64 (CV.toI (CV.cellD 2 x0))), (CV.slc none []), (CV.slc (some 2) []), (CV.slc none [])]))
else
K (false))) ((CV.agg [(CV.int .i64 (CV.toI (CV.cellD 0 x0))), (CV.int .i64 (CV.toI (CV.cellD 1 x0))), (CV.int .i64 (CV.toI (CV.cellD 2 x0))), (CV.slc none (CV.toL (CV.cellD 3 x0))), (CV.slc (some 2) (CV.toL (CV.cellD 4 x0))), (CV.slc none (CV.toL (CV.cellD 5 x0)))]))) ((CV.agg [(CV.int .i64 (CV.toI (CV.cellD 0 x0))), (CV.int .i64 (CV.toI (CV.cellD 1 x0))), (CV.int .i64 (CV.toI (CV.cellD 2 x0))), (CV.slc none (CV.toL (CV.cellD 3 x0))), (CV.slc (some 2) (CV.toL (CV.cellD 4 x0))), (CV.slc none (CV.toL (CV.cellD 5 x0)))]))
else
K (false))) ((CV.agg [(CV.int .i64 (CV.toI (CV.cellD 0 x0))), (CV.int .i64 (CV.toI (CV.cellD 1 x0))), (CV.int .i64 (CV.toI (CV.cellD 2 x0))), (CV.slc none (CV.toL (CV.cellD 3 x0))), (CV.slc (some 2) (CV.toL (CV.cellD 4 x0))), (CV.slc none (CV.toL (CV.cellD 5 x0)))]))) ((CV.agg [(CV.int .i64 (CV.toI (CV.cellD 0 x0))), (CV.int .i64 (CV.toI (CV.cellD 1 x0))), (CV.int .i64 (CV.toI (CV.cellD 2 x0))), (CV.slc none (CV.toL (CV.cellD 3 x0))), (CV.slc (some 2) (CV.toL (CV.cellD 4 x0))), (CV.slc none (CV.toL (CV.cellD 5 x0)))]))
else
K (false))) ((CV.agg [(CV.int .i64 u9.1), (CV.int .i64 u9.2.1), (CV.int .i64 u9.2.2.1), (CV.slc none (List.take u9.2.2.2.1 (List.drop 0 u9.2.2.2.2.2.2.1))), (CV.slc (some 2) (List.take u9.2.2.2.2.1 (List.drop 0 u9.2.2.2.2.2.2.2.1))), (CV.slc none (List.take u9.2.2.2.2.2.1 (List.drop 0 u9.2.2.2.2.2.2.2.2)))])) ((CV.agg [(CV.int .i64 u10.1), (CV.int .i64 u10.2.1), (CV.int .i64 u10.2.2.1), (CV.slc none u10.2.2.2.1), (CV.slc (some 2) u10.2.2.2.2.1), (CV.slc none u10.2.2.2.2.2)]))) ((CV.agg [(CV.int .i64 (CV.toI (CV.cellD 0 x0))), (CV.int .i64 (CV.toI (CV.cellD 1 x0))), (CV.int .i64 (CV.toI (CV.cellD 2 x0))), (CV.slc none (CV.toL (CV.cellD 3 x0))), (CV.slc (some 2) (CV.toL (CV.cellD 4 x0))), (CV.slc none (CV.toL (CV.cellD 5 x0)))])) (x1) (x2) (x3) (x4)) ((CV.agg [(CV.int .i64 (CV.toI (CV.cellD 0 x0))), (CV.int .i64 (CV.toI (CV.cellD 1 x0))), (CV.int .i64 (CV.toI (CV.cellD 2 x0))), (CV.slc none (CV.toL (CV.cellD 3 x0))), (CV.slc (some 2) (CV.toL (CV.cellD 4 x0))), (CV.slc none (CV.toL (CV.cellD 5 x0)))])) (x1) (x2) (x3) (x4)) (x2)) ((CV.agg [(CV.int .i64 (CV.toI (CV.cellD 0 x0))), (CV.int .i64 (CV.toI (CV.cellD 1 x0))), (CV.int .i64 (CV.toI (CV.cellD 2 x0))), (CV.slc none (CV.toL (CV.cellD 3 x0))), (CV.slc (some 2) (CV.toL (CV.cellD 4 x0))), (CV.slc none (CV.toL (CV.cellD 5 x0)))]))))))) (x3))) ((CV.agg [(CV.int .i64 (CV.toI (CV.cellD 0 x0))), (CV.int .i64 (CV.toI (CV.cellD 1 x0))), (CV.int .i64 (CV.toI (CV.cellD 2 x0))), (CV.slc none (CV.toL (CV.cellD 3 x0))), (CV.slc (some 2) (CV.toL (CV.cellD 4 x0))), (CV.slc none (CV.toL (CV.cellD 5 x0)))])))) 
/-- "outpost/outpostlaw09.MsgReplies" -/
def f5_A (R_f9 : f9_R) (R_f10 : f10_R) (R_f18 : f18_R) (R_f19 : f19_R) (R_f20 : f20_R) (R_f21 : f21_R) (R_f22 : f22_R) (R_f17 : f17_R) (R_f23 : f23_R) (R_f24 : f24_R) (R_f25 : f25_R) (R_f26 : f26_R) (k : Nat) : f5_R := fun X K x0 x1 x2 x3 x4 => f5_T R_f9 R_f10 R_f18 R_f19 R_f20 R_f21 R_f22 R_f17 R_f23 R_f24 R_f25 R_f26 k K  x0 x1 x2 x3 x4
set_option maxRecDepth 100000 in
theorem f5_ev' {X : Type} (R_f9 : f9_R) (R_f10 : f10_R) (R_f18 : f18_R) (R_f19 : f19_R) (R_f20 : f20_R) (R_f21 : f21_R) (R_f22 : f22_R) (R_f17 : f17_R) (R_f23 : f23_R) (R_f24 : f24_R) (R_f25 : f25_R) (R_f26 : f26_R) (hR_f9 : AnsOk Try.prog 9 (f9_cOf R_f9)) (hR_f10 : AnsOk Try.prog 10 (f10_cOf R_f10)) (hR_f18 : AnsOk Try.prog 18 (f18_cOf R_f18)) (hR_f19 : AnsOk Try.prog 19 (f19_cOf R_f19)) (hR_f20 : AnsOk Try.prog 20 (f20_cOf R_f20)) (hR_f21 : AnsOk Try.prog 21 (f21_cOf R_f21)) (hR_f22 : AnsOk Try.prog 22 (f22_cOf R_f22)) (hR_f17 : AnsOk Try.prog 17 (f17_cOf R_f17)) (hR_f23 : AnsOk Try.prog 23 (f23_cOf R_f23)) (hR_f24 : AnsOk Try.prog 24 (f24_cOf R_f24)) (hR_f25 : AnsOk Try.prog 25 (f25_cOf R_f25)) (hR_f26 : AnsOk Try.prog 26 (f26_cOf R_f26)) (k : Nat) (K : Out → Option X) (x0 : CV) (x1 : Int) (x2 : Int) (x3 : List CV) (x4 : List CV) : evFn (f5_cx R_f9 R_f10 R_f18 R_f19 R_f20 R_f21 R_f22 R_f17 R_f23 R_f24 R_f25 R_f26 hR_f9 hR_f10 hR_f18 hR_f19 hR_f20 hR_f21 hR_f22 hR_f17 hR_f23 hR_f24 hR_f25 hR_f26) [] k Try.f5.ntmps Try.f5.results.toList (Try.f5.body.getD .skip) [(.v x0), (.v (CV.int .i64 x1)), (.v (CV.int .i64 x2)), (.sl true (some 2) x3), (.sl true none x4)] [] K = f5_T R_f9 R_f10 R_f18 R_f19 R_f20 R_f21 R_f22 R_f17 R_f23 R_f24 R_f25 R_f26 k (fun u => K (f5_out u)) x0 x1 x2 x3 x4 := by kernel_rfl
theorem f5_ev {X : Type} (R_f9 : f9_R) (R_f10 : f10_R) (R_f18 : f18_R) (R_f19 : f19_R) (R_f20 : f20_R) (R_f21 : f21_R) (R_f22 : f22_R) (R_f17 : f17_R) (R_f23 : f23_R) (R_f24 : f24_R) (R_f25 : f25_R) (R_f26 : f26_R) (hR_f9 : AnsOk Try.prog 9 (f9_cOf R_f9)) (hR_f10 : AnsOk Try.prog 10 (f10_cOf R_f10)) (hR_f18 : AnsOk Try.prog 18 (f18_cOf R_f18)) (hR_f19 : AnsOk Try.prog 19 (f19_cOf R_f19)) (hR_f20 : AnsOk Try.prog 20 (f20_cOf R_f20)) (hR_f21 : AnsOk Try.prog 21 (f21_cOf R_f21)) (hR_f22 : AnsOk Try.prog 22 (f22_cOf R_f22)) (hR_f17 : AnsOk Try.prog 17 (f17_cOf R_f17)) (hR_f23 : AnsOk Try.prog 23 (f23_cOf R_f23)) (hR_f24 : AnsOk Try.prog 24 (f24_cOf R_f24)) (hR_f25 : AnsOk Try.prog 25 (f25_cOf R_f25)) (hR_f26 : AnsOk Try.prog 26 (f26_cOf R_f26)) (k : Nat) (K : Out → Option X) (x0 : CV) (x1 : Int) (x2 : Int) (x3 : List CV) (x4 : List CV) : evFn (f5_cx R_f9 R_f10 R_f18 R_f19 R_f20 R_f21 R_f22 R_f17 R_f23 R_f24 R_f25 R_f26 hR_f9 hR_f10 hR_f18 hR_f19 hR_f20 hR_f21 hR_f22 hR_f17 hR_f23 hR_f24 hR_f25 hR_f26) [] k Try.f5.ntmps Try.f5.results.toList (Try.f5.body.getD .skip) [(.v x0), (.v (CV.int .i64 x1)), (.v (CV.int .i64 x2)), (.sl true (some 2) x3), (.sl true none x4)] [] K = f5_A R_f9 R_f10 R_f18 R_f19 R_f20 R_f21 R_f22 R_f17 R_f23 R_f24 R_f25 R_f26 k X (fun u => K (f5_out u)) x0 x1 x2 x3 x4 := (f5_ev' R_f9 R_f10 R_f18 R_f19 R_f20 R_f21 R_f22 R_f17 R_f23 R_f24 R_f25 R_f26 hR_f9 hR_f10 hR_f18 hR_f19 hR_f20 hR_f21 hR_f22 hR_f17 hR_f23 hR_f24 hR_f25 hR_f26 k K x0 x1 x2 x3 x4).trans rfl
theorem f5_okA (R_f9 : f9_R) (R_f10 : f10_R) (R_f18 : f18_R) (R_f19 : f19_R) (R_f20 : f20_R) (R_f21 : f21_R) (R_f22 : f22_R) (R_f17 : f17_R) (R_f23 : f23_R) (R_f24 : f24_R) (R_f25 : f25_R) (R_f26 : f26_R) (hR_f9 : AnsOk Try.prog 9 (f9_cOf R_f9)) (hR_f10 : AnsOk Try.prog 10 (f10_cOf R_f10)) (hR_f18 : AnsOk Try.prog 18 (f18_cOf R_f18)) (hR_f19 : AnsOk Try.prog 19 (f19_cOf R_f19)) (hR_f20 : AnsOk Try.prog 20 (f20_cOf R_f20)) (hR_f21 : AnsOk Try.prog 21 (f21_cOf R_f21)) (hR_f22 : AnsOk Try.prog 22 (f22_cOf R_f22)) (hR_f17 : AnsOk Try.prog 17 (f17_cOf R_f17)) (hR_f23 : AnsOk Try.prog 23 (f23_cOf R_f23)) (hR_f24 : AnsOk Try.prog 24 (f24_cOf R_f24)) (hR_f25 : AnsOk Try.prog 25 (f25_cOf R_f25)) (hR_f26 : AnsOk Try.prog 26 (f26_cOf R_f26)) (k : Nat) : AnsOk Try.prog 5 (f5_cOf (f5_A R_f9 R_f10 R_f18 R_f19 R_f20 R_f21 R_f22 R_f17 R_f23 R_f24 R_f25 R_f26 k)) := by
  intro X xs ns K x h
  unfold f5_cOf at h ⊢
  split at h
  · exact ans_main S (f5_Cok R_f9 R_f10 R_f18 R_f19 R_f20 R_f21 R_f22 R_f17 R_f23 R_f24 R_f25 R_f26 hR_f9 hR_f10 hR_f18 hR_f19 hR_f20 hR_f21 hR_f22 hR_f17 hR_f23 hR_f24 hR_f25 hR_f26) Try.func5 (ent_of Try.func5 (by kernel_rfl) rfl) rfl (fun X K => f5_ev R_f9 R_f10 R_f18 R_f19 R_f20 R_f21 R_f22 R_f17 R_f23 R_f24 R_f25 R_f26 hR_f9 hR_f10 hR_f18 hR_f19 hR_f20 hR_f21 hR_f22 hR_f17 hR_f23 hR_f24 hR_f25 hR_f26 k K _ _ _ _ _) h
  · cases h
/-- "outpost/outpostlaw09.MsgReplies" -/
def f5 {X : Type} (k : Nat) (K : Bool → Option X) (x0 : CV) (x1 : Int) (x2 : Int) (x3 : List CV) (x4 : List CV) : Option X := f5_A (fun X => @f9 X k) (fun X => @f10 X k) (fun X => @f18 X k) (fun X => @f19 X k) (fun X => @f20 X k) (fun X => @f21 X k) (fun X => @f22 X k) (fun X => @f17 X k) (fun X => @f23 X k) (fun X => @f24 X k) (fun X => @f25 X k) (fun X => @f26 X k) k X K x0 x1 x2 x3 x4
theorem f5_ok (k : Nat) : AnsOk Try.prog 5 (f5_cOf (fun X => @f5 X k)) := f5_okA (fun X => @f9 X k) (fun X => @f10 X k) (fun X => @f18 X k) (fun X => @f19 X k) (fun X => @f20 X k) (fun X => @f21 X k) (fun X => @f22 X k) (fun X => @f17 X k) (fun X => @f23 X k) (fun X => @f24 X k) (fun X => @f25 X k) (fun X => @f26 X k) (f9_ok k) (f10_ok k) (f18_ok k) (f19_ok k) (f20_ok k) (f21_ok k) (f22_ok k) (f17_ok k) (f23_ok k) (f24_ok k) (f25_ok k) (f26_ok k) k
abbrev f6_R : Type 1 := (X : Type) → (Bool → Option X) → CV → CV → Option X
def f6_out (u : Bool) : Out := ⟨(.v (CV.bool u)), []⟩
def f6_cOf (R : f6_R) : FnC := fun X xs ns K => match xs, ns with
  | [(.v x0), (.v x1)], [] => R X (fun u => K (f6_out u)) x0 x1
  | _, _ => none
def f6_plan : Nat → Option (List Nat × List Wk)
  | 0 => some ([0, 1], [])
  | 1 => some ([2, 3], [])
  | 2 => some ([], [])
  | 3 => some ([2, 3], [])
  | 4 => some ([], [])
  | 5 => some ([2, 3], [])
  | 6 => some ([], [])
  | 7 => some ([2], [])
  | 8 => some ([2, 5, 6], [])
  | 9 => some ([5], [])
  | 10 => some ([2, 5], [])
  | 11 => some ([2, 5, 7, 8], [])
  | 12 => some ([2, 5, 7, 8, 9, 10], [])
  | 13 => some ([2, 5, 7, 8, 9, 10, 11], [])
  | 14 => some ([2, 5, 7, 8, 9, 10, 11], [])
  | 15 => some ([2, 5, 7, 8, 9, 10, 11, 12, 13, 14], [])
  | _ => none
def f6_C (R_f9 : f9_R) (R_f10 : f10_R) (R_f27 : f27_R) (R_f17 : f17_R) (R_f11 : f11_R) (R_f14 : f14_R) (R_f28 : f28_R) (R_f16 : f16_R) (R_f13 : f13_R) : Fns := (orC 9 (f9_cOf R_f9) (orC 10 (f10_cOf R_f10) (orC 11 (f11_cOf R_f11) (orC 13 (f13_cOf R_f13) (orC 14 (f14_cOf R_f14) (orC 16 (f16_cOf R_f16) (orC 17 (f17_cOf R_f17) (orC 27 (f27_cOf R_f27) (orC 28 (f28_cOf R_f28) noC)))))))))
theorem f6_Cok (R_f9 : f9_R) (R_f10 : f10_R) (R_f27 : f27_R) (R_f17 : f17_R) (R_f11 : f11_R) (R_f14 : f14_R) (R_f28 : f28_R) (R_f16 : f16_R) (R_f13 : f13_R) (hR_f9 : AnsOk Try.prog 9 (f9_cOf R_f9)) (hR_f10 : AnsOk Try.prog 10 (f10_cOf R_f10)) (hR_f27 : AnsOk Try.prog 27 (f27_cOf R_f27)) (hR_f17 : AnsOk Try.prog 17 (f17_cOf R_f17)) (hR_f11 : AnsOk Try.prog 11 (f11_cOf R_f11)) (hR_f14 : AnsOk Try.prog 14 (f14_cOf R_f14)) (hR_f28 : AnsOk Try.prog 28 (f28_cOf R_f28)) (hR_f16 : AnsOk Try.prog 16 (f16_cOf R_f16)) (hR_f13 : AnsOk Try.prog 13 (f13_cOf R_f13)) : CsOk Try.prog (f6_C R_f9 R_f10 R_f27 R_f17 R_f11 R_f14 R_f28 R_f16 R_f13) := (orC_ok hR_f9 (orC_ok hR_f10 (orC_ok hR_f11 (orC_ok hR_f13 (orC_ok hR_f14 (orC_ok hR_f16 (orC_ok hR_f17 (orC_ok hR_f27 (orC_ok hR_f28 noC_ok)))))))))
def f6_cx (R_f9 : f9_R) (R_f10 : f10_R) (R_f27 : f27_R) (R_f17 : f17_R) (R_f11 : f11_R) (R_f14 : f14_R) (R_f28 : f28_R) (R_f16 : f16_R) (R_f13 : f13_R) (hR_f9 : AnsOk Try.prog 9 (f9_cOf R_f9)) (hR_f10 : AnsOk Try.prog 10 (f10_cOf R_f10)) (hR_f27 : AnsOk Try.prog 27 (f27_cOf R_f27)) (hR_f17 : AnsOk Try.prog 17 (f17_cOf R_f17)) (hR_f11 : AnsOk Try.prog 11 (f11_cOf R_f11)) (hR_f14 : AnsOk Try.prog 14 (f14_cOf R_f14)) (hR_f28 : AnsOk Try.prog 28 (f28_cOf R_f28)) (hR_f16 : AnsOk Try.prog 16 (f16_cOf R_f16)) (hR_f13 : AnsOk Try.prog 13 (f13_cOf R_f13)) : Cx := mkCx (tabOf rows) (f6_C R_f9 R_f10 R_f27 R_f17 R_f11 R_f14 R_f28 R_f16 R_f13) md (cmpIn cmps) f6_plan (f6_Cok R_f9 R_f10 R_f27 R_f17 R_f11 R_f14 R_f28 R_f16 R_f13 hR_f9 hR_f10 hR_f27 hR_f17 hR_f11 hR_f14 hR_f28 hR_f16 hR_f13)
def f6_T {X : Type} (R_f9 : f9_R) (R_f10 : f10_R) (R_f27 : f27_R) (R_f17 : f17_R) (R_f11 : f11_R) (R_f14 : f14_R) (R_f28 : f28_R) (R_f16 : f16_R) (R_f13 : f13_R) (k : Nat) (K : Bool → Option X)  (x0 : CV) (x1 : CV) : Option X :=
grd (CV.isA 6 x0) <|
grd (CV.isI .i64 (CV.cellD 0 x0)) <|
grd (CV.isI .i64 (CV.cellD 1 x0)) <|
grd (CV.isI .i64 (CV.cellD 2 x0)) <|
grd (CV.isL none (CV.cellD 3 x0)) <|
grd (CV.isL (some 2) (CV.cellD 4 x0)) <|
grd (CV.isL none (CV.cellD 5 x0)) <|
grd (CV.isA 6 x1) <|
grd (CV.isI .i64 (CV.cellD 0 x1)) <|
grd (CV.isI .i64 (CV.cellD 1 x1)) <|
grd (CV.isI .i64 (CV.cellD 2 x1)) <|
grd (CV.isL none (CV.cellD 3 x1)) <|
grd (CV.isL (some 2) (CV.cellD 4 x1)) <|
grd (CV.isL none (CV.cellD 5 x1)) <|
R_f9 _ (fun u2 =>
(bif (!u2) then
K (false)
else
R_f10 _ (fun u5 =>
(bif (!u5) then
K (true)
else
R_f10 _ (fun u6 =>
(bif (!u6) then
K (true)
else
R_f27 _ (fun u10 =>
R_f17 _ (fun u11 =>
(bif (!(u10 == u11)) then
K (false)
else
R_f27 _ (fun u12 =>
(bif (!u12) then
K (false)
else
R_f11 _ (fun u13 =>
(bif (u13.2.1 != 0) then
K (((Nat.cast (u13.1) : Int) == 0))
else
R_f14 _ (fun u14 =>
R_f11 _ (fun u15 =>
R_f28 _ (fun u16 =>
R_f16 _ (fun u17 =>
(bif (u14.2.2.2.2.2.2.1 == 0) then
(bif (u15.2.1 == 0) then
R_f17 _ (fun u18 =>
(bif u18 then
R_f13 _ (fun u19 =>
(bif u19 then
(bif u17.2.2 then
(bif (u17.1 == (CV.toI (CV.cellD 0 x0))) then
K ((u17.2.1 == (CV.toI (CV.cellD 2 x0))))
else
K (false))
else
K (false))
else
K (false))) ((List.take u13.1 (List.drop 0 u13.2.2))) ((List.take u15.1 (List.drop 0 u15.2.2)))
else
K (false))) ((CV.agg [(CV.int .i64 u14.1), (CV.int .i64 u14.2.1), (CV.int .i64 u14.2.2.1), (CV.slc none (List.take u14.2.2.2.1 (List.drop 0 u14.2.2.2.2.2.2.2.1))), (CV.slc (some 2) (List.take u14.2.2.2.2.1 (List.drop 0 u14.2.2.2.2.2.2.2.2.1))), (CV.slc none (List.take u14.2.2.2.2.2.1 (List.drop 0 u14.2.2.2.2.2.2.2.2.2)))])) ((CV.agg [(CV.int .i64 (CV.toI (CV.cellD 0 x0))), (CV.int .i64 (CV.toI (CV.cellD 1 x0))), (CV.int .i64 (CV.toI (CV.cellD 2 x0))), (CV.slc none (CV.toL (CV.cellD 3 x0))), (CV.slc (some 2) (List.take u16.1 (List.drop 0 u16.2))), (CV.slc none (CV.toL (CV.cellD 5 x0)))]))
else
K (false))
else
K (false))) ((List.take u13.1 (List.drop 0 u13.2.2)))) ((CV.toL (CV.cellD 4 x0)))) ((CV.agg [(CV.int .i64 u14.1), (CV.int .i64 u14.2.1), (CV.int .i64 u14.2.2.1), (CV.slc none (List.take u14.2.2.2.1 (List.drop 0 u14.2.2.2.2.2.2.2.1))), (CV.slc (some 2) (List.take u14.2.2.2.2.1 (List.drop 0 u14.2.2.2.2.2.2.2.2.1))), (CV.slc none (List.take u14.2.2.2.2.2.1 (List.drop 0 u14.2.2.2.2.2.2.2.2.2)))]))) ((List.take u13.1 (List.drop 0 u13.2.2))))) ((CV.agg [(CV.int .i64 (CV.toI (CV.cellD 0 x0))), (CV.int .i64 (CV.toI (CV.cellD 1 x0))), (CV.int .i64 (CV.toI (CV.cellD 2 x0))), (CV.slc none (CV.toL (CV.cellD 3 x0))), (CV.slc (some 2) (CV.toL (CV.cellD 4 x0))), (CV.slc none (CV.toL (CV.cellD 5 x0)))])))) ((CV.agg [(CV.int .i64 (CV.toI (CV.cellD 0 x0))), (CV.int .i64 (CV.toI (CV.cellD 1 x0))), (CV.int .i64 (CV.toI (CV.cellD 2 x0))), (CV.slc none (CV.toL (CV.cellD 3 x0))), (CV.slc (some 2) (CV.toL (CV.cellD 4 x0))), (CV.slc none (CV.toL (CV.cellD 5 x0)))])) ((CV.agg [(CV.int .i64 (CV.toI (CV.cellD 0 x0))), (CV.int .i64 (CV.toI (CV.cellD 1 x0))), (CV.int .i64 (CV.toI (CV.cellD 2 x0))), (CV.slc none (CV.toL (CV.cellD 3 x0))), (CV.slc (some 2) (CV.toL (CV.cellD 4 x0))), (CV.slc none (CV.toL (CV.cellD 5 x0)))])))) ((CV.agg [(CV.int .i64 (CV.toI (CV.cellD 0 x0))), (CV.int .i64 (CV.toI (CV.cellD 1 x0))), (CV.int .i64 (CV.toI (CV.cellD 2 x0))), (CV.slc none (CV.toL (CV.cellD 3 x0))), (CV.slc (some 2) (CV.toL (CV.cellD 4 x0))), (CV.slc none (CV.toL (CV.cellD 5 x0)))])) ((CV.agg [(CV.int .i64 (CV.toI (CV.cellD 0 x1))), (CV.int .i64 (CV.toI (CV.cellD 1 x1))), (CV.int .i64 (CV.toI (CV.cellD 2 x1))), (CV.slc none (CV.toL (CV.cellD 3 x1))), (CV.slc (some 2) (CV.toL (CV.cellD 4 x1))), (CV.slc none (CV.toL (CV.cellD 5 x1)))]))) ((CV.agg [(CV.int .i64 (CV.toI (CV.cellD 0 x0))), (CV.int .i64 (CV.toI (CV.cellD 1 x0))), (CV.int .i64 (CV.toI (CV.cellD 2 x0))), (CV.slc none (CV.toL (CV.cellD 3 x0))), (CV.slc (some 2) (CV.toL (CV.cellD 4 x0))), (CV.slc none (CV.toL (CV.cellD 5 x0)))])) ((CV.agg [(CV.int .i64 (CV.toI (CV.cellD 0 x1))), (CV.int .i64 (CV.toI (CV.cellD 1 x1))), (CV.int .i64 (CV.toI (CV.cellD 2 x1))), (CV.slc none (CV.toL (CV.cellD 3 x1))), (CV.slc (some 2) (CV.toL (CV.cellD 4 x1))), (CV.slc none (CV.toL (CV.cellD 5 x1)))])))) ((CV.agg [(CV.int .i64 (CV.toI (CV.cellD 0 x1))), (CV.int .i64 (CV.toI (CV.cellD 1 x1))), (CV.int .i64 (CV.toI (CV.cellD 2 x1))), (CV.slc none (CV.toL (CV.cellD 3 x1))), (CV.slc (some 2) (CV.toL (CV.cellD 4 x1))), (CV.slc none (CV.toL (CV.cellD 5 x1)))])))) ((CV.agg [(CV.int .i64 (CV.toI (CV.cellD 0 x0))), (CV.int .i64 (CV.toI (CV.cellD 1 x0))), (CV.int .i64 (CV.toI (CV.cellD 2 x0))), (CV.slc none (CV.toL (CV.cellD 3 x0))), (CV.slc (some 2) (CV.toL (CV.cellD 4 x0))), (CV.slc none (CV.toL (CV.cellD 5 x0)))])))) 
/-- "outpost/outpostlaw09.MsgBack" -/
def f6_A (R_f9 : f9_R) (R_f10 : f10_R) (R_f27 : f27_R) (R_f17 : f17_R) (R_f11 : f11_R) (R_f14 : f14_R) (R_f28 : f28_R) (R_f16 : f16_R) (R_f13 : f13_R) (k : Nat) : f6_R := fun X K x0 x1 => f6_T R_f9 R_f10 R_f27 R_f17 R_f11 R_f14 R_f28 R_f16 R_f13 k K  x0 x1
set_option maxRecDepth 100000 in
theorem f6_ev' {X : Type} (R_f9 : f9_R) (R_f10 : f10_R) (R_f27 : f27_R) (R_f17 : f17_R) (R_f11 : f11_R) (R_f14 : f14_R) (R_f28 : f28_R) (R_f16 : f16_R) (R_f13 : f13_R) (hR_f9 : AnsOk Try.prog 9 (f9_cOf R_f9)) (hR_f10 : AnsOk Try.prog 10 (f10_cOf R_f10)) (hR_f27 : AnsOk Try.prog 27 (f27_cOf R_f27)) (hR_f17 : AnsOk Try.prog 17 (f17_cOf R_f17)) (hR_f11 : AnsOk Try.prog 11 (f11_cOf R_f11)) (hR_f14 : AnsOk Try.prog 14 (f14_cOf R_f14)) (hR_f28 : AnsOk Try.prog 28 (f28_cOf R_f28)) (hR_f16 : AnsOk Try.prog 16 (f16_cOf R_f16)) (hR_f13 : AnsOk Try.prog 13 (f13_cOf R_f13)) (k : Nat) (K : Out → Option X) (x0 : CV) (x1 : CV) : evFn (f6_cx R_f9 R_f10 R_f27 R_f17 R_f11 R_f14 R_f28 R_f16 R_f13 hR_f9 hR_f10 hR_f27 hR_f17 hR_f11 hR_f14 hR_f28 hR_f16 hR_f13) [] k Try.f6.ntmps Try.f6.results.toList (Try.f6.body.getD .skip) [(.v x0), (.v x1)] [] K = f6_T R_f9 R_f10 R_f27 R_f17 R_f11 R_f14 R_f28 R_f16 R_f13 k (fun u => K (f6_out u)) x0 x1 := by kernel_rfl
theorem f6_ev {X : Type} (R_f9 : f9_R) (R_f10 : f10_R) (R_f27 : f27_R) (R_f17 : f17_R) (R_f11 : f11_R) (R_f14 : f14_R) (R_f28 : f28_R) (R_f16 : f16_R) (R_f13 : f13_R) (hR_f9 : AnsOk Try.prog 9 (f9_cOf R_f9)) (hR_f10 : AnsOk Try.prog 10 (f10_cOf R_f10)) (hR_f27 : AnsOk Try.prog 27 (f27_cOf R_f27)) (hR_f17 : AnsOk Try.prog 17 (f17_cOf R_f17)) (hR_f11 : AnsOk Try.prog 11 (f11_cOf R_f11)) (hR_f14 : AnsOk Try.prog 14 (f14_cOf R_f14)) (hR_f28 : AnsOk Try.prog 28 (f28_cOf R_f28)) (hR_f16 : AnsOk Try.prog 16 (f16_cOf R_f16)) (hR_f13 : AnsOk Try.prog 13 (f13_cOf R_f13)) (k : Nat) (K : Out → Option X) (x0 : CV) (x1 : CV) : evFn (f6_cx R_f9 R_f10 R_f27 R_f17 R_f11 R_f14 R_f28 R_f16 R_f13 hR_f9 hR_f10 hR_f27 hR_f17 hR_f11 hR_f14 hR_f28 hR_f16 hR_f13) [] k Try.f6.ntmps Try.f6.results.toList (Try.f6.body.getD .skip) [(.v x0), (.v x1)] [] K = f6_A R_f9 R_f10 R_f27 R_f17 R_f11 R_f14 R_f28 R_f16 R_f13 k X (fun u => K (f6_out u)) x0 x1 := (f6_ev' R_f9 R_f10 R_f27 R_f17 R_f11 R_f14 R_f28 R_f16 R_f13 hR_f9 hR_f10 hR_f27 hR_f17 hR_f11 hR_f14 hR_f28 hR_f16 hR_f13 k K x0 x1).trans rfl
theorem f6_okA (R_f9 : f9_R) (R_f10 : f10_R) (R_f27 : f27_R) (R_f17 : f17_R) (R_f11 : f11_R) (R_f14 : f14_R) (R_f28 : f28_R) (R_f16 : f16_R) (R_f13 : f13_R) (hR_f9 : AnsOk Try.prog 9 (f9_cOf R_f9)) (hR_f10 : AnsOk Try.prog 10 (f10_cOf R_f10)) (hR_f27 : AnsOk Try.prog 27 (f27_cOf R_f27)) (hR_f17 : AnsOk Try.prog 17 (f17_cOf R_f17)) (hR_f11 : AnsOk Try.prog 11 (f11_cOf R_f11)) (hR_f14 : AnsOk Try.prog 14 (f14_cOf R_f14)) (hR_f28 : AnsOk Try.prog 28 (f28_cOf R_f28)) (hR_f16 : AnsOk Try.prog 16 (f16_cOf R_f16)) (hR_f13 : AnsOk Try.prog 13 (f13_cOf R_f13)) (k : Nat) : AnsOk Try.prog 6 (f6_cOf (f6_A R_f9 R_f10 R_f27 R_f17 R_f11 R_f14 R_f28 R_f16 R_f13 k)) := by
  intro X xs ns K x h
  unfold f6_cOf at h ⊢
  split at h
  · exact ans_main S (f6_Cok R_f9 R_f10 R_f27 R_f17 R_f11 R_f14 R_f28 R_f16 R_f13 hR_f9 hR_f10 hR_f27 hR_f17 hR_f11 hR_f14 hR_f28 hR_f16 hR_f13) Try.func6 (ent_of Try.func6 (by kernel_rfl) rfl) rfl (fun X K => f6_ev R_f9 R_f10 R_f27 R_f17 R_f11 R_f14 R_f28 R_f16 R_f13 hR_f9 hR_f10 hR_f27 hR_f17 hR_f11 hR_f14 hR_f28 hR_f16 hR_f13 k K _ _) h
  · cases h
/-- "outpost/outpostlaw09.MsgBack" -/
def f6 {X : Type} (k : Nat) (K : Bool → Option X) (x0 : CV) (x1 : CV) : Option X := f6_A (fun X => @f9 X k) (fun X => @f10 X k) (fun X => @f27 X k) (fun X => @f17 X k) (fun X => @f11 X k) (fun X => @f14 X k) (fun X => @f28 X k) (fun X => @f16 X k) (fun X => @f13 X k) k X K x0 x1
theorem f6_ok (k : Nat) : AnsOk Try.prog 6 (f6_cOf (fun X => @f6 X k)) := f6_okA (fun X => @f9 X k) (fun X => @f10 X k) (fun X => @f27 X k) (fun X => @f17 X k) (fun X => @f11 X k) (fun X => @f14 X k) (fun X => @f28 X k) (fun X => @f16 X k) (fun X => @f13 X k) (f9_ok k) (f10_ok k) (f27_ok k) (f17_ok k) (f11_ok k) (f14_ok k) (f28_ok k) (f16_ok k) (f13_ok k) k
abbrev f7_R : Type 1 := (X : Type) → (Bool → Option X) → CV → Int → Option X
def f7_out (u : Bool) : Out := ⟨(.v (CV.bool u)), []⟩
def f7_cOf (R : f7_R) : FnC := fun X xs ns K => match xs, ns with
  | [(.v x0), (.v (CV.int .i64 x1))], [] => R X (fun u => K (f7_out u)) x0 x1
  | _, _ => none
def f7_plan : Nat → Option (List Nat × List Wk)
  | 0 => some ([0, 1], [])
  | 1 => some ([1, 2], [])
  | 2 => some ([], [])
  | 3 => some ([1, 2], [])
  | 4 => some ([], [])
  | 5 => some ([1, 2], [])
  | 6 => some ([1, 2, 5, 6], [])
  | 7 => some ([], [])
  | 8 => some ([1, 2, 5], [])
  | 9 => some ([2, 7, 8], [])
  | 10 => some ([7], [])
  | 11 => some ([2, 7], [])
  | 12 => some ([2, 7, 9], [])
  | 13 => some ([], [])
  | 14 => some ([2, 7, 9], [])
  | _ => none
def f7_C (R_f9 : f9_R) (R_f10 : f10_R) (R_f11 : f11_R) (R_f14 : f14_R) (R_f28 : f28_R) (R_f13 : f13_R) (R_f29 : f29_R) : Fns := (orC 9 (f9_cOf R_f9) (orC 10 (f10_cOf R_f10) (orC 11 (f11_cOf R_f11) (orC 13 (f13_cOf R_f13) (orC 14 (f14_cOf R_f14) (orC 28 (f28_cOf R_f28) (orC 29 (f29_cOf R_f29) noC)))))))
theorem f7_Cok (R_f9 : f9_R) (R_f10 : f10_R) (R_f11 : f11_R) (R_f14 : f14_R) (R_f28 : f28_R) (R_f13 : f13_R) (R_f29 : f29_R) (hR_f9 : AnsOk Try.prog 9 (f9_cOf R_f9)) (hR_f10 : AnsOk Try.prog 10 (f10_cOf R_f10)) (hR_f11 : AnsOk Try.prog 11 (f11_cOf R_f11)) (hR_f14 : AnsOk Try.prog 14 (f14_cOf R_f14)) (hR_f28 : AnsOk Try.prog 28 (f28_cOf R_f28)) (hR_f13 : AnsOk Try.prog 13 (f13_cOf R_f13)) (hR_f29 : AnsOk Try.prog 29 (f29_cOf R_f29)) : CsOk Try.prog (f7_C R_f9 R_f10 R_f11 R_f14 R_f28 R_f13 R_f29) := (orC_ok hR_f9 (orC_ok hR_f10 (orC_ok hR_f11 (orC_ok hR_f13 (orC_ok hR_f14 (orC_ok hR_f28 (orC_ok hR_f29 noC_ok)))))))
def f7_cx (R_f9 : f9_R) (R_f10 : f10_R) (R_f11 : f11_R) (R_f14 : f14_R) (R_f28 : f28_R) (R_f13 : f13_R) (R_f29 : f29_R) (hR_f9 : AnsOk Try.prog 9 (f9_cOf R_f9)) (hR_f10 : AnsOk Try.prog 10 (f10_cOf R_f10)) (hR_f11 : AnsOk Try.prog 11 (f11_cOf R_f11)) (hR_f14 : AnsOk Try.prog 14 (f14_cOf R_f14)) (hR_f28 : AnsOk Try.prog 28 (f28_cOf R_f28)) (hR_f13 : AnsOk Try.prog 13 (f13_cOf R_f13)) (hR_f29 : AnsOk Try.prog 29 (f29_cOf R_f29)) : Cx := mkCx (tabOf rows) (f7_C R_f9 R_f10 R_f11 R_f14 R_f28 R_f13 R_f29) md (cmpIn cmps) f7_plan (f7_Cok R_f9 R_f10 R_f11 R_f14 R_f28 R_f13 R_f29 hR_f9 hR_f10 hR_f11 hR_f14 hR_f28 hR_f13 hR_f29)
def f7_T {X : Type} (R_f9 : f9_R) (R_f10 : f10_R) (R_f11 : f11_R) (R_f14 : f14_R) (R_f28 : f28_R) (R_f13 : f13_R) (R_f29 : f29_R) (k : Nat) (K : Bool → Option X)  (x0 : CV) (x1 : Int) : Option X :=
grd (CV.isA 6 x0) <|
grd (CV.isI .i64 (CV.cellD 0 x0)) <|
grd (CV.isI .i64 (CV.cellD 1 x0)) <|
grd (CV.isI .i64 (CV.cellD 2 x0)) <|
grd (CV.isL none (CV.cellD 3 x0)) <|
grd (CV.isL (some 2) (CV.cellD 4 x0)) <|
grd (CV.isL none (CV.cellD 5 x0)) <|
R_f9 _ (fun u2 =>
(bif (!u2) then
K (false)
else
R_f10 _ (fun u4 =>
(bif (!u4) then
K (true)
else
R_f11 _ (fun u5 =>
(bif (u5.2.1 != 0) then
K (true)
else
grd ((Nat.cast (u5.1) : Int) != 0) <|
grd (decide (0 ≤ (Int.tmod (bop .and .i64 x1 4095) (Nat.cast (u5.1) : Int)))) <|
grd (decide ((Int.tmod (bop .and .i64 x1 4095) (Nat.cast (u5.1) : Int)) ≤ ((Nat.cast ((List.length u5.2.2)) : Int) - 0))) <|
R_f14 _ (fun u6 =>
(bif (u6.2.2.2.2.2.2.1 != 0) then
(bif ((Nat.cast (u6.2.2.2.2.1) : Int) == 0) then
K (((Nat.cast (u6.2.2.2.2.2.1) : Int) == 0))
else
K (false))
else
R_f28 _ (fun u7 =>
(bif (u6.1 != (CV.toI (CV.cellD 0 x0))) then
K (false)
else
(bif (u6.2.2.1 != (CV.toI (CV.cellD 2 x0))) then
K (false)
else
(bif (decide ((Nat.cast (u6.2.2.2.2.1) : Int) > (Nat.cast (u7.1) : Int))) then
K (false)
else
(bif (decide ((Nat.cast (u6.2.2.2.2.2.1) : Int) > (Nat.cast ((List.length (CV.toL (CV.cellD 5 x0)))) : Int))) then
K (false)
else
R_f13 _ (fun u9 =>
(bif (!u9) then
K (false)
else
grd (decide ((Nat.cast (u6.2.2.2.2.1) : Int) ≤ ((Nat.cast ((List.length u7.2)) : Int) - 0))) <|
R_f29 _ (fun u10 =>
(bif u10 then
grd (decide ((Nat.cast (u6.2.2.2.2.2.1) : Int) ≤ (Nat.cast ((List.length (CV.toL (CV.cellD 5 x0)))) : Int))) <|
R_f13 _ (fun u11 =>
K (u11)) ((List.take u6.2.2.2.2.2.1 (List.drop 0 u6.2.2.2.2.2.2.2.2.2))) ((List.take (u6.2.2.2.2.2.1 - 0) (List.drop 0 (CV.toL (CV.cellD 5 x0)))))
else
K (false))) ((List.take u6.2.2.2.2.1 (List.drop 0 u6.2.2.2.2.2.2.2.2.1))) ((List.take (u6.2.2.2.2.1 - 0) (List.drop 0 u7.2))))) ((List.take u6.2.2.2.1 (List.drop 0 u6.2.2.2.2.2.2.2.1))) ((CV.toL (CV.cellD 3 x0)))))))) ((CV.toL (CV.cellD 4 x0))))) ((List.take ((Int.toNat (Int.tmod (bop .and .i64 x1 4095) (Nat.cast (u5.1) : Int))) - 0) (List.drop 0 u5.2.2))))) ((CV.agg [(CV.int .i64 (CV.toI (CV.cellD 0 x0))), (CV.int .i64 (CV.toI (CV.cellD 1 x0))), (CV.int .i64 (CV.toI (CV.cellD 2 x0))), (CV.slc none (CV.toL (CV.cellD 3 x0))), (CV.slc (some 2) (CV.toL (CV.cellD 4 x0))), (CV.slc none (CV.toL (CV.cellD 5 x0)))])))) ((CV.agg [(CV.int .i64 (CV.toI (CV.cellD 0 x0))), (CV.int .i64 (CV.toI (CV.cellD 1 x0))), (CV.int .i64 (CV.toI (CV.cellD 2 x0))), (CV.slc none (CV.toL (CV.cellD 3 x0))), (CV.slc (some 2) (CV.toL (CV.cellD 4 x0))), (CV.slc none (CV.toL (CV.cellD 5 x0)))])))) 
/-- "outpost/outpostlaw09.MsgEnds" -/
def f7_A (R_f9 : f9_R) (R_f10 : f10_R) (R_f11 : f11_R) (R_f14 : f14_R) (R_f28 : f28_R) (R_f13 : f13_R) (R_f29 : f29_R) (k : Nat) : f7_R := fun X K x0 x1 => f7_T R_f9 R_f10 R_f11 R_f14 R_f28 R_f13 R_f29 k K  x0 x1
set_option maxRecDepth 100000 in
theorem f7_ev' {X : Type} (R_f9 : f9_R) (R_f10 : f10_R) (R_f11 : f11_R) (R_f14 : f14_R) (R_f28 : f28_R) (R_f13 : f13_R) (R_f29 : f29_R) (hR_f9 : AnsOk Try.prog 9 (f9_cOf R_f9)) (hR_f10 : AnsOk Try.prog 10 (f10_cOf R_f10)) (hR_f11 : AnsOk Try.prog 11 (f11_cOf R_f11)) (hR_f14 : AnsOk Try.prog 14 (f14_cOf R_f14)) (hR_f28 : AnsOk Try.prog 28 (f28_cOf R_f28)) (hR_f13 : AnsOk Try.prog 13 (f13_cOf R_f13)) (hR_f29 : AnsOk Try.prog 29 (f29_cOf R_f29)) (k : Nat) (K : Out → Option X) (x0 : CV) (x1 : Int) : evFn (f7_cx R_f9 R_f10 R_f11 R_f14 R_f28 R_f13 R_f29 hR_f9 hR_f10 hR_f11 hR_f14 hR_f28 hR_f13 hR_f29) [] k Try.f7.ntmps Try.f7.results.toList (Try.f7.body.getD .skip) [(.v x0), (.v (CV.int .i64 x1))] [] K = f7_T R_f9 R_f10 R_f11 R_f14 R_f28 R_f13 R_f29 k (fun u => K (f7_out u)) x0 x1 := by kernel_rfl
theorem f7_ev {X : Type} (R_f9 : f9_R) (R_f10 : f10_R) (R_f11 : f11_R) (R_f14 : f14_R) (R_f28 : f28_R) (R_f13 : f13_R) (R_f29 : f29_R) (hR_f9 : AnsOk Try.prog 9 (f9_cOf R_f9)) (hR_f10 : AnsOk Try.prog 10 (f10_cOf R_f10)) (hR_f11 : AnsOk Try.prog 11 (f11_cOf R_f11)) (hR_f14 : AnsOk Try.prog 14 (f14_cOf R_f14)) (hR_f28 : AnsOk Try.prog 28 (f28_cOf R_f28)) (hR_f13 : AnsOk Try.prog 13 (f13_cOf R_f13)) (hR_f29 : AnsOk Try.prog 29 (f29_cOf R_f29)) (k : Nat) (K : Out → Option X) (x0 : CV) (x1 : Int) : evFn (f7_cx R_f9 R_f10 R_f11 R_f14 R_f28 R_f13 R_f29 hR_f9 hR_f10 hR_f11 hR_f14 hR_f28 hR_f13 hR_f29) [] k Try.f7.ntmps Try.f7.results.toList (Try.f7.body.getD .skip) [(.v x0), (.v (CV.int .i64 x1))] [] K = f7_A R_f9 R_f10 R_f11 R_f14 R_f28 R_f13 R_f29 k X (fun u => K (f7_out u)) x0 x1 := (f7_ev' R_f9 R_f10 R_f11 R_f14 R_f28 R_f13 R_f29 hR_f9 hR_f10 hR_f11 hR_f14 hR_f28 hR_f13 hR_f29 k K x0 x1).trans rfl
theorem f7_okA (R_f9 : f9_R) (R_f10 : f10_R) (R_f11 : f11_R) (R_f14 : f14_R) (R_f28 : f28_R) (R_f13 : f13_R) (R_f29 : f29_R) (hR_f9 : AnsOk Try.prog 9 (f9_cOf R_f9)) (hR_f10 : AnsOk Try.prog 10 (f10_cOf R_f10)) (hR_f11 : AnsOk Try.prog 11 (f11_cOf R_f11)) (hR_f14 : AnsOk Try.prog 14 (f14_cOf R_f14)) (hR_f28 : AnsOk Try.prog 28 (f28_cOf R_f28)) (hR_f13 : AnsOk Try.prog 13 (f13_cOf R_f13)) (hR_f29 : AnsOk Try.prog 29 (f29_cOf R_f29)) (k : Nat) : AnsOk Try.prog 7 (f7_cOf (f7_A R_f9 R_f10 R_f11 R_f14 R_f28 R_f13 R_f29 k)) := by
  intro X xs ns K x h
  unfold f7_cOf at h ⊢
  split at h
  · exact ans_main S (f7_Cok R_f9 R_f10 R_f11 R_f14 R_f28 R_f13 R_f29 hR_f9 hR_f10 hR_f11 hR_f14 hR_f28 hR_f13 hR_f29) Try.func7 (ent_of Try.func7 (by kernel_rfl) rfl) rfl (fun X K => f7_ev R_f9 R_f10 R_f11 R_f14 R_f28 R_f13 R_f29 hR_f9 hR_f10 hR_f11 hR_f14 hR_f28 hR_f13 hR_f29 k K _ _) h
  · cases h
/-- "outpost/outpostlaw09.MsgEnds" -/
def f7 {X : Type} (k : Nat) (K : Bool → Option X) (x0 : CV) (x1 : Int) : Option X := f7_A (fun X => @f9 X k) (fun X => @f10 X k) (fun X => @f11 X k) (fun X => @f14 X k) (fun X => @f28 X k) (fun X => @f13 X k) (fun X => @f29 X k) k X K x0 x1
theorem f7_ok (k : Nat) : AnsOk Try.prog 7 (f7_cOf (fun X => @f7 X k)) := f7_okA (fun X => @f9 X k) (fun X => @f10 X k) (fun X => @f11 X k) (fun X => @f14 X k) (fun X => @f28 X k) (fun X => @f13 X k) (fun X => @f29 X k) (f9_ok k) (f10_ok k) (f11_ok k) (f14_ok k) (f28_ok k) (f13_ok k) (f29_ok k) k
abbrev f8_R : Type 1 := (X : Type) → (Bool → Option X) → CV → Int → Option X
def f8_out (u : Bool) : Out := ⟨(.v (CV.bool u)), []⟩
def f8_cOf (R : f8_R) : FnC := fun X xs ns K => match xs, ns with
  | [(.v x0), (.v (CV.int .i64 x1))], [] => R X (fun u => K (f8_out u)) x0 x1
  | _, _ => none
def f8_plan : Nat → Option (List Nat × List Wk)
  | 0 => some ([0, 1], [])
  | 1 => some ([1, 2], [])
  | 2 => some ([], [])
  | 3 => some ([1, 2], [])
  | 4 => some ([], [])
  | 5 => some ([1, 2], [])
  | 6 => some ([1, 2], [])
  | 7 => some ([1, 22, 23, 24], [])
  | 8 => some ([1, 22, 23, 24], [])
  | 9 => some ([1, 6, 22, 23, 24], [])
  | 10 => some ([1, 6, 7, 8, 22, 23, 24], [])
  | 11 => some ([1, 7, 8, 22, 23, 24], [])
  | 12 => some ([], [])
  | 13 => some ([1, 6, 7, 8, 22, 23, 24], [])
  | 14 => some ([1, 6, 7, 8, 9, 10, 22, 23, 24], [])
  | 15 => some ([], [])
  | 16 => some ([1, 22, 23, 24], [])
  | 17 => some ([], [])
  | _ => none
def f8_C (R_f9 : f9_R) (R_f10 : f10_R) (R_f19 : f19_R) (R_f20 : f20_R) (R_f11 : f11_R) (R_f14 : f14_R) (R_f27 : f27_R) (R_f23 : f23_R) (R_f25 : f25_R) : Fns := (orC 9 (f9_cOf R_f9) (orC 10 (f10_cOf R_f10) (orC 11 (f11_cOf R_f11) (orC 14 (f14_cOf R_f14) (orC 19 (f19_cOf R_f19) (orC 20 (f20_cOf R_f20) (orC 23 (f23_cOf R_f23) (orC 25 (f25_cOf R_f25) (orC 27 (f27_cOf R_f27) noC)))))))))
theorem f8_Cok (R_f9 : f9_R) (R_f10 : f10_R) (R_f19 : f19_R) (R_f20 : f20_R) (R_f11 : f11_R) (R_f14 : f14_R) (R_f27 : f27_R) (R_f23 : f23_R) (R_f25 : f25_R) (hR_f9 : AnsOk Try.prog 9 (f9_cOf R_f9)) (hR_f10 : AnsOk Try.prog 10 (f10_cOf R_f10)) (hR_f19 : AnsOk Try.prog 19 (f19_cOf R_f19)) (hR_f20 : AnsOk Try.prog 20 (f20_cOf R_f20)) (hR_f11 : AnsOk Try.prog 11 (f11_cOf R_f11)) (hR_f14 : AnsOk Try.prog 14 (f14_cOf R_f14)) (hR_f27 : AnsOk Try.prog 27 (f27_cOf R_f27)) (hR_f23 : AnsOk Try.prog 23 (f23_cOf R_f23)) (hR_f25 : AnsOk Try.prog 25 (f25_cOf R_f25)) : CsOk Try.prog (f8_C R_f9 R_f10 R_f19 R_f20 R_f11 R_f14 R_f27 R_f23 R_f25) := (orC_ok hR_f9 (orC_ok hR_f10 (orC_ok hR_f11 (orC_ok hR_f14 (orC_ok hR_f19 (orC_ok hR_f20 (orC_ok hR_f23 (orC_ok hR_f25 (orC_ok hR_f27 noC_ok)))))))))
def f8_cx (R_f9 : f9_R) (R_f10 : f10_R) (R_f19 : f19_R) (R_f20 : f20_R) (R_f11 : f11_R) (R_f14 : f14_R) (R_f27 : f27_R) (R_f23 : f23_R) (R_f25 : f25_R) (hR_f9 : AnsOk Try.prog 9 (f9_cOf R_f9)) (hR_f10 : AnsOk Try.prog 10 (f10_cOf R_f10)) (hR_f19 : AnsOk Try.prog 19 (f19_cOf R_f19)) (hR_f20 : AnsOk Try.prog 20 (f20_cOf R_f20)) (hR_f11 : AnsOk Try.prog 11 (f11_cOf R_f11)) (hR_f14 : AnsOk Try.prog 14 (f14_cOf R_f14)) (hR_f27 : AnsOk Try.prog 27 (f27_cOf R_f27)) (hR_f23 : AnsOk Try.prog 23 (f23_cOf R_f23)) (hR_f25 : AnsOk Try.prog 25 (f25_cOf R_f25)) : Cx := mkCx (tabOf rows) (f8_C R_f9 R_f10 R_f19 R_f20 R_f11 R_f14 R_f27 R_f23 R_f25) md (cmpIn cmps) f8_plan (f8_Cok R_f9 R_f10 R_f19 R_f20 R_f11 R_f14 R_f27 R_f23 R_f25 hR_f9 hR_f10 hR_f19 hR_f20 hR_f11 hR_f14 hR_f27 hR_f23 hR_f25)
def f8_S1 (v : Int × Int × (List CV)) : St := ⟨[.undef, (.v (CV.int .i64 v.1)), .undef, .undef, .undef, .undef, .undef, .undef, .undef, .undef, .undef, .undef, .undef, .undef, .undef, .undef, .undef, .undef, .undef, .undef, .undef, .undef, (.osl [22] (some 6) 0 2), (.v (CV.int .i64 2)), (.v (CV.int .i64 v.2.1)), .undef, .undef, .undef, .undef, .undef, .undef, .undef, .undef, .undef, .undef, .undef, .undef, .undef, .undef, .undef, .undef, .undef, .undef, .undef, .undef, .undef, .undef, .undef, .undef, .undef, .undef, .undef, .undef, .undef, .undef, .undef, .undef, .undef, .undef, .undef, .undef, .undef, .undef, .undef, .undef, .undef, .undef, .undef, .undef, .undef, .undef, .undef, .undef, .undef, .undef, .undef, .undef, .undef, .undef, .undef, .undef, .undef, .undef], [([22], (.row false (some 6) v.2.2))]⟩
def f8_J1 {X : Type} (R_f9 : f9_R) (R_f10 : f10_R) (R_f19 : f19_R) (R_f20 : f20_R) (R_f11 : f11_R) (R_f14 : f14_R) (R_f27 : f27_R) (R_f23 : f23_R) (R_f25 : f25_R) (k : Nat) (K : Bool → Option X) (rec1 : Int × Int × (List CV) → Option X) (v7_6 : Int × Int × (List CV)) (v26 : Unit) : Option X :=
rec1 (v7_6.1, (IntKind.wrap .i64 (v7_6.2.1 + 1)), v7_6.2.2)
def f8_T1 {X : Type} (R_f9 : f9_R) (R_f10 : f10_R) (R_f19 : f19_R) (R_f20 : f20_R) (R_f11 : f11_R) (R_f14 : f14_R) (R_f27 : f27_R) (R_f23 : f23_R) (R_f25 : f25_R) (k : Nat) (K : Bool → Option X)   (rec1 : Int × Int × (List CV) → Option X) (v7_6 : Int × Int × (List CV)) : Option X :=
(bif (decide (v7_6.2.1 < 2)) then
grd (decide (0 ≤ v7_6.2.1)) <|
grd (decide (v7_6.2.1 < 2)) <|
Option.bind (v7_6.2.2)[(0 + (Int.toNat v7_6.2.1))]? fun e27 =>
grd (CV.isA 6 e27) <|
grd (CV.isI .i64 (CV.cellD 0 e27)) <|
grd (CV.isI .i64 (CV.cellD 1 e27)) <|
grd (CV.isI .i64 (CV.cellD 2 e27)) <|
grd (CV.isL none (CV.cellD 3 e27)) <|
grd (CV.isL (some 2) (CV.cellD 4 e27)) <|
grd (CV.isL none (CV.cellD 5 e27)) <|
R_f11 _ (fun u28 =>
(bif (decide (v7_6.1 < 0)) then
(bif (u28.2.1 != 1) then
K (false)
else
(bif ((Nat.cast (u28.1) : Int) != 0) then
K (false)
else
f8_J1 R_f9 R_f10 R_f19 R_f20 R_f11 R_f14 R_f27 R_f23 R_f25 k K rec1 v7_6 (())))
else
(bif (decide (v7_6.1 > 65535)) then
(bif (u28.2.1 != 1) then
K (false)
else
(bif ((Nat.cast (u28.1) : Int) != 0) then
K (false)
else
f8_J1 R_f9 R_f10 R_f19 R_f20 R_f11 R_f14 R_f27 R_f23 R_f25 k K rec1 v7_6 (())))
else
R_f14 _ (fun u29 =>
(bif (u28.2.1 != 0) then
K (false)
else
(bif (u29.2.2.2.2.2.2.1 != 0) then
K (false)
else
(bif ((Nat.cast (u28.1) : Int) != 4) then
K (false)
else
R_f27 _ (fun u30 =>
(bif (!u30) then
K (false)
else
R_f23 _ (fun u31 =>
(bif u31 then
K (false)
else
R_f25 _ (fun u32 =>
(bif u32 then
K (false)
else
(bif (u29.2.2.1 != v7_6.1) then
K (false)
else
f8_J1 R_f9 R_f10 R_f19 R_f20 R_f11 R_f14 R_f27 R_f23 R_f25 k K rec1 v7_6 (())))) ((CV.agg [(CV.int .i64 u29.1), (CV.int .i64 u29.2.1), (CV.int .i64 u29.2.2.1), (CV.slc none (List.take u29.2.2.2.1 (List.drop 0 u29.2.2.2.2.2.2.2.1))), (CV.slc (some 2) (List.take u29.2.2.2.2.1 (List.drop 0 u29.2.2.2.2.2.2.2.2.1))), (CV.slc none (List.take u29.2.2.2.2.2.1 (List.drop 0 u29.2.2.2.2.2.2.2.2.2)))])))) ((CV.agg [(CV.int .i64 u29.1), (CV.int .i64 u29.2.1), (CV.int .i64 u29.2.2.1), (CV.slc none (List.take u29.2.2.2.1 (List.drop 0 u29.2.2.2.2.2.2.2.1))), (CV.slc (some 2) (List.take u29.2.2.2.2.1 (List.drop 0 u29.2.2.2.2.2.2.2.2.1))), (CV.slc none (List.take u29.2.2.2.2.2.1 (List.drop 0 u29.2.2.2.2.2.2.2.2.2)))])))) ((CV.agg [(CV.int .i64 (CV.toI (CV.cellD 0 e27))), (CV.int .i64 (CV.toI (CV.cellD 1 e27))), (CV.int .i64 (CV.toI (CV.cellD 2 e27))), (CV.slc none (CV.toL (CV.cellD 3 e27))), (CV.slc (some 2) (CV.toL (CV.cellD 4 e27))), (CV.slc none (CV.toL (CV.cellD 5 e27)))])) ((CV.agg [(CV.int .i64 u29.1), (CV.int .i64 u29.2.1), (CV.int .i64 u29.2.2.1), (CV.slc none (List.take u29.2.2.2.1 (List.drop 0 u29.2.2.2.2.2.2.2.1))), (CV.slc (some 2) (List.take u29.2.2.2.2.1 (List.drop 0 u29.2.2.2.2.2.2.2.2.1))), (CV.slc none (List.take u29.2.2.2.2.2.1 (List.drop 0 u29.2.2.2.2.2.2.2.2.2)))])))))) ((List.take u28.1 (List.drop 0 u28.2.2)))))) ((CV.agg [(CV.int .i64 (CV.toI (CV.cellD 0 e27))), (CV.int .i64 (CV.toI (CV.cellD 1 e27))), (CV.int .i64 (CV.toI (CV.cellD 2 e27))), (CV.slc none (CV.toL (CV.cellD 3 e27))), (CV.slc (some 2) (CV.toL (CV.cellD 4 e27))), (CV.slc none (CV.toL (CV.cellD 5 e27)))]))
else
K (true))
def f8_L1 {X : Type} (R_f9 : f9_R) (R_f10 : f10_R) (R_f19 : f19_R) (R_f20 : f20_R) (R_f11 : f11_R) (R_f14 : f14_R) (R_f27 : f27_R) (R_f23 : f23_R) (R_f25 : f25_R) (k : Nat) (K : Bool → Option X)  (rec1 : Int × Int × (List CV) → Option X) (v : Int × Int × (List CV)) : Option X := f8_T1 R_f9 R_f10 R_f19 R_f20 R_f11 R_f14 R_f27 R_f23 R_f25 k K   rec1 v
set_option maxRecDepth 100000 in
theorem f8_L1_ev {X : Type} (R_f9 : f9_R) (R_f10 : f10_R) (R_f19 : f19_R) (R_f20 : f20_R) (R_f11 : f11_R) (R_f14 : f14_R) (R_f27 : f27_R) (R_f23 : f23_R) (R_f25 : f25_R) (hR_f9 : AnsOk Try.prog 9 (f9_cOf R_f9)) (hR_f10 : AnsOk Try.prog 10 (f10_cOf R_f10)) (hR_f19 : AnsOk Try.prog 19 (f19_cOf R_f19)) (hR_f20 : AnsOk Try.prog 20 (f20_cOf R_f20)) (hR_f11 : AnsOk Try.prog 11 (f11_cOf R_f11)) (hR_f14 : AnsOk Try.prog 14 (f14_cOf R_f14)) (hR_f27 : AnsOk Try.prog 27 (f27_cOf R_f27)) (hR_f23 : AnsOk Try.prog 23 (f23_cOf R_f23)) (hR_f25 : AnsOk Try.prog 25 (f25_cOf R_f25)) (k : Nat) (K : Out → Option X)  (r1 : St → Option X) (v : Int × Int × (List CV)) : loopB (f8_cx R_f9 R_f10 R_f19 R_f20 R_f11 R_f14 R_f27 R_f23 R_f25 hR_f9 hR_f10 hR_f19 hR_f20 hR_f11 hR_f14 hR_f27 hR_f23 hR_f25) k [.r, .r, .r, .r, .l, .r, .b] (Try.f8.body.getD .skip) (retK (f8_cx R_f9 R_f10 R_f19 R_f20 R_f11 R_f14 R_f27 R_f23 R_f25 hR_f9 hR_f10 hR_f19 hR_f20 hR_f11 hR_f14 hR_f27 hR_f23 hR_f25) [] Try.f8.results.toList K) [] r1 (f8_S1 v) = f8_T1 R_f9 R_f10 R_f19 R_f20 R_f11 R_f14 R_f27 R_f23 R_f25 k (fun u => K (f8_out u))   (fun v => r1 (f8_S1 v)) v := by kernel_rfl
theorem f8_L1_it {X : Type} (R_f9 : f9_R) (R_f10 : f10_R) (R_f19 : f19_R) (R_f20 : f20_R) (R_f11 : f11_R) (R_f14 : f14_R) (R_f27 : f27_R) (R_f23 : f23_R) (R_f25 : f25_R) (hR_f9 : AnsOk Try.prog 9 (f9_cOf R_f9)) (hR_f10 : AnsOk Try.prog 10 (f10_cOf R_f10)) (hR_f19 : AnsOk Try.prog 19 (f19_cOf R_f19)) (hR_f20 : AnsOk Try.prog 20 (f20_cOf R_f20)) (hR_f11 : AnsOk Try.prog 11 (f11_cOf R_f11)) (hR_f14 : AnsOk Try.prog 14 (f14_cOf R_f14)) (hR_f27 : AnsOk Try.prog 27 (f27_cOf R_f27)) (hR_f23 : AnsOk Try.prog 23 (f23_cOf R_f23)) (hR_f25 : AnsOk Try.prog 25 (f25_cOf R_f25)) (k : Nat) (K : Out → Option X)  : (fun v => iter (loopB (f8_cx R_f9 R_f10 R_f19 R_f20 R_f11 R_f14 R_f27 R_f23 R_f25 hR_f9 hR_f10 hR_f19 hR_f20 hR_f11 hR_f14 hR_f27 hR_f23 hR_f25) k [.r, .r, .r, .r, .l, .r, .b] (Try.f8.body.getD .skip) (retK (f8_cx R_f9 R_f10 R_f19 R_f20 R_f11 R_f14 R_f27 R_f23 R_f25 hR_f9 hR_f10 hR_f19 hR_f20 hR_f11 hR_f14 hR_f27 hR_f23 hR_f25) [] Try.f8.results.toList K) []) k (f8_S1 v)) = iterV (f8_L1 R_f9 R_f10 R_f19 R_f20 R_f11 R_f14 R_f27 R_f23 R_f25 k (fun u => K (f8_out u)) ) k :=
  iter_map (fun r1 v => (f8_L1_ev R_f9 R_f10 R_f19 R_f20 R_f11 R_f14 R_f27 R_f23 R_f25 hR_f9 hR_f10 hR_f19 hR_f20 hR_f11 hR_f14 hR_f27 hR_f23 hR_f25 k K  r1 v).trans rfl) k
def f8_T {X : Type} (R_f9 : f9_R) (R_f10 : f10_R) (R_f19 : f19_R) (R_f20 : f20_R) (R_f11 : f11_R) (R_f14 : f14_R) (R_f27 : f27_R) (R_f23 : f23_R) (R_f25 : f25_R) (k : Nat) (K : Bool → Option X) (loop1 : Int × Int × (List CV) → Option X) (x0 : CV) (x1 : Int) : Option X :=
grd (CV.isA 6 x0) <|
grd (CV.isI .i64 (CV.cellD 0 x0)) <|
grd (CV.isI .i64 (CV.cellD 1 x0)) <|
grd (CV.isI .i64 (CV.cellD 2 x0)) <|
grd (CV.isL none (CV.cellD 3 x0)) <|
grd (CV.isL (some 2) (CV.cellD 4 x0)) <|
grd (CV.isL none (CV.cellD 5 x0)) <|
R_f9 _ (fun u2 =>
(bif (!u2) then
K (false)
else
R_f10 _ (fun u4 =>
(bif (!u4) then
K (true)
else
R_f19 _ (fun u5 =>
R_f20 _ (fun u6 =>
loop1 (x1, 0, [(CV.agg [(CV.int .i64 2), (CV.int .i64 0), (CV.int .i64 u5.1), (CV.slc none (List.take 0 (List.drop 0 u5.2.1))), (CV.slc (some 2) (List.take 0 (List.drop 0 u5.2.2.1))), (CV.slc none (List.take 0 (List.drop 0 u5.2.2.2)))]), (CV.agg [(CV.int .i64 3), (CV.int .i64 0), (CV.int .i64 u6.1), (CV.slc none (List.take 0 (List.drop 0 u6.2.1))), (CV.slc (some 2) (List.take 0 (List.drop 0 u6.2.2.1))), (CV.slc none (List.take 0 (List.drop 0 u6.2.2.2)))])])) (x1)) ((CV.agg [(CV.int .i64 (CV.toI (CV.cellD 0 x0))), (CV.int .i64 (CV.toI (CV.cellD 1 x0))), (CV.int .i64 x1), (CV.slc none (CV.toL (CV.cellD 3 x0))), (CV.slc (some 2) (CV.toL (CV.cellD 4 x0))), (CV.slc none (CV.toL (CV.cellD 5 x0)))])))) ((CV.agg [(CV.int .i64 (CV.toI (CV.cellD 0 x0))), (CV.int .i64 (CV.toI (CV.cellD 1 x0))), (CV.int .i64 (CV.toI (CV.cellD 2 x0))), (CV.slc none (CV.toL (CV.cellD 3 x0))), (CV.slc (some 2) (CV.toL (CV.cellD 4 x0))), (CV.slc none (CV.toL (CV.cellD 5 x0)))])))) 
/-- "outpost/outpostlaw09.MsgShort" -/
def f8_A (R_f9 : f9_R) (R_f10 : f10_R) (R_f19 : f19_R) (R_f20 : f20_R) (R_f11 : f11_R) (R_f14 : f14_R) (R_f27 : f27_R) (R_f23 : f23_R) (R_f25 : f25_R) (k : Nat) : f8_R := fun X K x0 x1 => f8_T R_f9 R_f10 R_f19 R_f20 R_f11 R_f14 R_f27 R_f23 R_f25 k K (iterV (f8_L1 R_f9 R_f10 R_f19 R_f20 R_f11 R_f14 R_f27 R_f23 R_f25 k K) k) x0 x1
set_option maxRecDepth 100000 in
theorem f8_ev' {X : Type} (R_f9 : f9_R) (R_f10 : f10_R) (R_f19 : f19_R) (R_f20 : f20_R) (R_f11 : f11_R) (R_f14 : f14_R) (R_f27 : f27_R) (R_f23 : f23_R) (R_f25 : f25_R) (hR_f9 : AnsOk Try.prog 9 (f9_cOf R_f9)) (hR_f10 : AnsOk Try.prog 10 (f10_cOf R_f10)) (hR_f19 : AnsOk Try.prog 19 (f19_cOf R_f19)) (hR_f20 : AnsOk Try.prog 20 (f20_cOf R_f20)) (hR_f11 : AnsOk Try.prog 11 (f11_cOf R_f11)) (hR_f14 : AnsOk Try.prog 14 (f14_cOf R_f14)) (hR_f27 : AnsOk Try.prog 27 (f27_cOf R_f27)) (hR_f23 : AnsOk Try.prog 23 (f23_cOf R_f23)) (hR_f25 : AnsOk Try.prog 25 (f25_cOf R_f25)) (k : Nat) (K : Out → Option X) (x0 : CV) (x1 : Int) : evFn (f8_cx R_f9 R_f10 R_f19 R_f20 R_f11 R_f14 R_f27 R_f23 R_f25 hR_f9 hR_f10 hR_f19 hR_f20 hR_f11 hR_f14 hR_f27 hR_f23 hR_f25) [] k Try.f8.ntmps Try.f8.results.toList (Try.f8.body.getD .skip) [(.v x0), (.v (CV.int .i64 x1))] [] K = f8_T R_f9 R_f10 R_f19 R_f20 R_f11 R_f14 R_f27 R_f23 R_f25 k (fun u => K (f8_out u)) (fun v => iter (loopB (f8_cx R_f9 R_f10 R_f19 R_f20 R_f11 R_f14 R_f27 R_f23 R_f25 hR_f9 hR_f10 hR_f19 hR_f20 hR_f11 hR_f14 hR_f27 hR_f23 hR_f25) k [.r, .r, .r, .r, .l, .r, .b] (Try.f8.body.getD .skip) (retK (f8_cx R_f9 R_f10 R_f19 R_f20 R_f11 R_f14 R_f27 R_f23 R_f25 hR_f9 hR_f10 hR_f19 hR_f20 hR_f11 hR_f14 hR_f27 hR_f23 hR_f25) [] Try.f8.results.toList K) []) k (f8_S1 v)) x0 x1 := by kernel_rfl
theorem f8_ev {X : Type} (R_f9 : f9_R) (R_f10 : f10_R) (R_f19 : f19_R) (R_f20 : f20_R) (R_f11 : f11_R) (R_f14 : f14_R) (R_f27 : f27_R) (R_f23 : f23_R) (R_f25 : f25_R) (hR_f9 : AnsOk Try.prog 9 (f9_cOf R_f9)) (hR_f10 : AnsOk Try.prog 10 (f10_cOf R_f10)) (hR_f19 : AnsOk Try.prog 19 (f19_cOf R_f19)) (hR_f20 : AnsOk Try.prog 20 (f20_cOf R_f20)) (hR_f11 : AnsOk Try.prog 11 (f11_cOf R_f11)) (hR_f14 : AnsOk Try.prog 14 (f14_cOf R_f14)) (hR_f27 : AnsOk Try.prog 27 (f27_cOf R_f27)) (hR_f23 : AnsOk Try.prog 23 (f23_cOf R_f23)) (hR_f25 : AnsOk Try.prog 25 (f25_cOf R_f25)) (k : Nat) (K : Out → Option X) (x0 : CV) (x1 : Int) : evFn (f8_cx R_f9 R_f10 R_f19 R_f20 R_f11 R_f14 R_f27 R_f23 R_f25 hR_f9 hR_f10 hR_f19 hR_f20 hR_f11 hR_f14 hR_f27 hR_f23 hR_f25) [] k Try.f8.ntmps Try.f8.results.toList (Try.f8.body.getD .skip) [(.v x0), (.v (CV.int .i64 x1))] [] K = f8_A R_f9 R_f10 R_f19 R_f20 R_f11 R_f14 R_f27 R_f23 R_f25 k X (fun u => K (f8_out u)) x0 x1 := (f8_ev' R_f9 R_f10 R_f19 R_f20 R_f11 R_f14 R_f27 R_f23 R_f25 hR_f9 hR_f10 hR_f19 hR_f20 hR_f11 hR_f14 hR_f27 hR_f23 hR_f25 k K x0 x1).trans (by rw [f8_L1_it R_f9 R_f10 R_f19 R_f20 R_f11 R_f14 R_f27 R_f23 R_f25 hR_f9 hR_f10 hR_f19 hR_f20 hR_f11 hR_f14 hR_f27 hR_f23 hR_f25 k K]; rfl)
theorem f8_okA (R_f9 : f9_R) (R_f10 : f10_R) (R_f19 : f19_R) (R_f20 : f20_R) (R_f11 : f11_R) (R_f14 : f14_R) (R_f27 : f27_R) (R_f23 : f23_R) (R_f25 : f25_R) (hR_f9 : AnsOk Try.prog 9 (f9_cOf R_f9)) (hR_f10 : AnsOk Try.prog 10 (f10_cOf R_f10)) (hR_f19 : AnsOk Try.prog 19 (f19_cOf R_f19)) (hR_f20 : AnsOk Try.prog 20 (f20_cOf R_f20)) (hR_f11 : AnsOk Try.prog 11 (f11_cOf R_f11)) (hR_f14 : AnsOk Try.prog 14 (f14_cOf R_f14)) (hR_f27 : AnsOk Try.prog 27 (f27_cOf R_f27)) (hR_f23 : AnsOk Try.prog 23 (f23_cOf R_f23)) (hR_f25 : AnsOk Try.prog 25 (f25_cOf R_f25)) (k : Nat) : AnsOk Try.prog 8 (f8_cOf (f8_A R_f9 R_f10 R_f19 R_f20 R_f11 R_f14 R_f27 R_f23 R_f25 k)) := by
  intro X xs ns K x h
  unfold f8_cOf at h ⊢
  split at h
  · exact ans_main S (f8_Cok R_f9 R_f10 R_f19 R_f20 R_f11 R_f14 R_f27 R_f23 R_f25 hR_f9 hR_f10 hR_f19 hR_f20 hR_f11 hR_f14 hR_f27 hR_f23 hR_f25) Try.func8 (ent_of Try.func8 (by kernel_rfl) rfl) rfl (fun X K => f8_ev R_f9 R_f10 R_f19 R_f20 R_f11 R_f14 R_f27 R_f23 R_f25 hR_f9 hR_f10 hR_f19 hR_f20 hR_f11 hR_f14 hR_f27 hR_f23 hR_f25 k K _ _) h
  · cases h
/-- "outpost/outpostlaw09.MsgShort" -/
def f8 {X : Type} (k : Nat) (K : Bool → Option X) (x0 : CV) (x1 : Int) : Option X := f8_A (fun X => @f9 X k) (fun X => @f10 X k) (fun X => @f19 X k) (fun X => @f20 X k) (fun X => @f11 X k) (fun X => @f14 X k) (fun X => @f27 X k) (fun X => @f23 X k) (fun X => @f25 X k) k X K x0 x1
theorem f8_ok (k : Nat) : AnsOk Try.prog 8 (f8_cOf (fun X => @f8 X k)) := f8_okA (fun X => @f9 X k) (fun X => @f10 X k) (fun X => @f19 X k) (fun X => @f20 X k) (fun X => @f11 X k) (fun X => @f14 X k) (fun X => @f27 X k) (fun X => @f23 X k) (fun X => @f25 X k) (f9_ok k) (f10_ok k) (f19_ok k) (f20_ok k) (f11_ok k) (f14_ok k) (f27_ok k) (f23_ok k) (f25_ok k) k
end Go.Proofs.YtlgdoglffddjfaaD
