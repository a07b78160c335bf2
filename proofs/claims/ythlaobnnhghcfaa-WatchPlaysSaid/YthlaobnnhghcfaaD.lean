/- Functions of the program, as plain Lean functions: each with the proof that the evaluator computes it. (Printed by wip/dec/dec.py.) -/
import Derived.Test.YthlaobnnhghcfaaTN
import Derived.Test.YthlaobnnhghcfaaTO
import Derived.Test.YthlaobnnhghcfaaTQ
import Derived.Test.YthlaobnnhghcfaaProg
import Derived.Test.YthlaobnnhghcfaaChecked
import Derived.Test.YthlaobnnhghcfaaDA
namespace Go.Proofs.YthlaobnnhghcfaaD
open Go Go.Proofs.YthlaobnnhghcfaaS Go.Proofs
set_option linter.unusedVariables false
abbrev f3_R : Type 1 := (X : Type) → (Bool → Option X) → CV → (List CV) → Option X
def f3_out (u : Bool) : Out := ⟨(.v (CV.bool u)), []⟩
def f3_cOf (R : f3_R) : FnC := fun X xs ns K => match xs, ns with
  | [(.v x0), (.sl true none x1)], [] => R X (fun u => K (f3_out u)) x0 x1
  | _, _ => none
def f3_plan : Nat → Option (List Nat × List Wk)
  | 0 => some ([0, 1], [])
  | 1 => some ([1, 2], [])
  | 2 => some ([], [])
  | 3 => some ([1, 2], [])
  | 4 => some ([], [])
  | 5 => some ([1, 2], [])
  | 6 => some ([1, 2, 5], [])
  | 7 => some ([], [])
  | 8 => some ([1, 2, 5], [])
  | 9 => some ([1, 2, 5, 6, 7], [])
  | 10 => some ([1, 2, 5, 6, 7, 8], [])
  | 11 => some ([1, 2, 5, 6, 7, 8], [])
  | 12 => some ([1, 2, 5, 6, 7, 8], [])
  | 13 => some ([1, 2, 5, 6, 7, 8, 9], [])
  | 14 => some ([1, 2, 5, 6, 7, 8, 9, 10], [])
  | 15 => some ([], [])
  | 16 => some ([1, 2, 5, 6, 7, 8, 9, 10], [])
  | 17 => some ([1, 2, 5, 6, 7, 8, 9], [])
  | 18 => some ([], [])
  | 19 => some ([1, 2, 5, 6, 7, 8, 9, 10], [])
  | 20 => some ([1, 2, 5, 6, 7, 8, 9, 11], [])
  | 21 => some ([], [])
  | 22 => some ([1, 2, 5, 8, 9, 11], [])
  | 23 => some ([], [])
  | _ => none
def f3_C (R_f7 : f7_R) (R_f8 : f8_R) (R_f10 : f10_R) (R_f9 : f9_R) (R_f11 : f11_R) (R_f12 : f12_R) : Fns := (orC 7 (f7_cOf R_f7) (orC 8 (f8_cOf R_f8) (orC 9 (f9_cOf R_f9) (orC 10 (f10_cOf R_f10) (orC 11 (f11_cOf R_f11) (orC 12 (f12_cOf R_f12) noC))))))
theorem f3_Cok (R_f7 : f7_R) (R_f8 : f8_R) (R_f10 : f10_R) (R_f9 : f9_R) (R_f11 : f11_R) (R_f12 : f12_R) (hR_f7 : AnsOk Try.prog 7 (f7_cOf R_f7)) (hR_f8 : AnsOk Try.prog 8 (f8_cOf R_f8)) (hR_f10 : AnsOk Try.prog 10 (f10_cOf R_f10)) (hR_f9 : AnsOk Try.prog 9 (f9_cOf R_f9)) (hR_f11 : AnsOk Try.prog 11 (f11_cOf R_f11)) (hR_f12 : AnsOk Try.prog 12 (f12_cOf R_f12)) : CsOk Try.prog (f3_C R_f7 R_f8 R_f10 R_f9 R_f11 R_f12) := (orC_ok hR_f7 (orC_ok hR_f8 (orC_ok hR_f9 (orC_ok hR_f10 (orC_ok hR_f11 (orC_ok hR_f12 noC_ok))))))
def f3_cx (R_f7 : f7_R) (R_f8 : f8_R) (R_f10 : f10_R) (R_f9 : f9_R) (R_f11 : f11_R) (R_f12 : f12_R) (hR_f7 : AnsOk Try.prog 7 (f7_cOf R_f7)) (hR_f8 : AnsOk Try.prog 8 (f8_cOf R_f8)) (hR_f10 : AnsOk Try.prog 10 (f10_cOf R_f10)) (hR_f9 : AnsOk Try.prog 9 (f9_cOf R_f9)) (hR_f11 : AnsOk Try.prog 11 (f11_cOf R_f11)) (hR_f12 : AnsOk Try.prog 12 (f12_cOf R_f12)) : Cx := mkCx (tabOf rows) (f3_C R_f7 R_f8 R_f10 R_f9 R_f11 R_f12) md (cmpIn cmps) f3_plan (f3_Cok R_f7 R_f8 R_f10 R_f9 R_f11 R_f12 hR_f7 hR_f8 hR_f10 hR_f9 hR_f11 hR_f12)
def f3_S1 (v : (List CV) × Int × Int × Int × Int × Int × Bool × Bool × Int × Int × Int × Bool × Bool × Bool × Nat × (List CV)) : St := ⟨[.undef, (.sl true none v.1), (.ptr [2] 0 0 0), .undef, .undef, (.ptr [42] 0 0 0), (.v (CV.int .i64 v.2.1)), (.v (CV.int .i64 v.2.2.1)), (.v (CV.int .i64 v.2.2.2.1)), .undef, .undef, .undef, .undef, .undef, .undef, .undef, .undef, .undef, .undef, .undef, .undef, .undef, .undef, .undef, .undef, .undef, .undef, .undef, .undef, .undef, .undef, .undef, .undef, .undef, .undef, .undef, .undef, .undef, .undef, .undef, .undef, .undef, .undef, .undef, .undef, .undef, .undef, .undef, .undef, .undef, .undef, .undef, .undef, .undef, .undef, .undef, .undef, .undef, .undef, .undef, .undef, .undef, .undef, .undef, .undef, .undef, .undef, .undef, .undef, .undef, .undef, .undef, .undef, .undef, .undef, .undef, .undef, .undef, .undef, .undef, .undef, .undef, .undef, .undef, .undef, .undef, .undef, .undef, .undef, .undef, .undef, .undef, .undef, .undef, .undef, .undef, .undef, .undef, .undef, .undef, .undef, .undef, .undef, .undef, .undef, .undef, .undef, .undef, .undef, .undef, .undef, .undef, .undef, .undef, .undef, .undef, .undef, .undef, .undef, .undef, .undef, .undef, .undef, .undef, .undef, .undef, .undef, .undef, .undef, .undef, .undef, .undef], [([2], (.obj [(.v (CV.int .i64 v.2.2.2.2.1)), (.v (CV.int .i64 v.2.2.2.2.2.1)), (.v (CV.bool v.2.2.2.2.2.2.1)), (.v (CV.bool v.2.2.2.2.2.2.2.1)), (.v (CV.int .i64 v.2.2.2.2.2.2.2.2.1)), (.v (CV.int .i64 v.2.2.2.2.2.2.2.2.2.1)), (.v (CV.int .i64 v.2.2.2.2.2.2.2.2.2.2.1)), (.v (CV.bool v.2.2.2.2.2.2.2.2.2.2.2.1)), (.v (CV.bool v.2.2.2.2.2.2.2.2.2.2.2.2.1)), (.v (CV.bool v.2.2.2.2.2.2.2.2.2.2.2.2.2.1))])), ([42], (.obj [(.osl [0, 42] (some 21) 0 v.2.2.2.2.2.2.2.2.2.2.2.2.2.2.1)])), ([0, 42], (.row false (some 21) v.2.2.2.2.2.2.2.2.2.2.2.2.2.2.2))]⟩
def f3_J1 {X : Type} (R_f7 : f7_R) (R_f8 : f8_R) (R_f10 : f10_R) (R_f9 : f9_R) (R_f11 : f11_R) (R_f12 : f12_R) (k : Nat) (K : Bool → Option X) (rec1 : (List CV) × Int × Int × Int × Int × Int × Bool × Bool × Int × Int × Int × Bool × Bool × Bool × Nat × (List CV) → Option X) (v9_10 : (List CV) × Int × Int × Int × Int × Int × Bool × Bool × Int × Int × Int × Bool × Bool × Bool × Nat × (List CV)) (v48 : Int × Int × Nat × (List CV)) : Option X :=
rec1 (v9_10.1, v48.1, v48.2.1, (IntKind.wrap .i64 (v9_10.2.2.2.1 + 1)), v9_10.2.2.2.2.1, v9_10.2.2.2.2.2.1, v9_10.2.2.2.2.2.2.1, v9_10.2.2.2.2.2.2.2.1, v9_10.2.2.2.2.2.2.2.2.1, v9_10.2.2.2.2.2.2.2.2.2.1, v9_10.2.2.2.2.2.2.2.2.2.2.1, v9_10.2.2.2.2.2.2.2.2.2.2.2.1, v9_10.2.2.2.2.2.2.2.2.2.2.2.2.1, v9_10.2.2.2.2.2.2.2.2.2.2.2.2.2.1, v48.2.2.1, v48.2.2.2)
def f3_J2 {X : Type} (R_f7 : f7_R) (R_f8 : f8_R) (R_f10 : f10_R) (R_f9 : f9_R) (R_f11 : f11_R) (R_f12 : f12_R) (k : Nat) (K : Bool → Option X) (e52 : CV) (rec1 : (List CV) × Int × Int × Int × Int × Int × Bool × Bool × Int × Int × Int × Bool × Bool × Bool × Nat × (List CV) → Option X) (u51 : Nat × Nat × (List CV) × (List CV)) (v9_10 : (List CV) × Int × Int × Int × Int × Int × Bool × Bool × Int × Int × Int × Bool × Bool × Bool × Nat × (List CV)) (v57 : Unit) : Option X :=
f3_J1 R_f7 R_f8 R_f10 R_f9 R_f11 R_f12 k K rec1 v9_10 (v9_10.2.2.2.1, (CV.toI (CV.cellD 20 e52)), u51.2.1, u51.2.2.1)
def f3_J3 {X : Type} (R_f7 : f7_R) (R_f8 : f8_R) (R_f10 : f10_R) (R_f9 : f9_R) (R_f11 : f11_R) (R_f12 : f12_R) (k : Nat) (K : Bool → Option X) (loop1 : (List CV) × Int × Int × Int × Int × Int × Bool × Bool × Int × Int × Int × Bool × Bool × Bool × Nat × (List CV) → Option X) (x0 : CV) (x1 : List CV) (v3 : Unit) : Option X :=
R_f8 _ (fun u4 =>
Option.bind (x1)[0]? fun e8 =>
grd (CV.isI .i64 e8) <|
R_f10 _ (fun u9 =>
R_f9 _ (fun u10 =>
(bif (u10.1 != 0) then
K (false)
else
loop1 (x1, 0, 0, 1, (CV.toI (CV.cellD 0 x0)), (CV.toI (CV.cellD 1 x0)), (CV.toB (CV.cellD 2 x0)), (CV.toB (CV.cellD 3 x0)), (CV.toI (CV.cellD 4 x0)), (CV.toI (CV.cellD 5 x0)), (CV.toI (CV.cellD 6 x0)), (CV.toB (CV.cellD 7 x0)), (CV.toB (CV.cellD 8 x0)), (CV.toB (CV.cellD 9 x0)), u10.2.1, u10.2.2))) ((CV.agg [(CV.int .i64 1), (CV.slc none (List.take 1 (List.drop 0 [(CV.int .u8 1)]))), (CV.slc none (List.take 3 (List.drop 0 [(CV.int .i64 3), (CV.int .i64 0), (CV.int .i64 9)]))), (CV.int .i64 (CV.toI (CV.cellD 0 x0))), (CV.int .i64 (CV.toI (CV.cellD 1 x0))), (CV.bool (CV.toB (CV.cellD 2 x0))), (CV.bool (CV.toB (CV.cellD 3 x0))), (CV.int .i64 (CV.toI (CV.cellD 4 x0))), (CV.int .i64 (CV.toI (CV.cellD 5 x0))), (CV.int .i64 (CV.toI (CV.cellD 6 x0))), (CV.bool (CV.toB (CV.cellD 7 x0))), (CV.bool (CV.toB (CV.cellD 8 x0))), (CV.bool (CV.toB (CV.cellD 9 x0))), (CV.int .i64 1), (CV.int .i64 u9.1), (CV.str ⟨#[]⟩), (CV.slc none (List.take 0 (List.drop 0 u9.2))), (CV.int .i64 0), (CV.int .i64 0), (CV.int .i64 0), (CV.int .i64 0)])) (0) (u4)) ((CV.toI e8))) 
def f3_T1 {X : Type} (R_f7 : f7_R) (R_f8 : f8_R) (R_f10 : f10_R) (R_f9 : f9_R) (R_f11 : f11_R) (R_f12 : f12_R) (k : Nat) (K : Bool → Option X)   (rec1 : (List CV) × Int × Int × Int × Int × Int × Bool × Bool × Int × Int × Int × Bool × Bool × Bool × Nat × (List CV) → Option X) (v9_10 : (List CV) × Int × Int × Int × Int × Int × Bool × Bool × Int × Int × Int × Bool × Bool × Bool × Nat × (List CV)) : Option X :=
(bif (decide (v9_10.2.2.2.1 < (Nat.cast ((List.length v9_10.1)) : Int))) then
grd (decide (0 ≤ v9_10.2.2.2.1)) <|
Option.bind (v9_10.1)[(Int.toNat v9_10.2.2.2.1)]? fun e49 =>
grd (CV.isI .i64 e49) <|
R_f10 _ (fun u50 =>
R_f11 _ (fun u51 =>
(bif (decide ((Nat.cast (u51.1) : Int) > 1)) then
K (false)
else
(bif ((Nat.cast (u51.1) : Int) == 0) then
(bif v9_10.2.2.2.2.2.2.2.1 then
(bif (decide (v9_10.2.2.2.2.2.1 > 0)) then
(bif (decide ((IntKind.wrap .i64 (v9_10.2.2.2.1 - v9_10.2.1)) ≥ v9_10.2.2.2.2.2.1)) then
K (false)
else
f3_J1 R_f7 R_f8 R_f10 R_f9 R_f11 R_f12 k K rec1 v9_10 (v9_10.2.1, v9_10.2.2.1, u51.2.1, u51.2.2.1))
else
f3_J1 R_f7 R_f8 R_f10 R_f9 R_f11 R_f12 k K rec1 v9_10 (v9_10.2.1, v9_10.2.2.1, u51.2.1, u51.2.2.1))
else
f3_J1 R_f7 R_f8 R_f10 R_f9 R_f11 R_f12 k K rec1 v9_10 (v9_10.2.1, v9_10.2.2.1, u51.2.1, u51.2.2.1))
else
grd (decide (0 < (Nat.cast (u51.1) : Int))) <|
Option.bind (u51.2.2.2)[0]? fun e52 =>
grd (CV.isA 21 e52) <|
grd (CV.isI .i64 (CV.cellD 0 e52)) <|
grd (CV.isL none (CV.cellD 1 e52)) <|
grd (CV.isL none (CV.cellD 2 e52)) <|
grd (CV.isI .i64 (CV.cellD 3 e52)) <|
grd (CV.isI .i64 (CV.cellD 4 e52)) <|
grd (CV.isB (CV.cellD 5 e52)) <|
grd (CV.isB (CV.cellD 6 e52)) <|
grd (CV.isI .i64 (CV.cellD 7 e52)) <|
grd (CV.isI .i64 (CV.cellD 8 e52)) <|
grd (CV.isI .i64 (CV.cellD 9 e52)) <|
grd (CV.isB (CV.cellD 10 e52)) <|
grd (CV.isB (CV.cellD 11 e52)) <|
grd (CV.isB (CV.cellD 12 e52)) <|
grd (CV.isI .i64 (CV.cellD 13 e52)) <|
grd (CV.isI .i64 (CV.cellD 14 e52)) <|
grd (CV.isS (CV.cellD 15 e52)) <|
grd (CV.isL none (CV.cellD 16 e52)) <|
grd (CV.isI .i64 (CV.cellD 17 e52)) <|
grd (CV.isI .i64 (CV.cellD 18 e52)) <|
grd (CV.isI .i64 (CV.cellD 19 e52)) <|
grd (CV.isI .i64 (CV.cellD 20 e52)) <|
(bif v9_10.2.2.2.2.2.2.1 then
(bif (decide ((IntKind.wrap .i64 (v9_10.2.2.2.1 - v9_10.2.1)) < v9_10.2.2.2.2.1)) then
K (false)
else
(bif ((CV.toI (CV.cellD 19 e52)) != v9_10.2.2.2.1) then
K (false)
else
grd (decide (0 ≤ v9_10.2.2.2.1)) <|
Option.bind (v9_10.1)[(Int.toNat v9_10.2.2.2.1)]? fun e58 =>
grd (CV.isI .i64 e58) <|
(bif ((CV.toI (CV.cellD 14 e52)) != (CV.toI e58)) then
K (false)
else
R_f12 _ (fun u59 =>
(bif (!u59) then
K (false)
else
f3_J2 R_f7 R_f8 R_f10 R_f9 R_f11 R_f12 k K e52 rec1 u51 v9_10 (()))) (v9_10.2.2.1) ((CV.toI (CV.cellD 20 e52))) (v9_10.2.1) (v9_10.2.2.2.1))))
else
(bif ((CV.toI (CV.cellD 19 e52)) != v9_10.2.2.2.1) then
K (false)
else
grd (decide (0 ≤ v9_10.2.2.2.1)) <|
Option.bind (v9_10.1)[(Int.toNat v9_10.2.2.2.1)]? fun e60 =>
grd (CV.isI .i64 e60) <|
(bif ((CV.toI (CV.cellD 14 e52)) != (CV.toI e60)) then
K (false)
else
R_f12 _ (fun u61 =>
(bif (!u61) then
K (false)
else
f3_J2 R_f7 R_f8 R_f10 R_f9 R_f11 R_f12 k K e52 rec1 u51 v9_10 (()))) (v9_10.2.2.1) ((CV.toI (CV.cellD 20 e52))) (v9_10.2.1) (v9_10.2.2.2.1))))))) ((List.take 1 (List.drop 0 [(CV.agg [(CV.int .i64 1), (CV.int .i64 u50.1), (CV.str ⟨#[]⟩), (CV.slc none (List.take 0 (List.drop 0 u50.2))), (CV.int .i64 0), (CV.int .i64 0)])]))) (v9_10.2.2.2.1) (v9_10.2.2.2.2.2.2.2.2.2.2.2.2.2.2.1) (v9_10.2.2.2.2.2.2.2.2.2.2.2.2.2.2.2)) ((CV.toI e49))
else
K (true))
def f3_L1 {X : Type} (R_f7 : f7_R) (R_f8 : f8_R) (R_f10 : f10_R) (R_f9 : f9_R) (R_f11 : f11_R) (R_f12 : f12_R) (k : Nat) (K : Bool → Option X)  (rec1 : (List CV) × Int × Int × Int × Int × Int × Bool × Bool × Int × Int × Int × Bool × Bool × Bool × Nat × (List CV) → Option X) (v : (List CV) × Int × Int × Int × Int × Int × Bool × Bool × Int × Int × Int × Bool × Bool × Bool × Nat × (List CV)) : Option X := f3_T1 R_f7 R_f8 R_f10 R_f9 R_f11 R_f12 k K   rec1 v
set_option maxRecDepth 100000 in
theorem f3_L1_ev {X : Type} (R_f7 : f7_R) (R_f8 : f8_R) (R_f10 : f10_R) (R_f9 : f9_R) (R_f11 : f11_R) (R_f12 : f12_R) (hR_f7 : AnsOk Try.prog 7 (f7_cOf R_f7)) (hR_f8 : AnsOk Try.prog 8 (f8_cOf R_f8)) (hR_f10 : AnsOk Try.prog 10 (f10_cOf R_f10)) (hR_f9 : AnsOk Try.prog 9 (f9_cOf R_f9)) (hR_f11 : AnsOk Try.prog 11 (f11_cOf R_f11)) (hR_f12 : AnsOk Try.prog 12 (f12_cOf R_f12)) (k : Nat) (K : Out → Option X)  (r1 : St → Option X) (v : (List CV) × Int × Int × Int × Int × Int × Bool × Bool × Int × Int × Int × Bool × Bool × Bool × Nat × (List CV)) : loopB (f3_cx R_f7 R_f8 R_f10 R_f9 R_f11 R_f12 hR_f7 hR_f8 hR_f10 hR_f9 hR_f11 hR_f12) k [.r, .r, .r, .r, .r, .r, .l, .r, .b] (Try.f3.body.getD .skip) (retK (f3_cx R_f7 R_f8 R_f10 R_f9 R_f11 R_f12 hR_f7 hR_f8 hR_f10 hR_f9 hR_f11 hR_f12) [] Try.f3.results.toList K) [] r1 (f3_S1 v) = f3_T1 R_f7 R_f8 R_f10 R_f9 R_f11 R_f12 k (fun u => K (f3_out u))   (fun v => r1 (f3_S1 v)) v := by kernel_rfl
theorem f3_L1_it {X : Type} (R_f7 : f7_R) (R_f8 : f8_R) (R_f10 : f10_R) (R_f9 : f9_R) (R_f11 : f11_R) (R_f12 : f12_R) (hR_f7 : AnsOk Try.prog 7 (f7_cOf R_f7)) (hR_f8 : AnsOk Try.prog 8 (f8_cOf R_f8)) (hR_f10 : AnsOk Try.prog 10 (f10_cOf R_f10)) (hR_f9 : AnsOk Try.prog 9 (f9_cOf R_f9)) (hR_f11 : AnsOk Try.prog 11 (f11_cOf R_f11)) (hR_f12 : AnsOk Try.prog 12 (f12_cOf R_f12)) (k : Nat) (K : Out → Option X)  : (fun v => iter (loopB (f3_cx R_f7 R_f8 R_f10 R_f9 R_f11 R_f12 hR_f7 hR_f8 hR_f10 hR_f9 hR_f11 hR_f12) k [.r, .r, .r, .r, .r, .r, .l, .r, .b] (Try.f3.body.getD .skip) (retK (f3_cx R_f7 R_f8 R_f10 R_f9 R_f11 R_f12 hR_f7 hR_f8 hR_f10 hR_f9 hR_f11 hR_f12) [] Try.f3.results.toList K) []) k (f3_S1 v)) = iterV (f3_L1 R_f7 R_f8 R_f10 R_f9 R_f11 R_f12 k (fun u => K (f3_out u)) ) k :=
  iter_map (fun r1 v => (f3_L1_ev R_f7 R_f8 R_f10 R_f9 R_f11 R_f12 hR_f7 hR_f8 hR_f10 hR_f9 hR_f11 hR_f12 k K  r1 v).trans rfl) k
def f3_T {X : Type} (R_f7 : f7_R) (R_f8 : f8_R) (R_f10 : f10_R) (R_f9 : f9_R) (R_f11 : f11_R) (R_f12 : f12_R) (k : Nat) (K : Bool → Option X) (loop1 : (List CV) × Int × Int × Int × Int × Int × Bool × Bool × Int × Int × Int × Bool × Bool × Bool × Nat × (List CV) → Option X) (x0 : CV) (x1 : List CV) : Option X :=
grd (CV.isA 10 x0) <|
grd (CV.isI .i64 (CV.cellD 0 x0)) <|
grd (CV.isI .i64 (CV.cellD 1 x0)) <|
grd (CV.isB (CV.cellD 2 x0)) <|
grd (CV.isB (CV.cellD 3 x0)) <|
grd (CV.isI .i64 (CV.cellD 4 x0)) <|
grd (CV.isI .i64 (CV.cellD 5 x0)) <|
grd (CV.isI .i64 (CV.cellD 6 x0)) <|
grd (CV.isB (CV.cellD 7 x0)) <|
grd (CV.isB (CV.cellD 8 x0)) <|
grd (CV.isB (CV.cellD 9 x0)) <|
R_f7 _ (fun u2 =>
(bif (!u2) then
K (false)
else
(bif (decide ((Nat.cast ((List.length x1)) : Int) > 80)) then
K (true)
else
(bif ((Nat.cast ((List.length x1)) : Int) == 0) then
K (true)
else
(bif (CV.toB (CV.cellD 2 x0)) then
(bif (CV.toB (CV.cellD 3 x0)) then
(bif (decide ((CV.toI (CV.cellD 1 x0)) > 0)) then
(bif (decide ((CV.toI (CV.cellD 1 x0)) < (CV.toI (CV.cellD 0 x0)))) then
K (true)
else
f3_J3 R_f7 R_f8 R_f10 R_f9 R_f11 R_f12 k K loop1 x0 x1 (()))
else
f3_J3 R_f7 R_f8 R_f10 R_f9 R_f11 R_f12 k K loop1 x0 x1 (()))
else
f3_J3 R_f7 R_f8 R_f10 R_f9 R_f11 R_f12 k K loop1 x0 x1 (()))
else
f3_J3 R_f7 R_f8 R_f10 R_f9 R_f11 R_f12 k K loop1 x0 x1 (())))))) 
/-- "outpost/outpostlaw21.WatchSpaces" -/
def f3_A (R_f7 : f7_R) (R_f8 : f8_R) (R_f10 : f10_R) (R_f9 : f9_R) (R_f11 : f11_R) (R_f12 : f12_R) (k : Nat) : f3_R := fun X K x0 x1 => f3_T R_f7 R_f8 R_f10 R_f9 R_f11 R_f12 k K (iterV (f3_L1 R_f7 R_f8 R_f10 R_f9 R_f11 R_f12 k K) k) x0 x1
set_option maxRecDepth 100000 in
theorem f3_ev' {X : Type} (R_f7 : f7_R) (R_f8 : f8_R) (R_f10 : f10_R) (R_f9 : f9_R) (R_f11 : f11_R) (R_f12 : f12_R) (hR_f7 : AnsOk Try.prog 7 (f7_cOf R_f7)) (hR_f8 : AnsOk Try.prog 8 (f8_cOf R_f8)) (hR_f10 : AnsOk Try.prog 10 (f10_cOf R_f10)) (hR_f9 : AnsOk Try.prog 9 (f9_cOf R_f9)) (hR_f11 : AnsOk Try.prog 11 (f11_cOf R_f11)) (hR_f12 : AnsOk Try.prog 12 (f12_cOf R_f12)) (k : Nat) (K : Out → Option X) (x0 : CV) (x1 : List CV) : evFn (f3_cx R_f7 R_f8 R_f10 R_f9 R_f11 R_f12 hR_f7 hR_f8 hR_f10 hR_f9 hR_f11 hR_f12) [] k Try.f3.ntmps Try.f3.results.toList (Try.f3.body.getD .skip) [(.v x0), (.sl true none x1)] [] K = f3_T R_f7 R_f8 R_f10 R_f9 R_f11 R_f12 k (fun u => K (f3_out u)) (fun v => iter (loopB (f3_cx R_f7 R_f8 R_f10 R_f9 R_f11 R_f12 hR_f7 hR_f8 hR_f10 hR_f9 hR_f11 hR_f12) k [.r, .r, .r, .r, .r, .r, .l, .r, .b] (Try.f3.body.getD .skip) (retK (f3_cx R_f7 R_f8 R_f10 R_f9 R_f11 R_f12 hR_f7 hR_f8 hR_f10 hR_f9 hR_f11 hR_f12) [] Try.f3.results.toList K) []) k (f3_S1 v)) x0 x1 := by kernel_rfl
theorem f3_ev {X : Type} (R_f7 : f7_R) (R_f8 : f8_R) (R_f10 : f10_R) (R_f9 : f9_R) (R_f11 : f11_R) (R_f12 : f12_R) (hR_f7 : AnsOk Try.prog 7 (f7_cOf R_f7)) (hR_f8 : AnsOk Try.prog 8 (f8_cOf R_f8)) (hR_f10 : AnsOk Try.prog 10 (f10_cOf R_f10)) (hR_f9 : AnsOk Try.prog 9 (f9_cOf R_f9)) (hR_f11 : AnsOk Try.prog 11 (f11_cOf R_f11)) (hR_f12 : AnsOk Try.prog 12 (f12_cOf R_f12)) (k : Nat) (K : Out → Option X) (x0 : CV) (x1 : List CV) : evFn (f3_cx R_f7 R_f8 R_f10 R_f9 R_f11 R_f12 hR_f7 hR_f8 hR_f10 hR_f9 hR_f11 hR_f12) [] k Try.f3.ntmps Try.f3.results.toList (Try.f3.body.getD .skip) [(.v x0), (.sl true none x1)] [] K = f3_A R_f7 R_f8 R_f10 R_f9 R_f11 R_f12 k X (fun u => K (f3_out u)) x0 x1 := (f3_ev' R_f7 R_f8 R_f10 R_f9 R_f11 R_f12 hR_f7 hR_f8 hR_f10 hR_f9 hR_f11 hR_f12 k K x0 x1).trans (by rw [f3_L1_it R_f7 R_f8 R_f10 R_f9 R_f11 R_f12 hR_f7 hR_f8 hR_f10 hR_f9 hR_f11 hR_f12 k K]; rfl)
theorem f3_okA (R_f7 : f7_R) (R_f8 : f8_R) (R_f10 : f10_R) (R_f9 : f9_R) (R_f11 : f11_R) (R_f12 : f12_R) (hR_f7 : AnsOk Try.prog 7 (f7_cOf R_f7)) (hR_f8 : AnsOk Try.prog 8 (f8_cOf R_f8)) (hR_f10 : AnsOk Try.prog 10 (f10_cOf R_f10)) (hR_f9 : AnsOk Try.prog 9 (f9_cOf R_f9)) (hR_f11 : AnsOk Try.prog 11 (f11_cOf R_f11)) (hR_f12 : AnsOk Try.prog 12 (f12_cOf R_f12)) (k : Nat) : AnsOk Try.prog 3 (f3_cOf (f3_A R_f7 R_f8 R_f10 R_f9 R_f11 R_f12 k)) := by
  intro X xs ns K x h
  unfold f3_cOf at h ⊢
  split at h
  · exact ans_main S (f3_Cok R_f7 R_f8 R_f10 R_f9 R_f11 R_f12 hR_f7 hR_f8 hR_f10 hR_f9 hR_f11 hR_f12) Try.func3 (ent_of Try.func3 (by kernel_rfl) rfl) rfl (fun X K => f3_ev R_f7 R_f8 R_f10 R_f9 R_f11 R_f12 hR_f7 hR_f8 hR_f10 hR_f9 hR_f11 hR_f12 k K _ _) h
  · cases h
/-- "outpost/outpostlaw21.WatchSpaces" -/
def f3 {X : Type} (k : Nat) (K : Bool → Option X) (x0 : CV) (x1 : List CV) : Option X := f3_A (fun X => @f7 X k) (fun X => @f8 X k) (fun X => @f10 X k) (fun X => @f9 X k) (fun X => @f11 X k) (fun X => @f12 X k) k X K x0 x1
theorem f3_ok (k : Nat) : AnsOk Try.prog 3 (f3_cOf (fun X => @f3 X k)) := f3_okA (fun X => @f7 X k) (fun X => @f8 X k) (fun X => @f10 X k) (fun X => @f9 X k) (fun X => @f11 X k) (fun X => @f12 X k) (f7_ok k) (f8_ok k) (f10_ok k) (f9_ok k) (f11_ok k) (f12_ok k) k
abbrev f36_R : Type 1 := (X : Type) → (Int → Option X) → Int → Option X
def f36_out (u : Int) : Out := ⟨(.v (CV.int .i64 u)), []⟩
def f36_cOf (R : f36_R) : FnC := fun X xs ns K => match xs, ns with
  | [(.v (CV.int .i64 x0))], [] => R X (fun u => K (f36_out u)) x0
  | _, _ => none
def f36_plan : Nat → Option (List Nat × List Wk)
  | 0 => some ([0], [])
  | 1 => some ([0], [])
  | 2 => some ([], [])
  | 3 => some ([0], [])
  | 4 => some ([], [])
  | 5 => some ([0], [])
  | _ => none
def f36_C : Fns := noC
theorem f36_Cok : CsOk Try.prog (f36_C) := noC_ok
def f36_cx : Cx := mkCx (tabOf rows) (f36_C) md (cmpIn cmps) f36_plan (f36_Cok)
def f36_T {X : Type} (k : Nat) (K : Int → Option X)  (x0 : Int) : Option X :=
(bif (decide (x0 < 0)) then
K (0)
else
(bif (decide (x0 > 1099511627776)) then
K (1099511627776)
else
K (x0)))
/-- "outpost/outpostref11.Clock" -/
def f36_A (k : Nat) : f36_R := fun X K x0 => f36_T k K  x0
set_option maxRecDepth 100000 in
theorem f36_ev' {X : Type} (k : Nat) (K : Out → Option X) (x0 : Int) : evFn (f36_cx) [] k Try.f36.ntmps Try.f36.results.toList (Try.f36.body.getD .skip) [(.v (CV.int .i64 x0))] [] K = f36_T k (fun u => K (f36_out u)) x0 := by kernel_rfl
theorem f36_ev {X : Type} (k : Nat) (K : Out → Option X) (x0 : Int) : evFn (f36_cx) [] k Try.f36.ntmps Try.f36.results.toList (Try.f36.body.getD .skip) [(.v (CV.int .i64 x0))] [] K = f36_A k X (fun u => K (f36_out u)) x0 := (f36_ev' k K x0).trans rfl
theorem f36_okA (k : Nat) : AnsOk Try.prog 36 (f36_cOf (f36_A k)) := by
  intro X xs ns K x h
  unfold f36_cOf at h ⊢
  split at h
  · exact ans_main S (f36_Cok) Try.func36 (ent_of Try.func36 (by kernel_rfl) rfl) rfl (fun X K => f36_ev k K _) h
  · cases h
/-- "outpost/outpostref11.Clock" -/
def f36 {X : Type} (k : Nat) (K : Int → Option X) (x0 : Int) : Option X := f36_A k X K x0
theorem f36_ok (k : Nat) : AnsOk Try.prog 36 (f36_cOf (fun X => @f36 X k)) := f36_okA k
abbrev f13_R : Type 1 := (X : Type) → (Bool → Option X) → Int → Int → Int → Int → Option X
def f13_out (u : Bool) : Out := ⟨(.v (CV.bool u)), []⟩
def f13_cOf (R : f13_R) : FnC := fun X xs ns K => match xs, ns with
  | [(.v (CV.int .i64 x0)), (.v (CV.int .i64 x1)), (.v (CV.int .i64 x2)), (.v (CV.int .i64 x3))], [] => R X (fun u => K (f13_out u)) x0 x1 x2 x3
  | _, _ => none
def f13_plan : Nat → Option (List Nat × List Wk)
  | 0 => some ([0, 1, 2, 3], [])
  | 1 => some ([0, 1, 2, 3], [])
  | 2 => some ([2, 3, 9], [])
  | _ => none
def f13_C (R_f36 : f36_R) : Fns := (orC 36 (f36_cOf R_f36) noC)
theorem f13_Cok (R_f36 : f36_R) (hR_f36 : AnsOk Try.prog 36 (f36_cOf R_f36)) : CsOk Try.prog (f13_C R_f36) := (orC_ok hR_f36 noC_ok)
def f13_cx (R_f36 : f36_R) (hR_f36 : AnsOk Try.prog 36 (f36_cOf R_f36)) : Cx := mkCx (tabOf rows) (f13_C R_f36) md (cmpIn cmps) f13_plan (f13_Cok R_f36 hR_f36)
def f13_T {X : Type} (R_f36 : f36_R) (k : Nat) (K : Bool → Option X)  (x0 : Int) (x1 : Int) (x2 : Int) (x3 : Int) : Option X :=
(bif (decide ((bop .and .i64 (IntKind.wrap .i64 (x1 - x0)) 16777215) > 0)) then
(bif (decide ((bop .and .i64 (IntKind.wrap .i64 (x1 - x0)) 16777215) < 8388608)) then
K (true)
else
R_f36 _ (fun u1 =>
R_f36 _ (fun u2 =>
K ((decide ((IntKind.wrap .i64 (u1 - u2)) > 128)))) (x2)) (x3))
else
R_f36 _ (fun u3 =>
R_f36 _ (fun u4 =>
K ((decide ((IntKind.wrap .i64 (u3 - u4)) > 128)))) (x2)) (x3))
/-- "outpost/outpostref21.Fresh" -/
def f13_A (R_f36 : f36_R) (k : Nat) : f13_R := fun X K x0 x1 x2 x3 => f13_T R_f36 k K  x0 x1 x2 x3
set_option maxRecDepth 100000 in
theorem f13_ev' {X : Type} (R_f36 : f36_R) (hR_f36 : AnsOk Try.prog 36 (f36_cOf R_f36)) (k : Nat) (K : Out → Option X) (x0 : Int) (x1 : Int) (x2 : Int) (x3 : Int) : evFn (f13_cx R_f36 hR_f36) [] k Try.f13.ntmps Try.f13.results.toList (Try.f13.body.getD .skip) [(.v (CV.int .i64 x0)), (.v (CV.int .i64 x1)), (.v (CV.int .i64 x2)), (.v (CV.int .i64 x3))] [] K = f13_T R_f36 k (fun u => K (f13_out u)) x0 x1 x2 x3 := by kernel_rfl
theorem f13_ev {X : Type} (R_f36 : f36_R) (hR_f36 : AnsOk Try.prog 36 (f36_cOf R_f36)) (k : Nat) (K : Out → Option X) (x0 : Int) (x1 : Int) (x2 : Int) (x3 : Int) : evFn (f13_cx R_f36 hR_f36) [] k Try.f13.ntmps Try.f13.results.toList (Try.f13.body.getD .skip) [(.v (CV.int .i64 x0)), (.v (CV.int .i64 x1)), (.v (CV.int .i64 x2)), (.v (CV.int .i64 x3))] [] K = f13_A R_f36 k X (fun u => K (f13_out u)) x0 x1 x2 x3 := (f13_ev' R_f36 hR_f36 k K x0 x1 x2 x3).trans rfl
theorem f13_okA (R_f36 : f36_R) (hR_f36 : AnsOk Try.prog 36 (f36_cOf R_f36)) (k : Nat) : AnsOk Try.prog 13 (f13_cOf (f13_A R_f36 k)) := by
  intro X xs ns K x h
  unfold f13_cOf at h ⊢
  split at h
  · exact ans_main S (f13_Cok R_f36 hR_f36) Try.func13 (ent_of Try.func13 (by kernel_rfl) rfl) rfl (fun X K => f13_ev R_f36 hR_f36 k K _ _ _ _) h
  · cases h
/-- "outpost/outpostref21.Fresh" -/
def f13 {X : Type} (k : Nat) (K : Bool → Option X) (x0 : Int) (x1 : Int) (x2 : Int) (x3 : Int) : Option X := f13_A (fun X => @f36 X k) k X K x0 x1 x2 x3
theorem f13_ok (k : Nat) : AnsOk Try.prog 13 (f13_cOf (fun X => @f13 X k)) := f13_okA (fun X => @f36 X k) (f36_ok k) k
abbrev f4_R : Type 1 := (X : Type) → (Bool → Option X) → Int → Int → Int → Int → Option X
def f4_out (u : Bool) : Out := ⟨(.v (CV.bool u)), []⟩
def f4_cOf (R : f4_R) : FnC := fun X xs ns K => match xs, ns with
  | [(.v (CV.int .i64 x0)), (.v (CV.int .i64 x1)), (.v (CV.int .i64 x2)), (.v (CV.int .i64 x3))], [] => R X (fun u => K (f4_out u)) x0 x1 x2 x3
  | _, _ => none
def f4_plan : Nat → Option (List Nat × List Wk)
  | 0 => some ([0, 1, 2, 3], [])
  | 1 => some ([0, 1, 2, 3], [])
  | 2 => some ([], [])
  | 3 => some ([0, 1, 2, 3], [])
  | 4 => some ([], [])
  | 5 => some ([0, 1, 2], [])
  | 6 => some ([0, 1, 9, 10], [])
  | 7 => some ([9, 10, 11], [])
  | 8 => some ([9, 10], [])
  | 9 => some ([9, 10], [])
  | _ => none
def f4_C (R_f7 : f7_R) (R_f12 : f12_R) (R_f13 : f13_R) : Fns := (orC 7 (f7_cOf R_f7) (orC 12 (f12_cOf R_f12) (orC 13 (f13_cOf R_f13) noC)))
theorem f4_Cok (R_f7 : f7_R) (R_f12 : f12_R) (R_f13 : f13_R) (hR_f7 : AnsOk Try.prog 7 (f7_cOf R_f7)) (hR_f12 : AnsOk Try.prog 12 (f12_cOf R_f12)) (hR_f13 : AnsOk Try.prog 13 (f13_cOf R_f13)) : CsOk Try.prog (f4_C R_f7 R_f12 R_f13) := (orC_ok hR_f7 (orC_ok hR_f12 (orC_ok hR_f13 noC_ok)))
def f4_cx (R_f7 : f7_R) (R_f12 : f12_R) (R_f13 : f13_R) (hR_f7 : AnsOk Try.prog 7 (f7_cOf R_f7)) (hR_f12 : AnsOk Try.prog 12 (f12_cOf R_f12)) (hR_f13 : AnsOk Try.prog 13 (f13_cOf R_f13)) : Cx := mkCx (tabOf rows) (f4_C R_f7 R_f12 R_f13) md (cmpIn cmps) f4_plan (f4_Cok R_f7 R_f12 R_f13 hR_f7 hR_f12 hR_f13)
def f4_T {X : Type} (R_f7 : f7_R) (R_f12 : f12_R) (R_f13 : f13_R) (k : Nat) (K : Bool → Option X)  (x0 : Int) (x1 : Int) (x2 : Int) (x3 : Int) : Option X :=
R_f7 _ (fun u2 =>
(bif (!u2) then
K (false)
else
R_f12 _ (fun u5 =>
R_f13 _ (fun u6 =>
(bif (!(u5 == u6)) then
K (false)
else
R_f12 _ (fun u7 =>
R_f12 _ (fun u8 =>
(bif ((bop .and .i64 (IntKind.wrap .i64 (x1 - x0)) 16777215) == 0) then
(bif (!u7) then
K ((!u8))
else
K (false))
else
(bif ((bop .and .i64 (IntKind.wrap .i64 (x1 - x0)) 16777215) == 8388608) then
(bif (!u7) then
K ((!u8))
else
K (false))
else
K ((!(u7 == u8)))))) (x1) (x0) (x2) (x2)) (x0) (x1) (x2) (x2))) (x0) (x1) (x2) (x3)) (x0) (x1) (x2) (x3))) 
/-- "outpost/outpostlaw21.WatchFresh" -/
def f4_A (R_f7 : f7_R) (R_f12 : f12_R) (R_f13 : f13_R) (k : Nat) : f4_R := fun X K x0 x1 x2 x3 => f4_T R_f7 R_f12 R_f13 k K  x0 x1 x2 x3
set_option maxRecDepth 100000 in
theorem f4_ev' {X : Type} (R_f7 : f7_R) (R_f12 : f12_R) (R_f13 : f13_R) (hR_f7 : AnsOk Try.prog 7 (f7_cOf R_f7)) (hR_f12 : AnsOk Try.prog 12 (f12_cOf R_f12)) (hR_f13 : AnsOk Try.prog 13 (f13_cOf R_f13)) (k : Nat) (K : Out → Option X) (x0 : Int) (x1 : Int) (x2 : Int) (x3 : Int) : evFn (f4_cx R_f7 R_f12 R_f13 hR_f7 hR_f12 hR_f13) [] k Try.f4.ntmps Try.f4.results.toList (Try.f4.body.getD .skip) [(.v (CV.int .i64 x0)), (.v (CV.int .i64 x1)), (.v (CV.int .i64 x2)), (.v (CV.int .i64 x3))] [] K = f4_T R_f7 R_f12 R_f13 k (fun u => K (f4_out u)) x0 x1 x2 x3 := by kernel_rfl
theorem f4_ev {X : Type} (R_f7 : f7_R) (R_f12 : f12_R) (R_f13 : f13_R) (hR_f7 : AnsOk Try.prog 7 (f7_cOf R_f7)) (hR_f12 : AnsOk Try.prog 12 (f12_cOf R_f12)) (hR_f13 : AnsOk Try.prog 13 (f13_cOf R_f13)) (k : Nat) (K : Out → Option X) (x0 : Int) (x1 : Int) (x2 : Int) (x3 : Int) : evFn (f4_cx R_f7 R_f12 R_f13 hR_f7 hR_f12 hR_f13) [] k Try.f4.ntmps Try.f4.results.toList (Try.f4.body.getD .skip) [(.v (CV.int .i64 x0)), (.v (CV.int .i64 x1)), (.v (CV.int .i64 x2)), (.v (CV.int .i64 x3))] [] K = f4_A R_f7 R_f12 R_f13 k X (fun u => K (f4_out u)) x0 x1 x2 x3 := (f4_ev' R_f7 R_f12 R_f13 hR_f7 hR_f12 hR_f13 k K x0 x1 x2 x3).trans rfl
theorem f4_okA (R_f7 : f7_R) (R_f12 : f12_R) (R_f13 : f13_R) (hR_f7 : AnsOk Try.prog 7 (f7_cOf R_f7)) (hR_f12 : AnsOk Try.prog 12 (f12_cOf R_f12)) (hR_f13 : AnsOk Try.prog 13 (f13_cOf R_f13)) (k : Nat) : AnsOk Try.prog 4 (f4_cOf (f4_A R_f7 R_f12 R_f13 k)) := by
  intro X xs ns K x h
  unfold f4_cOf at h ⊢
  split at h
  · exact ans_main S (f4_Cok R_f7 R_f12 R_f13 hR_f7 hR_f12 hR_f13) Try.func4 (ent_of Try.func4 (by kernel_rfl) rfl) rfl (fun X K => f4_ev R_f7 R_f12 R_f13 hR_f7 hR_f12 hR_f13 k K _ _ _ _) h
  · cases h
/-- "outpost/outpostlaw21.WatchFresh" -/
def f4 {X : Type} (k : Nat) (K : Bool → Option X) (x0 : Int) (x1 : Int) (x2 : Int) (x3 : Int) : Option X := f4_A (fun X => @f7 X k) (fun X => @f12 X k) (fun X => @f13 X k) k X K x0 x1 x2 x3
theorem f4_ok (k : Nat) : AnsOk Try.prog 4 (f4_cOf (fun X => @f4 X k)) := f4_okA (fun X => @f7 X k) (fun X => @f12 X k) (fun X => @f13 X k) (f7_ok k) (f12_ok k) (f13_ok k) k
abbrev f14_R : Type 1 := (X : Type) → (Bool → Option X) → CV → Option X
def f14_out (u : Bool) : Out := ⟨(.v (CV.bool u)), []⟩
def f14_cOf (R : f14_R) : FnC := fun X xs ns K => match xs, ns with
  | [(.v x0)], [] => R X (fun u => K (f14_out u)) x0
  | _, _ => none
def f14_plan : Nat → Option (List Nat × List Wk)
  | 0 => some ([0], [])
  | 1 => some ([1], [])
  | _ => none
def f14_C : Fns := noC
theorem f14_Cok : CsOk Try.prog (f14_C) := noC_ok
def f14_cx : Cx := mkCx (tabOf rows) (f14_C) md (cmpIn cmps) f14_plan (f14_Cok)
def f14_T {X : Type} (k : Nat) (K : Bool → Option X)  (x0 : CV) : Option X :=
grd (CV.isA 6 x0) <|
grd (CV.isI .i64 (CV.cellD 0 x0)) <|
grd (CV.isI .i64 (CV.cellD 1 x0)) <|
grd (CV.isS (CV.cellD 2 x0)) <|
grd (CV.isL none (CV.cellD 3 x0)) <|
grd (CV.isI .i64 (CV.cellD 4 x0)) <|
grd (CV.isI .i64 (CV.cellD 5 x0)) <|
(bif (decide ((Nat.cast ((ByteArray.size (CV.toS (CV.cellD 2 x0)))) : Int) ≤ 300)) then
K ((decide ((Nat.cast ((List.length (CV.toL (CV.cellD 3 x0)))) : Int) ≤ 300)))
else
K (false))
/-- "outpost/outpostlaw21.short" -/
def f14_A (k : Nat) : f14_R := fun X K x0 => f14_T k K  x0
set_option maxRecDepth 100000 in
theorem f14_ev' {X : Type} (k : Nat) (K : Out → Option X) (x0 : CV) : evFn (f14_cx) [] k Try.f14.ntmps Try.f14.results.toList (Try.f14.body.getD .skip) [(.v x0)] [] K = f14_T k (fun u => K (f14_out u)) x0 := by kernel_rfl
theorem f14_ev {X : Type} (k : Nat) (K : Out → Option X) (x0 : CV) : evFn (f14_cx) [] k Try.f14.ntmps Try.f14.results.toList (Try.f14.body.getD .skip) [(.v x0)] [] K = f14_A k X (fun u => K (f14_out u)) x0 := (f14_ev' k K x0).trans rfl
theorem f14_okA (k : Nat) : AnsOk Try.prog 14 (f14_cOf (f14_A k)) := by
  intro X xs ns K x h
  unfold f14_cOf at h ⊢
  split at h
  · exact ans_main S (f14_Cok) Try.func14 (ent_of Try.func14 (by kernel_rfl) rfl) rfl (fun X K => f14_ev k K _) h
  · cases h
/-- "outpost/outpostlaw21.short" -/
def f14 {X : Type} (k : Nat) (K : Bool → Option X) (x0 : CV) : Option X := f14_A k X K x0
theorem f14_ok (k : Nat) : AnsOk Try.prog 14 (f14_cOf (fun X => @f14 X k)) := f14_okA k
abbrev f16_R : Type 1 := (X : Type) → (Bool → Option X) → (List CV) → (List CV) → Option X
def f16_out (u : Bool) : Out := ⟨(.v (CV.bool u)), []⟩
def f16_cOf (R : f16_R) : FnC := fun X xs ns K => match xs, ns with
  | [(.sl false none x0), (.sl false none x1)], [] => R X (fun u => K (f16_out u)) x0 x1
  | _, _ => none
def f16_plan : Nat → Option (List Nat × List Wk)
  | 0 => some ([0, 1], [])
  | 1 => some ([0, 1], [])
  | 2 => some ([], [])
  | 3 => some ([0, 1], [])
  | 4 => some ([0, 1, 5], [])
  | 5 => some ([0, 1, 5], [])
  | 6 => some ([0, 1, 5], [])
  | 7 => some ([], [])
  | 8 => some ([], [])
  | _ => none
def f16_C : Fns := noC
theorem f16_Cok : CsOk Try.prog (f16_C) := noC_ok
def f16_cx : Cx := mkCx (tabOf rows) (f16_C) md (cmpIn cmps) f16_plan (f16_Cok)
def f16_S1 (v : (List CV) × (List CV) × Int) : St := ⟨[(.sl false none v.1), (.sl false none v.2.1), .undef, .undef, .undef, (.v (CV.int .i64 v.2.2)), .undef, .undef, .undef, .undef, .undef, .undef, .undef, .undef, .undef, .undef, .undef, .undef, .undef, .undef, .undef, .undef, .undef, .undef, .undef, .undef], []⟩
def f16_T1 {X : Type} (k : Nat) (K : Bool → Option X)   (rec1 : (List CV) × (List CV) × Int → Option X) (v5_0 : (List CV) × (List CV) × Int) : Option X :=
(bif (decide (v5_0.2.2 < (Nat.cast ((List.length v5_0.1)) : Int))) then
grd (decide (0 ≤ v5_0.2.2)) <|
Option.bind (v5_0.1)[(Int.toNat v5_0.2.2)]? fun e8 =>
grd (CV.isI .u8 e8) <|
grd (decide (0 ≤ v5_0.2.2)) <|
Option.bind (v5_0.2.1)[(Int.toNat v5_0.2.2)]? fun e9 =>
grd (CV.isI .u8 e9) <|
(bif ((CV.toI e8) != (CV.toI e9)) then
K (false)
else
rec1 (v5_0.1, v5_0.2.1, (IntKind.wrap .i64 (v5_0.2.2 + 1))))
else
K (true))
def f16_L1 {X : Type} (k : Nat) (K : Bool → Option X)  (rec1 : (List CV) × (List CV) × Int → Option X) (v : (List CV) × (List CV) × Int) : Option X := f16_T1 k K   rec1 v
set_option maxRecDepth 100000 in
theorem f16_L1_ev {X : Type} (k : Nat) (K : Out → Option X)  (r1 : St → Option X) (v : (List CV) × (List CV) × Int) : loopB (f16_cx) k [.r, .r, .l, .r, .b] (Try.f16.body.getD .skip) (retK (f16_cx) [] Try.f16.results.toList K) [] r1 (f16_S1 v) = f16_T1 k (fun u => K (f16_out u))   (fun v => r1 (f16_S1 v)) v := by kernel_rfl
theorem f16_L1_it {X : Type} (k : Nat) (K : Out → Option X)  : (fun v => iter (loopB (f16_cx) k [.r, .r, .l, .r, .b] (Try.f16.body.getD .skip) (retK (f16_cx) [] Try.f16.results.toList K) []) k (f16_S1 v)) = iterV (f16_L1 k (fun u => K (f16_out u)) ) k :=
  iter_map (fun r1 v => (f16_L1_ev k K  r1 v).trans rfl) k
def f16_T {X : Type} (k : Nat) (K : Bool → Option X) (loop1 : (List CV) × (List CV) × Int → Option X) (x0 : List CV) (x1 : List CV) : Option X :=
(bif ((Nat.cast ((List.length x0)) : Int) != (Nat.cast ((List.length x1)) : Int)) then
K (false)
else
loop1 (x0, x1, 0))
/-- "outpost/outpostref01.Same" -/
def f16_A (k : Nat) : f16_R := fun X K x0 x1 => f16_T k K (iterV (f16_L1 k K) k) x0 x1
set_option maxRecDepth 100000 in
theorem f16_ev' {X : Type} (k : Nat) (K : Out → Option X) (x0 : List CV) (x1 : List CV) : evFn (f16_cx) [] k Try.f16.ntmps Try.f16.results.toList (Try.f16.body.getD .skip) [(.sl false none x0), (.sl false none x1)] [] K = f16_T k (fun u => K (f16_out u)) (fun v => iter (loopB (f16_cx) k [.r, .r, .l, .r, .b] (Try.f16.body.getD .skip) (retK (f16_cx) [] Try.f16.results.toList K) []) k (f16_S1 v)) x0 x1 := by kernel_rfl
theorem f16_ev {X : Type} (k : Nat) (K : Out → Option X) (x0 : List CV) (x1 : List CV) : evFn (f16_cx) [] k Try.f16.ntmps Try.f16.results.toList (Try.f16.body.getD .skip) [(.sl false none x0), (.sl false none x1)] [] K = f16_A k X (fun u => K (f16_out u)) x0 x1 := (f16_ev' k K x0 x1).trans (by rw [f16_L1_it k K]; rfl)
theorem f16_okA (k : Nat) : AnsOk Try.prog 16 (f16_cOf (f16_A k)) := by
  intro X xs ns K x h
  unfold f16_cOf at h ⊢
  split at h
  · exact ans_main S (f16_Cok) Try.func16 (ent_of Try.func16 (by kernel_rfl) rfl) rfl (fun X K => f16_ev k K _ _) h
  · cases h
/-- "outpost/outpostref01.Same" -/
def f16 {X : Type} (k : Nat) (K : Bool → Option X) (x0 : List CV) (x1 : List CV) : Option X := f16_A k X K x0 x1
theorem f16_ok (k : Nat) : AnsOk Try.prog 16 (f16_cOf (fun X => @f16 X k)) := f16_okA k
abbrev f15_R : Type 1 := (X : Type) → (Bool → Option X) → CV → CV → Option X
def f15_out (u : Bool) : Out := ⟨(.v (CV.bool u)), []⟩
def f15_cOf (R : f15_R) : FnC := fun X xs ns K => match xs, ns with
  | [(.v x0), (.v x1)], [] => R X (fun u => K (f15_out u)) x0 x1
  | _, _ => none
def f15_plan : Nat → Option (List Nat × List Wk)
  | 0 => some ([0, 1], [])
  | 1 => some ([2, 3], [])
  | _ => none
def f15_C (R_f16 : f16_R) : Fns := (orC 16 (f16_cOf R_f16) noC)
theorem f15_Cok (R_f16 : f16_R) (hR_f16 : AnsOk Try.prog 16 (f16_cOf R_f16)) : CsOk Try.prog (f15_C R_f16) := (orC_ok hR_f16 noC_ok)
def f15_cx (R_f16 : f16_R) (hR_f16 : AnsOk Try.prog 16 (f16_cOf R_f16)) : Cx := mkCx (tabOf rows) (f15_C R_f16) md (cmpIn cmps) f15_plan (f15_Cok R_f16 hR_f16)
def f15_T {X : Type} (R_f16 : f16_R) (k : Nat) (K : Bool → Option X)  (x0 : CV) (x1 : CV) : Option X :=
grd (CV.isA 6 x0) <|
grd (CV.isI .i64 (CV.cellD 0 x0)) <|
grd (CV.isI .i64 (CV.cellD 1 x0)) <|
grd (CV.isS (CV.cellD 2 x0)) <|
grd (CV.isL none (CV.cellD 3 x0)) <|
grd (CV.isI .i64 (CV.cellD 4 x0)) <|
grd (CV.isI .i64 (CV.cellD 5 x0)) <|
grd (CV.isA 6 x1) <|
grd (CV.isI .i64 (CV.cellD 0 x1)) <|
grd (CV.isI .i64 (CV.cellD 1 x1)) <|
grd (CV.isS (CV.cellD 2 x1)) <|
grd (CV.isL none (CV.cellD 3 x1)) <|
grd (CV.isI .i64 (CV.cellD 4 x1)) <|
grd (CV.isI .i64 (CV.cellD 5 x1)) <|
(bif ((CV.toI (CV.cellD 0 x0)) == (CV.toI (CV.cellD 0 x1))) then
(bif ((CV.toI (CV.cellD 1 x0)) == (CV.toI (CV.cellD 1 x1))) then
(bif ((CV.toS (CV.cellD 2 x0)).toList == (CV.toS (CV.cellD 2 x1)).toList) then
R_f16 _ (fun u1 =>
(bif u1 then
(bif ((CV.toI (CV.cellD 4 x0)) == (CV.toI (CV.cellD 4 x1))) then
K (((CV.toI (CV.cellD 5 x0)) == (CV.toI (CV.cellD 5 x1))))
else
K (false))
else
K (false))) ((CV.toL (CV.cellD 3 x0))) ((CV.toL (CV.cellD 3 x1)))
else
K (false))
else
K (false))
else
K (false))
/-- "outpost/outpostref13.Same" -/
def f15_A (R_f16 : f16_R) (k : Nat) : f15_R := fun X K x0 x1 => f15_T R_f16 k K  x0 x1
set_option maxRecDepth 100000 in
theorem f15_ev' {X : Type} (R_f16 : f16_R) (hR_f16 : AnsOk Try.prog 16 (f16_cOf R_f16)) (k : Nat) (K : Out → Option X) (x0 : CV) (x1 : CV) : evFn (f15_cx R_f16 hR_f16) [] k Try.f15.ntmps Try.f15.results.toList (Try.f15.body.getD .skip) [(.v x0), (.v x1)] [] K = f15_T R_f16 k (fun u => K (f15_out u)) x0 x1 := by kernel_rfl
theorem f15_ev {X : Type} (R_f16 : f16_R) (hR_f16 : AnsOk Try.prog 16 (f16_cOf R_f16)) (k : Nat) (K : Out → Option X) (x0 : CV) (x1 : CV) : evFn (f15_cx R_f16 hR_f16) [] k Try.f15.ntmps Try.f15.results.toList (Try.f15.body.getD .skip) [(.v x0), (.v x1)] [] K = f15_A R_f16 k X (fun u => K (f15_out u)) x0 x1 := (f15_ev' R_f16 hR_f16 k K x0 x1).trans rfl
theorem f15_okA (R_f16 : f16_R) (hR_f16 : AnsOk Try.prog 16 (f16_cOf R_f16)) (k : Nat) : AnsOk Try.prog 15 (f15_cOf (f15_A R_f16 k)) := by
  intro X xs ns K x h
  unfold f15_cOf at h ⊢
  split at h
  · exact ans_main S (f15_Cok R_f16 hR_f16) Try.func15 (ent_of Try.func15 (by kernel_rfl) rfl) rfl (fun X K => f15_ev R_f16 hR_f16 k K _ _) h
  · cases h
/-- "outpost/outpostref13.Same" -/
def f15 {X : Type} (k : Nat) (K : Bool → Option X) (x0 : CV) (x1 : CV) : Option X := f15_A (fun X => @f16 X k) k X K x0 x1
theorem f15_ok (k : Nat) : AnsOk Try.prog 15 (f15_cOf (fun X => @f15 X k)) := f15_okA (fun X => @f16 X k) (f16_ok k) k
abbrev f5_R : Type 1 := (X : Type) → (Bool → Option X) → (List CV) → (List CV) → Option X
def f5_out (u : Bool) : Out := ⟨(.v (CV.bool u)), []⟩
def f5_cOf (R : f5_R) : FnC := fun X xs ns K => match xs, ns with
  | [(.sl true (some 6) x0), (.sl true none x1)], [] => R X (fun u => K (f5_out u)) x0 x1
  | _, _ => none
def f5_plan : Nat → Option (List Nat × List Wk)
  | 0 => some ([0, 1], [])
  | 1 => some ([0, 1], [])
  | 2 => some ([], [])
  | 3 => some ([0, 1], [])
  | 4 => some ([], [])
  | 5 => some ([0, 1], [])
  | 6 => some ([0, 1, 29, 30, 31], [])
  | 7 => some ([0, 1, 29, 30, 31], [])
  | 8 => some ([0, 1, 6, 29, 30, 31], [])
  | 9 => some ([], [])
  | 10 => some ([0, 1, 29, 30, 31], [])
  | 11 => some ([0, 1], [])
  | 12 => some ([0, 1, 7], [])
  | 13 => some ([], [])
  | 14 => some ([0, 1, 7], [])
  | 15 => some ([0, 1, 7, 8, 9], [])
  | 16 => some ([1, 7, 8, 9, 51, 52, 53], [])
  | 17 => some ([1, 7, 8, 9, 51, 52, 53], [])
  | 18 => some ([1, 7, 8, 9, 10, 11, 51, 52, 53], [])
  | 19 => some ([1, 7, 8, 9, 10, 11, 12, 51, 52, 53], [])
  | 20 => some ([1, 7, 8, 9, 11, 12, 13, 51, 52, 53], [])
  | 21 => some ([], [])
  | 22 => some ([1, 7, 8, 9, 11, 12, 13, 51, 52, 53], [])
  | 23 => some ([1, 7, 8, 9, 11, 12, 51, 52, 53], [])
  | 24 => some ([1, 7, 8, 9, 11, 12, 51, 52, 53], [])
  | 25 => some ([1, 7, 8, 9, 11, 12, 51, 52, 53], [])
  | 26 => some ([], [])
  | 27 => some ([1, 7, 8, 9, 51, 52, 53], [])
  | 28 => some ([], [])
  | _ => none
def f5_C (R_f7 : f7_R) (R_f14 : f14_R) (R_f8 : f8_R) (R_f9 : f9_R) (R_f11 : f11_R) (R_f15 : f15_R) (R_f16 : f16_R) : Fns := (orC 7 (f7_cOf R_f7) (orC 8 (f8_cOf R_f8) (orC 9 (f9_cOf R_f9) (orC 11 (f11_cOf R_f11) (orC 14 (f14_cOf R_f14) (orC 15 (f15_cOf R_f15) (orC 16 (f16_cOf R_f16) noC)))))))
theorem f5_Cok (R_f7 : f7_R) (R_f14 : f14_R) (R_f8 : f8_R) (R_f9 : f9_R) (R_f11 : f11_R) (R_f15 : f15_R) (R_f16 : f16_R) (hR_f7 : AnsOk Try.prog 7 (f7_cOf R_f7)) (hR_f14 : AnsOk Try.prog 14 (f14_cOf R_f14)) (hR_f8 : AnsOk Try.prog 8 (f8_cOf R_f8)) (hR_f9 : AnsOk Try.prog 9 (f9_cOf R_f9)) (hR_f11 : AnsOk Try.prog 11 (f11_cOf R_f11)) (hR_f15 : AnsOk Try.prog 15 (f15_cOf R_f15)) (hR_f16 : AnsOk Try.prog 16 (f16_cOf R_f16)) : CsOk Try.prog (f5_C R_f7 R_f14 R_f8 R_f9 R_f11 R_f15 R_f16) := (orC_ok hR_f7 (orC_ok hR_f8 (orC_ok hR_f9 (orC_ok hR_f11 (orC_ok hR_f14 (orC_ok hR_f15 (orC_ok hR_f16 noC_ok)))))))
def f5_cx (R_f7 : f7_R) (R_f14 : f14_R) (R_f8 : f8_R) (R_f9 : f9_R) (R_f11 : f11_R) (R_f15 : f15_R) (R_f16 : f16_R) (hR_f7 : AnsOk Try.prog 7 (f7_cOf R_f7)) (hR_f14 : AnsOk Try.prog 14 (f14_cOf R_f14)) (hR_f8 : AnsOk Try.prog 8 (f8_cOf R_f8)) (hR_f9 : AnsOk Try.prog 9 (f9_cOf R_f9)) (hR_f11 : AnsOk Try.prog 11 (f11_cOf R_f11)) (hR_f15 : AnsOk Try.prog 15 (f15_cOf R_f15)) (hR_f16 : AnsOk Try.prog 16 (f16_cOf R_f16)) : Cx := mkCx (tabOf rows) (f5_C R_f7 R_f14 R_f8 R_f9 R_f11 R_f15 R_f16) md (cmpIn cmps) f5_plan (f5_Cok R_f7 R_f14 R_f8 R_f9 R_f11 R_f15 R_f16 hR_f7 hR_f14 hR_f8 hR_f9 hR_f11 hR_f15 hR_f16)
def f5_S1 (v : (List CV) × (List CV) × (List CV) × Int × Int) : St := ⟨[(.sl true (some 6) v.1), (.sl true none v.2.1), .undef, .undef, .undef, .undef, .undef, .undef, .undef, .undef, .undef, .undef, .undef, .undef, .undef, .undef, .undef, .undef, .undef, .undef, .undef, .undef, .undef, .undef, .undef, .undef, .undef, .undef, .undef, (.sl true (some 6) v.2.2.1), (.v (CV.int .i64 v.2.2.2.1)), (.v (CV.int .i64 v.2.2.2.2)), .undef, .undef, .undef, .undef, .undef, .undef, .undef, .undef, .undef, .undef, .undef, .undef, .undef, .undef, .undef, .undef, .undef, .undef, .undef, .undef, .undef, .undef, .undef, .undef, .undef, .undef, .undef, .undef, .undef, .undef, .undef, .undef, .undef, .undef, .undef, .undef, .undef, .undef, .undef, .undef, .undef, .undef, .undef, .undef, .undef, .undef, .undef, .undef, .undef, .undef, .undef, .undef, .undef, .undef, .undef, .undef, .undef, .undef, .undef, .undef, .undef, .undef, .undef, .undef, .undef, .undef, .undef, .undef, .undef, .undef, .undef, .undef, .undef, .undef, .undef, .undef, .undef, .undef, .undef, .undef, .undef, .undef, .undef, .undef, .undef], []⟩
def f5_S2 (v : (List CV) × Int × (List CV) × Int × Int × Int × Int × ByteArray × (List CV) × Int × Int × Nat × (List CV)) : St := ⟨[.undef, (.sl true none v.1), .undef, .undef, .undef, .undef, .undef, (.ptr [39] 0 0 0), (.ptr [8] 0 0 0), (.v (CV.int .i64 v.2.1)), .undef, .undef, .undef, .undef, .undef, .undef, .undef, .undef, .undef, .undef, .undef, .undef, .undef, .undef, .undef, .undef, .undef, .undef, .undef, .undef, .undef, .undef, .undef, .undef, .undef, .undef, .undef, .undef, .undef, .undef, .undef, .undef, .undef, .undef, .undef, .undef, .undef, .undef, .undef, .undef, .undef, (.sl true (some 6) v.2.2.1), (.v (CV.int .i64 v.2.2.2.1)), (.v (CV.int .i64 v.2.2.2.2.1)), .undef, .undef, .undef, .undef, .undef, .undef, .undef, .undef, .undef, .undef, .undef, .undef, .undef, .undef, .undef, .undef, .undef, .undef, .undef, .undef, .undef, .undef, .undef, .undef, .undef, .undef, .undef, .undef, .undef, .undef, .undef, .undef, .undef, .undef, .undef, .undef, .undef, .undef, .undef, .undef, .undef, .undef, .undef, .undef, .undef, .undef, .undef, .undef, .undef, .undef, .undef, .undef, .undef, .undef, .undef, .undef, .undef, .undef, .undef, .undef, .undef, .undef, .undef], [([8], (.obj [(.v (CV.int .i64 v.2.2.2.2.2.1)), (.v (CV.int .i64 v.2.2.2.2.2.2.1)), (.v (CV.str v.2.2.2.2.2.2.2.1)), (.sl true none v.2.2.2.2.2.2.2.2.1), (.v (CV.int .i64 v.2.2.2.2.2.2.2.2.2.1)), (.v (CV.int .i64 v.2.2.2.2.2.2.2.2.2.2.1))])), ([39], (.obj [(.osl [0, 39] (some 21) 0 v.2.2.2.2.2.2.2.2.2.2.2.1)])), ([0, 39], (.row false (some 21) v.2.2.2.2.2.2.2.2.2.2.2.2))]⟩
def f5_J1 {X : Type} (R_f7 : f7_R) (R_f14 : f14_R) (R_f8 : f8_R) (R_f9 : f9_R) (R_f11 : f11_R) (R_f15 : f15_R) (R_f16 : f16_R) (k : Nat) (K : Bool → Option X) (rec2 : (List CV) × Int × (List CV) × Int × Int × Int × Int × ByteArray × (List CV) × Int × Int × Nat × (List CV) → Option X) (v10_17 : (List CV) × Int × (List CV) × Int × Int × Int × Int × ByteArray × (List CV) × Int × Int × Nat × (List CV)) (v58 : Int × Int × Int × ByteArray × (List CV) × Int × Int × Nat × (List CV)) : Option X :=
rec2 (v10_17.1, v58.1, v10_17.2.2.1, v10_17.2.2.2.1, (IntKind.wrap .i64 (v10_17.2.2.2.2.1 + 1)), v58.2.1, v58.2.2.1, v58.2.2.2.1, v58.2.2.2.2.1, v58.2.2.2.2.2.1, v58.2.2.2.2.2.2.1, v58.2.2.2.2.2.2.2.1, v58.2.2.2.2.2.2.2.2)
def f5_T2 {X : Type} (R_f7 : f7_R) (R_f14 : f14_R) (R_f8 : f8_R) (R_f9 : f9_R) (R_f11 : f11_R) (R_f15 : f15_R) (R_f16 : f16_R) (k : Nat) (K : Bool → Option X)   (rec2 : (List CV) × Int × (List CV) × Int × Int × Int × Int × ByteArray × (List CV) × Int × Int × Nat × (List CV) → Option X) (v10_17 : (List CV) × Int × (List CV) × Int × Int × Int × Int × ByteArray × (List CV) × Int × Int × Nat × (List CV)) : Option X :=
(bif (decide (v10_17.2.2.2.2.1 < v10_17.2.2.2.1)) then
grd (decide (0 ≤ v10_17.2.2.2.2.1)) <|
Option.bind (v10_17.2.2.1)[(Int.toNat v10_17.2.2.2.2.1)]? fun e59 =>
grd (CV.isA 6 e59) <|
grd (CV.isI .i64 (CV.cellD 0 e59)) <|
grd (CV.isI .i64 (CV.cellD 1 e59)) <|
grd (CV.isS (CV.cellD 2 e59)) <|
grd (CV.isL none (CV.cellD 3 e59)) <|
grd (CV.isI .i64 (CV.cellD 4 e59)) <|
grd (CV.isI .i64 (CV.cellD 5 e59)) <|
R_f11 _ (fun u60 =>
(bif (decide (v10_17.2.2.2.2.1 > 0)) then
R_f15 _ (fun u61 =>
(bif (!(((Nat.cast (u60.1) : Int) == 1) == (!u61))) then
K (false)
else
(bif (decide ((Nat.cast (u60.1) : Int) > 1)) then
K (false)
else
(bif (!u61) then
grd (decide (0 < (Nat.cast (u60.1) : Int))) <|
Option.bind (u60.2.2.2)[0]? fun e62 =>
Option.bind (CV.cell e62 20) fun c63 =>
grd (CV.isI .i64 c63) <|
(bif ((CV.toI c63) != (IntKind.wrap .i64 (v10_17.2.1 + 1))) then
K (false)
else
grd (decide (0 < (Nat.cast (u60.1) : Int))) <|
Option.bind (u60.2.2.2)[0]? fun e64 =>
Option.bind (CV.cell e64 0) fun c65 =>
grd (CV.isI .i64 c65) <|
(bif ((CV.toI c65) != 3) then
K (false)
else
grd (decide (0 < (Nat.cast (u60.1) : Int))) <|
Option.bind (u60.2.2.2)[0]? fun e66 =>
Option.bind (CV.cell e66 1) fun c67 =>
grd (CV.isL none c67) <|
R_f16 _ (fun u68 =>
(bif (!u68) then
K (false)
else
grd (decide (0 < (Nat.cast (u60.1) : Int))) <|
Option.bind (u60.2.2.2)[0]? fun e69 =>
Option.bind (CV.part e69 13 6) fun c70 =>
R_f15 _ (fun u71 =>
(bif (!u71) then
K (false)
else
f5_J1 R_f7 R_f14 R_f8 R_f9 R_f11 R_f15 R_f16 k K rec2 v10_17 ((IntKind.wrap .i64 (v10_17.2.1 + 1)), (CV.toI (CV.cellD 0 e59)), (CV.toI (CV.cellD 1 e59)), (CV.toS (CV.cellD 2 e59)), (CV.toL (CV.cellD 3 e59)), (CV.toI (CV.cellD 4 e59)), (CV.toI (CV.cellD 5 e59)), u60.2.1, u60.2.2.1))) (c70) ((CV.agg [(CV.int .i64 (CV.toI (CV.cellD 0 e59))), (CV.int .i64 (CV.toI (CV.cellD 1 e59))), (CV.str (CV.toS (CV.cellD 2 e59))), (CV.slc none (CV.toL (CV.cellD 3 e59))), (CV.int .i64 (CV.toI (CV.cellD 4 e59))), (CV.int .i64 (CV.toI (CV.cellD 5 e59)))])))) ((CV.toL c67)) (v10_17.1)))
else
f5_J1 R_f7 R_f14 R_f8 R_f9 R_f11 R_f15 R_f16 k K rec2 v10_17 (v10_17.2.1, v10_17.2.2.2.2.2.1, v10_17.2.2.2.2.2.2.1, v10_17.2.2.2.2.2.2.2.1, v10_17.2.2.2.2.2.2.2.2.1, v10_17.2.2.2.2.2.2.2.2.2.1, v10_17.2.2.2.2.2.2.2.2.2.2.1, u60.2.1, u60.2.2.1))))) ((CV.agg [(CV.int .i64 v10_17.2.2.2.2.2.1), (CV.int .i64 v10_17.2.2.2.2.2.2.1), (CV.str v10_17.2.2.2.2.2.2.2.1), (CV.slc none v10_17.2.2.2.2.2.2.2.2.1), (CV.int .i64 v10_17.2.2.2.2.2.2.2.2.2.1), (CV.int .i64 v10_17.2.2.2.2.2.2.2.2.2.2.1)])) ((CV.agg [(CV.int .i64 (CV.toI (CV.cellD 0 e59))), (CV.int .i64 (CV.toI (CV.cellD 1 e59))), (CV.str (CV.toS (CV.cellD 2 e59))), (CV.slc none (CV.toL (CV.cellD 3 e59))), (CV.int .i64 (CV.toI (CV.cellD 4 e59))), (CV.int .i64 (CV.toI (CV.cellD 5 e59)))]))
else
(bif (!(((Nat.cast (u60.1) : Int) == 1) == false)) then
K (false)
else
(bif (decide ((Nat.cast (u60.1) : Int) > 1)) then
K (false)
else
f5_J1 R_f7 R_f14 R_f8 R_f9 R_f11 R_f15 R_f16 k K rec2 v10_17 (v10_17.2.1, v10_17.2.2.2.2.2.1, v10_17.2.2.2.2.2.2.1, v10_17.2.2.2.2.2.2.2.1, v10_17.2.2.2.2.2.2.2.2.1, v10_17.2.2.2.2.2.2.2.2.2.1, v10_17.2.2.2.2.2.2.2.2.2.2.1, u60.2.1, u60.2.2.1))))) ((List.take 1 (List.drop 0 [(CV.agg [(CV.int .i64 (CV.toI (CV.cellD 0 e59))), (CV.int .i64 (CV.toI (CV.cellD 1 e59))), (CV.str (CV.toS (CV.cellD 2 e59))), (CV.slc none (CV.toL (CV.cellD 3 e59))), (CV.int .i64 (CV.toI (CV.cellD 4 e59))), (CV.int .i64 (CV.toI (CV.cellD 5 e59)))])]))) (v10_17.2.2.2.2.1) (v10_17.2.2.2.2.2.2.2.2.2.2.2.1) (v10_17.2.2.2.2.2.2.2.2.2.2.2.2)
else
K (true))
def f5_L2 {X : Type} (R_f7 : f7_R) (R_f14 : f14_R) (R_f8 : f8_R) (R_f9 : f9_R) (R_f11 : f11_R) (R_f15 : f15_R) (R_f16 : f16_R) (k : Nat) (K : Bool → Option X)  (rec2 : (List CV) × Int × (List CV) × Int × Int × Int × Int × ByteArray × (List CV) × Int × Int × Nat × (List CV) → Option X) (v : (List CV) × Int × (List CV) × Int × Int × Int × Int × ByteArray × (List CV) × Int × Int × Nat × (List CV)) : Option X := f5_T2 R_f7 R_f14 R_f8 R_f9 R_f11 R_f15 R_f16 k K   rec2 v
set_option maxRecDepth 100000 in
theorem f5_L2_ev {X : Type} (R_f7 : f7_R) (R_f14 : f14_R) (R_f8 : f8_R) (R_f9 : f9_R) (R_f11 : f11_R) (R_f15 : f15_R) (R_f16 : f16_R) (hR_f7 : AnsOk Try.prog 7 (f7_cOf R_f7)) (hR_f14 : AnsOk Try.prog 14 (f14_cOf R_f14)) (hR_f8 : AnsOk Try.prog 8 (f8_cOf R_f8)) (hR_f9 : AnsOk Try.prog 9 (f9_cOf R_f9)) (hR_f11 : AnsOk Try.prog 11 (f11_cOf R_f11)) (hR_f15 : AnsOk Try.prog 15 (f15_cOf R_f15)) (hR_f16 : AnsOk Try.prog 16 (f16_cOf R_f16)) (k : Nat) (K : Out → Option X)  (r2 : St → Option X) (v : (List CV) × Int × (List CV) × Int × Int × Int × Int × ByteArray × (List CV) × Int × Int × Nat × (List CV)) : loopB (f5_cx R_f7 R_f14 R_f8 R_f9 R_f11 R_f15 R_f16 hR_f7 hR_f14 hR_f8 hR_f9 hR_f11 hR_f15 hR_f16) k [.r, .r, .r, .r, .r, .r, .r, .l, .r, .b] (Try.f5.body.getD .skip) (retK (f5_cx R_f7 R_f14 R_f8 R_f9 R_f11 R_f15 R_f16 hR_f7 hR_f14 hR_f8 hR_f9 hR_f11 hR_f15 hR_f16) [] Try.f5.results.toList K) [] r2 (f5_S2 v) = f5_T2 R_f7 R_f14 R_f8 R_f9 R_f11 R_f15 R_f16 k (fun u => K (f5_out u))   (fun v => r2 (f5_S2 v)) v := by kernel_rfl
theorem f5_L2_it {X : Type} (R_f7 : f7_R) (R_f14 : f14_R) (R_f8 : f8_R) (R_f9 : f9_R) (R_f11 : f11_R) (R_f15 : f15_R) (R_f16 : f16_R) (hR_f7 : AnsOk Try.prog 7 (f7_cOf R_f7)) (hR_f14 : AnsOk Try.prog 14 (f14_cOf R_f14)) (hR_f8 : AnsOk Try.prog 8 (f8_cOf R_f8)) (hR_f9 : AnsOk Try.prog 9 (f9_cOf R_f9)) (hR_f11 : AnsOk Try.prog 11 (f11_cOf R_f11)) (hR_f15 : AnsOk Try.prog 15 (f15_cOf R_f15)) (hR_f16 : AnsOk Try.prog 16 (f16_cOf R_f16)) (k : Nat) (K : Out → Option X)  : (fun v => iter (loopB (f5_cx R_f7 R_f14 R_f8 R_f9 R_f11 R_f15 R_f16 hR_f7 hR_f14 hR_f8 hR_f9 hR_f11 hR_f15 hR_f16) k [.r, .r, .r, .r, .r, .r, .r, .l, .r, .b] (Try.f5.body.getD .skip) (retK (f5_cx R_f7 R_f14 R_f8 R_f9 R_f11 R_f15 R_f16 hR_f7 hR_f14 hR_f8 hR_f9 hR_f11 hR_f15 hR_f16) [] Try.f5.results.toList K) []) k (f5_S2 v)) = iterV (f5_L2 R_f7 R_f14 R_f8 R_f9 R_f11 R_f15 R_f16 k (fun u => K (f5_out u)) ) k :=
  iter_map (fun r2 v => (f5_L2_ev R_f7 R_f14 R_f8 R_f9 R_f11 R_f15 R_f16 hR_f7 hR_f14 hR_f8 hR_f9 hR_f11 hR_f15 hR_f16 k K  r2 v).trans rfl) k
def f5_T1 {X : Type} (R_f7 : f7_R) (R_f14 : f14_R) (R_f8 : f8_R) (R_f9 : f9_R) (R_f11 : f11_R) (R_f15 : f15_R) (R_f16 : f16_R) (k : Nat) (K : Bool → Option X)  (loop2 : (List CV) × Int × (List CV) × Int × Int × Int × Int × ByteArray × (List CV) × Int × Int × Nat × (List CV) → Option X) (rec1 : (List CV) × (List CV) × (List CV) × Int × Int → Option X) (v6_2 : (List CV) × (List CV) × (List CV) × Int × Int) : Option X :=
(bif (decide (v6_2.2.2.2.2 < v6_2.2.2.2.1)) then
grd (decide (0 ≤ v6_2.2.2.2.2)) <|
Option.bind (v6_2.2.2.1)[(Int.toNat v6_2.2.2.2.2)]? fun e10 =>
grd (CV.isA 6 e10) <|
grd (CV.isI .i64 (CV.cellD 0 e10)) <|
grd (CV.isI .i64 (CV.cellD 1 e10)) <|
grd (CV.isS (CV.cellD 2 e10)) <|
grd (CV.isL none (CV.cellD 3 e10)) <|
grd (CV.isI .i64 (CV.cellD 4 e10)) <|
grd (CV.isI .i64 (CV.cellD 5 e10)) <|
R_f14 _ (fun u11 =>
(bif (!u11) then
K (true)
else
rec1 (v6_2.1, v6_2.2.1, v6_2.2.2.1, v6_2.2.2.2.1, (IntKind.wrap .i64 (v6_2.2.2.2.2 + 1))))) ((CV.agg [(CV.int .i64 (CV.toI (CV.cellD 0 e10))), (CV.int .i64 (CV.toI (CV.cellD 1 e10))), (CV.str (CV.toS (CV.cellD 2 e10))), (CV.slc none (CV.toL (CV.cellD 3 e10))), (CV.int .i64 (CV.toI (CV.cellD 4 e10))), (CV.int .i64 (CV.toI (CV.cellD 5 e10)))]))
else
R_f8 _ (fun u12 =>
Option.bind (v6_2.1)[0]? fun e15 =>
grd (CV.isA 6 e15) <|
grd (CV.isI .i64 (CV.cellD 0 e15)) <|
grd (CV.isI .i64 (CV.cellD 1 e15)) <|
grd (CV.isS (CV.cellD 2 e15)) <|
grd (CV.isL none (CV.cellD 3 e15)) <|
grd (CV.isI .i64 (CV.cellD 4 e15)) <|
grd (CV.isI .i64 (CV.cellD 5 e15)) <|
R_f9 _ (fun u16 =>
(bif (u16.1 != 0) then
K (false)
else
Option.bind (v6_2.1)[0]? fun e17 =>
grd (CV.isA 6 e17) <|
grd (CV.isI .i64 (CV.cellD 0 e17)) <|
grd (CV.isI .i64 (CV.cellD 1 e17)) <|
grd (CV.isS (CV.cellD 2 e17)) <|
grd (CV.isL none (CV.cellD 3 e17)) <|
grd (CV.isI .i64 (CV.cellD 4 e17)) <|
grd (CV.isI .i64 (CV.cellD 5 e17)) <|
loop2 (v6_2.2.1, 0, v6_2.1, (Nat.cast ((List.length v6_2.1)) : Int), 0, (CV.toI (CV.cellD 0 e17)), (CV.toI (CV.cellD 1 e17)), (CV.toS (CV.cellD 2 e17)), (CV.toL (CV.cellD 3 e17)), (CV.toI (CV.cellD 4 e17)), (CV.toI (CV.cellD 5 e17)), u16.2.1, u16.2.2))) ((CV.agg [(CV.int .i64 3), (CV.slc none v6_2.2.1), (CV.slc none []), (CV.int .i64 0), (CV.int .i64 0), (CV.bool false), (CV.bool false), (CV.int .i64 0), (CV.int .i64 0), (CV.int .i64 0), (CV.bool false), (CV.bool false), (CV.bool false), (CV.int .i64 (CV.toI (CV.cellD 0 e15))), (CV.int .i64 (CV.toI (CV.cellD 1 e15))), (CV.str (CV.toS (CV.cellD 2 e15))), (CV.slc none (CV.toL (CV.cellD 3 e15))), (CV.int .i64 (CV.toI (CV.cellD 4 e15))), (CV.int .i64 (CV.toI (CV.cellD 5 e15))), (CV.int .i64 0), (CV.int .i64 0)])) (0) (u12)) )
def f5_L1 {X : Type} (R_f7 : f7_R) (R_f14 : f14_R) (R_f8 : f8_R) (R_f9 : f9_R) (R_f11 : f11_R) (R_f15 : f15_R) (R_f16 : f16_R) (k : Nat) (K : Bool → Option X)  (rec1 : (List CV) × (List CV) × (List CV) × Int × Int → Option X) (v : (List CV) × (List CV) × (List CV) × Int × Int) : Option X := f5_T1 R_f7 R_f14 R_f8 R_f9 R_f11 R_f15 R_f16 k K  (iterV (f5_L2 R_f7 R_f14 R_f8 R_f9 R_f11 R_f15 R_f16 k K ) k) rec1 v
set_option maxRecDepth 100000 in
theorem f5_L1_ev {X : Type} (R_f7 : f7_R) (R_f14 : f14_R) (R_f8 : f8_R) (R_f9 : f9_R) (R_f11 : f11_R) (R_f15 : f15_R) (R_f16 : f16_R) (hR_f7 : AnsOk Try.prog 7 (f7_cOf R_f7)) (hR_f14 : AnsOk Try.prog 14 (f14_cOf R_f14)) (hR_f8 : AnsOk Try.prog 8 (f8_cOf R_f8)) (hR_f9 : AnsOk Try.prog 9 (f9_cOf R_f9)) (hR_f11 : AnsOk Try.prog 11 (f11_cOf R_f11)) (hR_f15 : AnsOk Try.prog 15 (f15_cOf R_f15)) (hR_f16 : AnsOk Try.prog 16 (f16_cOf R_f16)) (k : Nat) (K : Out → Option X)  (r1 : St → Option X) (v : (List CV) × (List CV) × (List CV) × Int × Int) : loopB (f5_cx R_f7 R_f14 R_f8 R_f9 R_f11 R_f15 R_f16 hR_f7 hR_f14 hR_f8 hR_f9 hR_f11 hR_f15 hR_f16) k [.r, .r, .r, .l, .r, .b] (Try.f5.body.getD .skip) (retK (f5_cx R_f7 R_f14 R_f8 R_f9 R_f11 R_f15 R_f16 hR_f7 hR_f14 hR_f8 hR_f9 hR_f11 hR_f15 hR_f16) [] Try.f5.results.toList K) [] r1 (f5_S1 v) = f5_T1 R_f7 R_f14 R_f8 R_f9 R_f11 R_f15 R_f16 k (fun u => K (f5_out u))  (fun v => iter (loopB (f5_cx R_f7 R_f14 R_f8 R_f9 R_f11 R_f15 R_f16 hR_f7 hR_f14 hR_f8 hR_f9 hR_f11 hR_f15 hR_f16) k [.r, .r, .r, .r, .r, .r, .r, .l, .r, .b] (Try.f5.body.getD .skip) (retK (f5_cx R_f7 R_f14 R_f8 R_f9 R_f11 R_f15 R_f16 hR_f7 hR_f14 hR_f8 hR_f9 hR_f11 hR_f15 hR_f16) [] Try.f5.results.toList K) []) k (f5_S2 v)) (fun v => r1 (f5_S1 v)) v := by kernel_rfl
theorem f5_L1_it {X : Type} (R_f7 : f7_R) (R_f14 : f14_R) (R_f8 : f8_R) (R_f9 : f9_R) (R_f11 : f11_R) (R_f15 : f15_R) (R_f16 : f16_R) (hR_f7 : AnsOk Try.prog 7 (f7_cOf R_f7)) (hR_f14 : AnsOk Try.prog 14 (f14_cOf R_f14)) (hR_f8 : AnsOk Try.prog 8 (f8_cOf R_f8)) (hR_f9 : AnsOk Try.prog 9 (f9_cOf R_f9)) (hR_f11 : AnsOk Try.prog 11 (f11_cOf R_f11)) (hR_f15 : AnsOk Try.prog 15 (f15_cOf R_f15)) (hR_f16 : AnsOk Try.prog 16 (f16_cOf R_f16)) (k : Nat) (K : Out → Option X)  : (fun v => iter (loopB (f5_cx R_f7 R_f14 R_f8 R_f9 R_f11 R_f15 R_f16 hR_f7 hR_f14 hR_f8 hR_f9 hR_f11 hR_f15 hR_f16) k [.r, .r, .r, .l, .r, .b] (Try.f5.body.getD .skip) (retK (f5_cx R_f7 R_f14 R_f8 R_f9 R_f11 R_f15 R_f16 hR_f7 hR_f14 hR_f8 hR_f9 hR_f11 hR_f15 hR_f16) [] Try.f5.results.toList K) []) k (f5_S1 v)) = iterV (f5_L1 R_f7 R_f14 R_f8 R_f9 R_f11 R_f15 R_f16 k (fun u => K (f5_out u)) ) k :=
  iter_map (fun r1 v => (f5_L1_ev R_f7 R_f14 R_f8 R_f9 R_f11 R_f15 R_f16 hR_f7 hR_f14 hR_f8 hR_f9 hR_f11 hR_f15 hR_f16 k K  r1 v).trans (by rw [f5_L2_it R_f7 R_f14 R_f8 R_f9 R_f11 R_f15 R_f16 hR_f7 hR_f14 hR_f8 hR_f9 hR_f11 hR_f15 hR_f16 k K ]; rfl)) k
def f5_T {X : Type} (R_f7 : f7_R) (R_f14 : f14_R) (R_f8 : f8_R) (R_f9 : f9_R) (R_f11 : f11_R) (R_f15 : f15_R) (R_f16 : f16_R) (k : Nat) (K : Bool → Option X) (loop1 : (List CV) × (List CV) × (List CV) × Int × Int → Option X) (x0 : List CV) (x1 : List CV) : Option X :=
R_f7 _ (fun u2 =>
(bif (!u2) then
K (false)
else
(bif (decide ((Nat.cast ((List.length x0)) : Int) > 80)) then
K (true)
else
(bif ((Nat.cast ((List.length x0)) : Int) == 0) then
K (true)
else
(bif (decide ((Nat.cast ((List.length x1)) : Int) > 8)) then
K (true)
else
loop1 (x0, x1, x0, (Nat.cast ((List.length x0)) : Int), 0)))))) 
/-- "outpost/outpostlaw21.WatchSame" -/
def f5_A (R_f7 : f7_R) (R_f14 : f14_R) (R_f8 : f8_R) (R_f9 : f9_R) (R_f11 : f11_R) (R_f15 : f15_R) (R_f16 : f16_R) (k : Nat) : f5_R := fun X K x0 x1 => f5_T R_f7 R_f14 R_f8 R_f9 R_f11 R_f15 R_f16 k K (iterV (f5_L1 R_f7 R_f14 R_f8 R_f9 R_f11 R_f15 R_f16 k K) k) x0 x1
set_option maxRecDepth 100000 in
theorem f5_ev' {X : Type} (R_f7 : f7_R) (R_f14 : f14_R) (R_f8 : f8_R) (R_f9 : f9_R) (R_f11 : f11_R) (R_f15 : f15_R) (R_f16 : f16_R) (hR_f7 : AnsOk Try.prog 7 (f7_cOf R_f7)) (hR_f14 : AnsOk Try.prog 14 (f14_cOf R_f14)) (hR_f8 : AnsOk Try.prog 8 (f8_cOf R_f8)) (hR_f9 : AnsOk Try.prog 9 (f9_cOf R_f9)) (hR_f11 : AnsOk Try.prog 11 (f11_cOf R_f11)) (hR_f15 : AnsOk Try.prog 15 (f15_cOf R_f15)) (hR_f16 : AnsOk Try.prog 16 (f16_cOf R_f16)) (k : Nat) (K : Out → Option X) (x0 : List CV) (x1 : List CV) : evFn (f5_cx R_f7 R_f14 R_f8 R_f9 R_f11 R_f15 R_f16 hR_f7 hR_f14 hR_f8 hR_f9 hR_f11 hR_f15 hR_f16) [] k Try.f5.ntmps Try.f5.results.toList (Try.f5.body.getD .skip) [(.sl true (some 6) x0), (.sl true none x1)] [] K = f5_T R_f7 R_f14 R_f8 R_f9 R_f11 R_f15 R_f16 k (fun u => K (f5_out u)) (fun v => iter (loopB (f5_cx R_f7 R_f14 R_f8 R_f9 R_f11 R_f15 R_f16 hR_f7 hR_f14 hR_f8 hR_f9 hR_f11 hR_f15 hR_f16) k [.r, .r, .r, .l, .r, .b] (Try.f5.body.getD .skip) (retK (f5_cx R_f7 R_f14 R_f8 R_f9 R_f11 R_f15 R_f16 hR_f7 hR_f14 hR_f8 hR_f9 hR_f11 hR_f15 hR_f16) [] Try.f5.results.toList K) []) k (f5_S1 v)) x0 x1 := by kernel_rfl
theorem f5_ev {X : Type} (R_f7 : f7_R) (R_f14 : f14_R) (R_f8 : f8_R) (R_f9 : f9_R) (R_f11 : f11_R) (R_f15 : f15_R) (R_f16 : f16_R) (hR_f7 : AnsOk Try.prog 7 (f7_cOf R_f7)) (hR_f14 : AnsOk Try.prog 14 (f14_cOf R_f14)) (hR_f8 : AnsOk Try.prog 8 (f8_cOf R_f8)) (hR_f9 : AnsOk Try.prog 9 (f9_cOf R_f9)) (hR_f11 : AnsOk Try.prog 11 (f11_cOf R_f11)) (hR_f15 : AnsOk Try.prog 15 (f15_cOf R_f15)) (hR_f16 : AnsOk Try.prog 16 (f16_cOf R_f16)) (k : Nat) (K : Out → Option X) (x0 : List CV) (x1 : List CV) : evFn (f5_cx R_f7 R_f14 R_f8 R_f9 R_f11 R_f15 R_f16 hR_f7 hR_f14 hR_f8 hR_f9 hR_f11 hR_f15 hR_f16) [] k Try.f5.ntmps Try.f5.results.toList (Try.f5.body.getD .skip) [(.sl true (some 6) x0), (.sl true none x1)] [] K = f5_A R_f7 R_f14 R_f8 R_f9 R_f11 R_f15 R_f16 k X (fun u => K (f5_out u)) x0 x1 := (f5_ev' R_f7 R_f14 R_f8 R_f9 R_f11 R_f15 R_f16 hR_f7 hR_f14 hR_f8 hR_f9 hR_f11 hR_f15 hR_f16 k K x0 x1).trans (by rw [f5_L1_it R_f7 R_f14 R_f8 R_f9 R_f11 R_f15 R_f16 hR_f7 hR_f14 hR_f8 hR_f9 hR_f11 hR_f15 hR_f16 k K]; rfl)
theorem f5_okA (R_f7 : f7_R) (R_f14 : f14_R) (R_f8 : f8_R) (R_f9 : f9_R) (R_f11 : f11_R) (R_f15 : f15_R) (R_f16 : f16_R) (hR_f7 : AnsOk Try.prog 7 (f7_cOf R_f7)) (hR_f14 : AnsOk Try.prog 14 (f14_cOf R_f14)) (hR_f8 : AnsOk Try.prog 8 (f8_cOf R_f8)) (hR_f9 : AnsOk Try.prog 9 (f9_cOf R_f9)) (hR_f11 : AnsOk Try.prog 11 (f11_cOf R_f11)) (hR_f15 : AnsOk Try.prog 15 (f15_cOf R_f15)) (hR_f16 : AnsOk Try.prog 16 (f16_cOf R_f16)) (k : Nat) : AnsOk Try.prog 5 (f5_cOf (f5_A R_f7 R_f14 R_f8 R_f9 R_f11 R_f15 R_f16 k)) := by
  intro X xs ns K x h
  unfold f5_cOf at h ⊢
  split at h
  · exact ans_main S (f5_Cok R_f7 R_f14 R_f8 R_f9 R_f11 R_f15 R_f16 hR_f7 hR_f14 hR_f8 hR_f9 hR_f11 hR_f15 hR_f16) Try.func5 (ent_of Try.func5 (by kernel_rfl) rfl) rfl (fun X K => f5_ev R_f7 R_f14 R_f8 R_f9 R_f11 R_f15 R_f16 hR_f7 hR_f14 hR_f8 hR_f9 hR_f11 hR_f15 hR_f16 k K _ _) h
  · cases h
/-- "outpost/outpostlaw21.WatchSame" -/
def f5 {X : Type} (k : Nat) (K : Bool → Option X) (x0 : List CV) (x1 : List CV) : Option X := f5_A (fun X => @f7 X k) (fun X => @f14 X k) (fun X => @f8 X k) (fun X => @f9 X k) (fun X => @f11 X k) (fun X => @f15 X k) (fun X => @f16 X k) k X K x0 x1
theorem f5_ok (k : Nat) : AnsOk Try.prog 5 (f5_cOf (fun X => @f5 X k)) := f5_okA (fun X => @f7 X k) (fun X => @f14 X k) (fun X => @f8 X k) (fun X => @f9 X k) (fun X => @f11 X k) (fun X => @f15 X k) (fun X => @f16 X k) (f7_ok k) (f14_ok k) (f8_ok k) (f9_ok k) (f11_ok k) (f15_ok k) (f16_ok k) k
abbrev f17_R : Type 1 := (X : Type) → (Bool → Option X) → (List CV) → Option X
def f17_out (u : Bool) : Out := ⟨(.v (CV.bool u)), []⟩
def f17_cOf (R : f17_R) : FnC := fun X xs ns K => match xs, ns with
  | [(.sl false (some 24) x0)], [] => R X (fun u => K (f17_out u)) x0
  | _, _ => none
def f17_plan : Nat → Option (List Nat × List Wk)
  | 0 => some ([0], [])
  | 1 => some ([0], [])
  | 2 => some ([0, 7, 8, 9], [])
  | 3 => some ([0, 7, 8, 9], [])
  | 4 => some ([0, 4, 7, 8, 9], [])
  | 5 => some ([], [])
  | 6 => some ([0, 4, 7, 8, 9], [])
  | 7 => some ([0, 7, 8, 9, 39, 40, 41], [])
  | 8 => some ([0, 7, 8, 9, 39, 40, 41], [])
  | 9 => some ([0, 6, 7, 8, 9, 39, 40, 41], [])
  | 10 => some ([], [])
  | 11 => some ([0, 7, 8, 9, 39, 40, 41], [])
  | 12 => some ([0, 7, 8, 9], [])
  | 13 => some ([0], [])
  | _ => none
def f17_C (R_f14 : f14_R) : Fns := (orC 14 (f14_cOf R_f14) noC)
theorem f17_Cok (R_f14 : f14_R) (hR_f14 : AnsOk Try.prog 14 (f14_cOf R_f14)) : CsOk Try.prog (f17_C R_f14) := (orC_ok hR_f14 noC_ok)
def f17_cx (R_f14 : f14_R) (hR_f14 : AnsOk Try.prog 14 (f14_cOf R_f14)) : Cx := mkCx (tabOf rows) (f17_C R_f14) md (cmpIn cmps) f17_plan (f17_Cok R_f14 hR_f14)
def f17_S1 (v : (List CV) × (List CV) × Int × Int) : St := ⟨[(.sl false (some 24) v.1), .undef, .undef, .undef, .undef, .undef, .undef, (.sl false (some 24) v.2.1), (.v (CV.int .i64 v.2.2.1)), (.v (CV.int .i64 v.2.2.2)), .undef, .undef, .undef, .undef, .undef, .undef, .undef, .undef, .undef, .undef, .undef, .undef, .undef, .undef, .undef, .undef, .undef, .undef, .undef, .undef, .undef, .undef, .undef, .undef, .undef, .undef, .undef, .undef, .undef, .undef, .undef, .undef, .undef, .undef, .undef, .undef, .undef, .undef, .undef, .undef, .undef, .undef, .undef], []⟩
def f17_S2 (v : (List CV) × (List CV) × Int × Int × (List CV) × Int × Int) : St := ⟨[(.sl false (some 24) v.1), .undef, .undef, .undef, .undef, .undef, .undef, (.sl false (some 24) v.2.1), (.v (CV.int .i64 v.2.2.1)), (.v (CV.int .i64 v.2.2.2.1)), .undef, .undef, .undef, .undef, .undef, .undef, .undef, .undef, .undef, .undef, .undef, .undef, .undef, .undef, .undef, .undef, .undef, .undef, .undef, .undef, .undef, .undef, .undef, .undef, .undef, .undef, .undef, .undef, .undef, (.sl true (some 6) v.2.2.2.2.1), (.v (CV.int .i64 v.2.2.2.2.2.1)), (.v (CV.int .i64 v.2.2.2.2.2.2)), .undef, .undef, .undef, .undef, .undef, .undef, .undef, .undef, .undef, .undef, .undef], []⟩
def f17_T2 {X : Type} (R_f14 : f14_R) (k : Nat) (K : Bool → Option X) (rec1 : (List CV) × (List CV) × Int × Int → Option X)  (rec2 : (List CV) × (List CV) × Int × Int × (List CV) × Int × Int → Option X) (v13_16 : (List CV) × (List CV) × Int × Int × (List CV) × Int × Int) : Option X :=
(bif (decide (v13_16.2.2.2.2.2.2 < v13_16.2.2.2.2.2.1)) then
grd (decide (0 ≤ v13_16.2.2.2.2.2.2)) <|
Option.bind (v13_16.2.2.2.2.1)[(Int.toNat v13_16.2.2.2.2.2.2)]? fun e24 =>
grd (CV.isA 6 e24) <|
grd (CV.isI .i64 (CV.cellD 0 e24)) <|
grd (CV.isI .i64 (CV.cellD 1 e24)) <|
grd (CV.isS (CV.cellD 2 e24)) <|
grd (CV.isL none (CV.cellD 3 e24)) <|
grd (CV.isI .i64 (CV.cellD 4 e24)) <|
grd (CV.isI .i64 (CV.cellD 5 e24)) <|
R_f14 _ (fun u25 =>
(bif (!u25) then
K (false)
else
rec2 (v13_16.1, v13_16.2.1, v13_16.2.2.1, v13_16.2.2.2.1, v13_16.2.2.2.2.1, v13_16.2.2.2.2.2.1, (IntKind.wrap .i64 (v13_16.2.2.2.2.2.2 + 1))))) ((CV.agg [(CV.int .i64 (CV.toI (CV.cellD 0 e24))), (CV.int .i64 (CV.toI (CV.cellD 1 e24))), (CV.str (CV.toS (CV.cellD 2 e24))), (CV.slc none (CV.toL (CV.cellD 3 e24))), (CV.int .i64 (CV.toI (CV.cellD 4 e24))), (CV.int .i64 (CV.toI (CV.cellD 5 e24)))]))
else
rec1 (v13_16.1, v13_16.2.1, v13_16.2.2.1, (IntKind.wrap .i64 (v13_16.2.2.2.1 + 1))))
def f17_L2 {X : Type} (R_f14 : f14_R) (k : Nat) (K : Bool → Option X) (rec1 : (List CV) × (List CV) × Int × Int → Option X) (rec2 : (List CV) × (List CV) × Int × Int × (List CV) × Int × Int → Option X) (v : (List CV) × (List CV) × Int × Int × (List CV) × Int × Int) : Option X := f17_T2 R_f14 k K rec1  rec2 v
set_option maxRecDepth 100000 in
theorem f17_L2_ev {X : Type} (R_f14 : f14_R) (hR_f14 : AnsOk Try.prog 14 (f14_cOf R_f14)) (k : Nat) (K : Out → Option X) (r1 : St → Option X) (r2 : St → Option X) (v : (List CV) × (List CV) × Int × Int × (List CV) × Int × Int) : loopB (f17_cx R_f14 hR_f14) k [.r, .l, .r, .b, .o, .r, .r, .l, .b, .r, .r, .r, .b] (Try.f17.body.getD .skip) (retK (f17_cx R_f14 hR_f14) [] Try.f17.results.toList K) [r1] r2 (f17_S2 v) = f17_T2 R_f14 k (fun u => K (f17_out u)) (fun v => r1 (f17_S1 v))  (fun v => r2 (f17_S2 v)) v := by kernel_rfl
theorem f17_L2_it {X : Type} (R_f14 : f14_R) (hR_f14 : AnsOk Try.prog 14 (f14_cOf R_f14)) (k : Nat) (K : Out → Option X) (r1 : St → Option X) : (fun v => iter (loopB (f17_cx R_f14 hR_f14) k [.r, .l, .r, .b, .o, .r, .r, .l, .b, .r, .r, .r, .b] (Try.f17.body.getD .skip) (retK (f17_cx R_f14 hR_f14) [] Try.f17.results.toList K) [r1]) k (f17_S2 v)) = iterV (f17_L2 R_f14 k (fun u => K (f17_out u)) (fun v => r1 (f17_S1 v))) k :=
  iter_map (fun r2 v => (f17_L2_ev R_f14 hR_f14 k K r1 r2 v).trans rfl) k
def f17_T1 {X : Type} (R_f14 : f14_R) (k : Nat) (K : Bool → Option X)  (loop2 : (List CV) × (List CV) × Int × Int × (List CV) × Int × Int → Option X) (rec1 : (List CV) × (List CV) × Int × Int → Option X) (v4_0 : (List CV) × (List CV) × Int × Int) : Option X :=
(bif (decide (v4_0.2.2.2 < v4_0.2.2.1)) then
grd (decide (0 ≤ v4_0.2.2.2)) <|
Option.bind (v4_0.2.1)[(Int.toNat v4_0.2.2.2)]? fun e14 =>
grd (CV.isA 24 e14) <|
grd (CV.isI .i64 (CV.cellD 0 e14)) <|
grd (CV.isI .i64 (CV.cellD 1 e14)) <|
grd (CV.isL none (CV.cellD 2 e14)) <|
grd (CV.isL none (CV.cellD 3 e14)) <|
grd (CV.isI .i64 (CV.cellD 4 e14)) <|
grd (CV.isI .i64 (CV.cellD 5 e14)) <|
grd (CV.isB (CV.cellD 6 e14)) <|
grd (CV.isB (CV.cellD 7 e14)) <|
grd (CV.isI .i64 (CV.cellD 8 e14)) <|
grd (CV.isI .i64 (CV.cellD 9 e14)) <|
grd (CV.isI .i64 (CV.cellD 10 e14)) <|
grd (CV.isB (CV.cellD 11 e14)) <|
grd (CV.isB (CV.cellD 12 e14)) <|
grd (CV.isB (CV.cellD 13 e14)) <|
grd (CV.isI .i64 (CV.cellD 14 e14)) <|
grd (CV.isI .i64 (CV.cellD 15 e14)) <|
grd (CV.isS (CV.cellD 16 e14)) <|
grd (CV.isL none (CV.cellD 17 e14)) <|
grd (CV.isI .i64 (CV.cellD 18 e14)) <|
grd (CV.isI .i64 (CV.cellD 19 e14)) <|
grd (CV.isI .i64 (CV.cellD 20 e14)) <|
grd (CV.isI .i64 (CV.cellD 21 e14)) <|
grd (CV.isL (some 6) (CV.cellD 22 e14)) <|
grd (CV.isI .i64 (CV.cellD 23 e14)) <|
(bif (decide ((Nat.cast ((List.length (CV.toL (CV.cellD 2 e14)))) : Int) > 50)) then
K (false)
else
(bif (decide ((Nat.cast ((List.length (CV.toL (CV.cellD 3 e14)))) : Int) > 10)) then
K (false)
else
R_f14 _ (fun u16 =>
(bif (!u16) then
K (false)
else
(bif (decide ((Nat.cast ((List.length (CV.toL (CV.cellD 22 e14)))) : Int) > 12)) then
K (false)
else
loop2 (v4_0.1, v4_0.2.1, v4_0.2.2.1, v4_0.2.2.2, (CV.toL (CV.cellD 22 e14)), (Nat.cast ((List.length (CV.toL (CV.cellD 22 e14)))) : Int), 0)))) ((CV.agg [(CV.int .i64 (CV.toI (CV.cellD 14 e14))), (CV.int .i64 (CV.toI (CV.cellD 15 e14))), (CV.str (CV.toS (CV.cellD 16 e14))), (CV.slc none (CV.toL (CV.cellD 17 e14))), (CV.int .i64 (CV.toI (CV.cellD 18 e14))), (CV.int .i64 (CV.toI (CV.cellD 19 e14)))]))))
else
K ((decide ((Nat.cast ((List.length v4_0.1)) : Int) ≤ 40))))
def f17_L1 {X : Type} (R_f14 : f14_R) (k : Nat) (K : Bool → Option X)  (rec1 : (List CV) × (List CV) × Int × Int → Option X) (v : (List CV) × (List CV) × Int × Int) : Option X := f17_T1 R_f14 k K  (iterV (f17_L2 R_f14 k K rec1) k) rec1 v
set_option maxRecDepth 100000 in
theorem f17_L1_ev {X : Type} (R_f14 : f14_R) (hR_f14 : AnsOk Try.prog 14 (f14_cOf R_f14)) (k : Nat) (K : Out → Option X)  (r1 : St → Option X) (v : (List CV) × (List CV) × Int × Int) : loopB (f17_cx R_f14 hR_f14) k [.r, .l, .r, .b] (Try.f17.body.getD .skip) (retK (f17_cx R_f14 hR_f14) [] Try.f17.results.toList K) [] r1 (f17_S1 v) = f17_T1 R_f14 k (fun u => K (f17_out u))  (fun v => iter (loopB (f17_cx R_f14 hR_f14) k [.r, .l, .r, .b, .o, .r, .r, .l, .b, .r, .r, .r, .b] (Try.f17.body.getD .skip) (retK (f17_cx R_f14 hR_f14) [] Try.f17.results.toList K) [r1]) k (f17_S2 v)) (fun v => r1 (f17_S1 v)) v := by kernel_rfl
theorem f17_L1_it {X : Type} (R_f14 : f14_R) (hR_f14 : AnsOk Try.prog 14 (f14_cOf R_f14)) (k : Nat) (K : Out → Option X)  : (fun v => iter (loopB (f17_cx R_f14 hR_f14) k [.r, .l, .r, .b] (Try.f17.body.getD .skip) (retK (f17_cx R_f14 hR_f14) [] Try.f17.results.toList K) []) k (f17_S1 v)) = iterV (f17_L1 R_f14 k (fun u => K (f17_out u)) ) k :=
  iter_map (fun r1 v => (f17_L1_ev R_f14 hR_f14 k K  r1 v).trans (by rw [f17_L2_it R_f14 hR_f14 k K r1]; rfl)) k
def f17_T {X : Type} (R_f14 : f14_R) (k : Nat) (K : Bool → Option X) (loop1 : (List CV) × (List CV) × Int × Int → Option X) (x0 : List CV) : Option X :=
loop1 (x0, x0, (Nat.cast ((List.length x0)) : Int), 0)
/-- "outpost/outpostlaw21.small" -/
def f17_A (R_f14 : f14_R) (k : Nat) : f17_R := fun X K x0 => f17_T R_f14 k K (iterV (f17_L1 R_f14 k K) k) x0
set_option maxRecDepth 100000 in
theorem f17_ev' {X : Type} (R_f14 : f14_R) (hR_f14 : AnsOk Try.prog 14 (f14_cOf R_f14)) (k : Nat) (K : Out → Option X) (x0 : List CV) : evFn (f17_cx R_f14 hR_f14) [] k Try.f17.ntmps Try.f17.results.toList (Try.f17.body.getD .skip) [(.sl false (some 24) x0)] [] K = f17_T R_f14 k (fun u => K (f17_out u)) (fun v => iter (loopB (f17_cx R_f14 hR_f14) k [.r, .l, .r, .b] (Try.f17.body.getD .skip) (retK (f17_cx R_f14 hR_f14) [] Try.f17.results.toList K) []) k (f17_S1 v)) x0 := by kernel_rfl
theorem f17_ev {X : Type} (R_f14 : f14_R) (hR_f14 : AnsOk Try.prog 14 (f14_cOf R_f14)) (k : Nat) (K : Out → Option X) (x0 : List CV) : evFn (f17_cx R_f14 hR_f14) [] k Try.f17.ntmps Try.f17.results.toList (Try.f17.body.getD .skip) [(.sl false (some 24) x0)] [] K = f17_A R_f14 k X (fun u => K (f17_out u)) x0 := (f17_ev' R_f14 hR_f14 k K x0).trans (by rw [f17_L1_it R_f14 hR_f14 k K]; rfl)
theorem f17_okA (R_f14 : f14_R) (hR_f14 : AnsOk Try.prog 14 (f14_cOf R_f14)) (k : Nat) : AnsOk Try.prog 17 (f17_cOf (f17_A R_f14 k)) := by
  intro X xs ns K x h
  unfold f17_cOf at h ⊢
  split at h
  · exact ans_main S (f17_Cok R_f14 hR_f14) Try.func17 (ent_of Try.func17 (by kernel_rfl) rfl) rfl (fun X K => f17_ev R_f14 hR_f14 k K _) h
  · cases h
/-- "outpost/outpostlaw21.small" -/
def f17 {X : Type} (k : Nat) (K : Bool → Option X) (x0 : List CV) : Option X := f17_A (fun X => @f14 X k) k X K x0
theorem f17_ok (k : Nat) : AnsOk Try.prog 17 (f17_cOf (fun X => @f17 X k)) := f17_okA (fun X => @f14 X k) (f14_ok k) k
abbrev f19_R : Type 1 := (X : Type) → (Int × (List CV) × (List CV) × Int × Int × Bool × Bool × Int × Int × Int × Bool × Bool × Bool × Int × Int × ByteArray × (List CV) × Int × Int × Int × Int → Option X) → CV → Option X
def f19_out (u : Int × (List CV) × (List CV) × Int × Int × Bool × Bool × Int × Int × Int × Bool × Bool × Bool × Int × Int × ByteArray × (List CV) × Int × Int × Int × Int) : Out := ⟨(.agg [(.v (CV.int .i64 u.1)), (.sl true none u.2.1), (.sl true none u.2.2.1), (.v (CV.int .i64 u.2.2.2.1)), (.v (CV.int .i64 u.2.2.2.2.1)), (.v (CV.bool u.2.2.2.2.2.1)), (.v (CV.bool u.2.2.2.2.2.2.1)), (.v (CV.int .i64 u.2.2.2.2.2.2.2.1)), (.v (CV.int .i64 u.2.2.2.2.2.2.2.2.1)), (.v (CV.int .i64 u.2.2.2.2.2.2.2.2.2.1)), (.v (CV.bool u.2.2.2.2.2.2.2.2.2.2.1)), (.v (CV.bool u.2.2.2.2.2.2.2.2.2.2.2.1)), (.v (CV.bool u.2.2.2.2.2.2.2.2.2.2.2.2.1)), (.v (CV.int .i64 u.2.2.2.2.2.2.2.2.2.2.2.2.2.1)), (.v (CV.int .i64 u.2.2.2.2.2.2.2.2.2.2.2.2.2.2.1)), (.v (CV.str u.2.2.2.2.2.2.2.2.2.2.2.2.2.2.2.1)), (.sl true none u.2.2.2.2.2.2.2.2.2.2.2.2.2.2.2.2.1), (.v (CV.int .i64 u.2.2.2.2.2.2.2.2.2.2.2.2.2.2.2.2.2.1)), (.v (CV.int .i64 u.2.2.2.2.2.2.2.2.2.2.2.2.2.2.2.2.2.2.1)), (.v (CV.int .i64 u.2.2.2.2.2.2.2.2.2.2.2.2.2.2.2.2.2.2.2.1)), (.v (CV.int .i64 u.2.2.2.2.2.2.2.2.2.2.2.2.2.2.2.2.2.2.2.2))]), []⟩
def f19_cOf (R : f19_R) : FnC := fun X xs ns K => match xs, ns with
  | [(.v x0)], [] => R X (fun u => K (f19_out u)) x0
  | _, _ => none
def f19_plan : Nat → Option (List Nat × List Wk)
  | 0 => some ([0], [])
  | 1 => some ([1, 2], [])
  | _ => none
def f19_C : Fns := noC
theorem f19_Cok : CsOk Try.prog (f19_C) := noC_ok
def f19_cx : Cx := mkCx (tabOf rows) (f19_C) md (cmpIn cmps) f19_plan (f19_Cok)
def f19_T {X : Type} (k : Nat) (K : Int × (List CV) × (List CV) × Int × Int × Bool × Bool × Int × Int × Int × Bool × Bool × Bool × Int × Int × ByteArray × (List CV) × Int × Int × Int × Int → Option X)  (x0 : CV) : Option X :=
grd (CV.isA 21 x0) <|
grd (CV.isI .i64 (CV.cellD 0 x0)) <|
grd (CV.isL none (CV.cellD 1 x0)) <|
grd (CV.isL none (CV.cellD 2 x0)) <|
grd (CV.isI .i64 (CV.cellD 3 x0)) <|
grd (CV.isI .i64 (CV.cellD 4 x0)) <|
grd (CV.isB (CV.cellD 5 x0)) <|
grd (CV.isB (CV.cellD 6 x0)) <|
grd (CV.isI .i64 (CV.cellD 7 x0)) <|
grd (CV.isI .i64 (CV.cellD 8 x0)) <|
grd (CV.isI .i64 (CV.cellD 9 x0)) <|
grd (CV.isB (CV.cellD 10 x0)) <|
grd (CV.isB (CV.cellD 11 x0)) <|
grd (CV.isB (CV.cellD 12 x0)) <|
grd (CV.isI .i64 (CV.cellD 13 x0)) <|
grd (CV.isI .i64 (CV.cellD 14 x0)) <|
grd (CV.isS (CV.cellD 15 x0)) <|
grd (CV.isL none (CV.cellD 16 x0)) <|
grd (CV.isI .i64 (CV.cellD 17 x0)) <|
grd (CV.isI .i64 (CV.cellD 18 x0)) <|
grd (CV.isI .i64 (CV.cellD 19 x0)) <|
grd (CV.isI .i64 (CV.cellD 20 x0)) <|
K ((CV.toI (CV.cellD 0 x0)), (CV.toL (CV.cellD 1 x0)), (CV.toL (CV.cellD 2 x0)), (CV.toI (CV.cellD 3 x0)), (CV.toI (CV.cellD 4 x0)), (CV.toB (CV.cellD 5 x0)), (CV.toB (CV.cellD 6 x0)), (CV.toI (CV.cellD 7 x0)), (CV.toI (CV.cellD 8 x0)), (CV.toI (CV.cellD 9 x0)), (CV.toB (CV.cellD 10 x0)), (CV.toB (CV.cellD 11 x0)), (CV.toB (CV.cellD 12 x0)), (CV.toI (CV.cellD 13 x0)), (CV.toI (CV.cellD 14 x0)), (CV.toS (CV.cellD 15 x0)), (CV.toL (CV.cellD 16 x0)), (CV.toI (CV.cellD 17 x0)), (CV.toI (CV.cellD 18 x0)), (CV.toI (CV.cellD 19 x0)), (CV.toI (CV.cellD 20 x0)))
/-- "outpost/outpostlaw21.one" -/
def f19_A (k : Nat) : f19_R := fun X K x0 => f19_T k K  x0
set_option maxRecDepth 100000 in
theorem f19_ev' {X : Type} (k : Nat) (K : Out → Option X) (x0 : CV) : evFn (f19_cx) [] k Try.f19.ntmps Try.f19.results.toList (Try.f19.body.getD .skip) [(.v x0)] [] K = f19_T k (fun u => K (f19_out u)) x0 := by kernel_rfl
theorem f19_ev {X : Type} (k : Nat) (K : Out → Option X) (x0 : CV) : evFn (f19_cx) [] k Try.f19.ntmps Try.f19.results.toList (Try.f19.body.getD .skip) [(.v x0)] [] K = f19_A k X (fun u => K (f19_out u)) x0 := (f19_ev' k K x0).trans rfl
theorem f19_okA (k : Nat) : AnsOk Try.prog 19 (f19_cOf (f19_A k)) := by
  intro X xs ns K x h
  unfold f19_cOf at h ⊢
  split at h
  · exact ans_main S (f19_Cok) Try.func19 (ent_of Try.func19 (by kernel_rfl) rfl) rfl (fun X K => f19_ev k K _) h
  · cases h
/-- "outpost/outpostlaw21.one" -/
def f19 {X : Type} (k : Nat) (K : Int × (List CV) × (List CV) × Int × Int × Bool × Bool × Int × Int × Int × Bool × Bool × Bool × Int × Int × ByteArray × (List CV) × Int × Int × Int × Int → Option X) (x0 : CV) : Option X := f19_A k X K x0
theorem f19_ok (k : Nat) : AnsOk Try.prog 19 (f19_cOf (fun X => @f19 X k)) := f19_okA k
abbrev f37_R : Type 1 := (X : Type) → (Bool → Option X) → (List CV) → Option X
def f37_out (u : Bool) : Out := ⟨(.v (CV.bool u)), []⟩
def f37_cOf (R : f37_R) : FnC := fun X xs ns K => match xs, ns with
  | [(.sl false none x0)], [] => R X (fun u => K (f37_out u)) x0
  | _, _ => none
def f37_plan : Nat → Option (List Nat × List Wk)
  | 0 => some ([0], [])
  | 1 => some ([0], [])
  | 2 => some ([], [])
  | 3 => some ([0], [])
  | 4 => some ([0, 3], [])
  | 5 => some ([0, 3], [])
  | 6 => some ([0, 3], [])
  | 7 => some ([], [])
  | 8 => some ([], [])
  | _ => none
def f37_C : Fns := noC
theorem f37_Cok : CsOk Try.prog (f37_C) := noC_ok
def f37_cx : Cx := mkCx (tabOf rows) (f37_C) md (cmpIn cmps) f37_plan (f37_Cok)
def f37_S1 (v : (List CV) × Int) : St := ⟨[(.sl false none v.1), .undef, .undef, (.v (CV.int .i64 v.2)), .undef, .undef, .undef, .undef, .undef, .undef, .undef, .undef, .undef, .undef, .undef, .undef, .undef, .undef, .undef, .undef, .undef, .undef, .undef, .undef, .undef], []⟩
def f37_T1 {X : Type} (k : Nat) (K : Bool → Option X)   (rec1 : (List CV) × Int → Option X) (v5_0 : (List CV) × Int) : Option X :=
(bif (decide (v5_0.2 < (Nat.cast ((List.length v5_0.1)) : Int))) then
grd (decide (0 ≤ v5_0.2)) <|
Option.bind (v5_0.1)[(Int.toNat v5_0.2)]? fun e8 =>
grd (CV.isI .i64 e8) <|
(bif (decide ((CV.toI e8) < 0)) then
K (false)
else
grd (decide (0 ≤ v5_0.2)) <|
Option.bind (v5_0.1)[(Int.toNat v5_0.2)]? fun e9 =>
grd (CV.isI .i64 e9) <|
(bif (decide ((CV.toI e9) > 65535)) then
K (false)
else
rec1 (v5_0.1, (IntKind.wrap .i64 (v5_0.2 + 1)))))
else
K (true))
def f37_L1 {X : Type} (k : Nat) (K : Bool → Option X)  (rec1 : (List CV) × Int → Option X) (v : (List CV) × Int) : Option X := f37_T1 k K   rec1 v
set_option maxRecDepth 100000 in
theorem f37_L1_ev {X : Type} (k : Nat) (K : Out → Option X)  (r1 : St → Option X) (v : (List CV) × Int) : loopB (f37_cx) k [.r, .r, .l, .r, .b] (Try.f37.body.getD .skip) (retK (f37_cx) [] Try.f37.results.toList K) [] r1 (f37_S1 v) = f37_T1 k (fun u => K (f37_out u))   (fun v => r1 (f37_S1 v)) v := by kernel_rfl
theorem f37_L1_it {X : Type} (k : Nat) (K : Out → Option X)  : (fun v => iter (loopB (f37_cx) k [.r, .r, .l, .r, .b] (Try.f37.body.getD .skip) (retK (f37_cx) [] Try.f37.results.toList K) []) k (f37_S1 v)) = iterV (f37_L1 k (fun u => K (f37_out u)) ) k :=
  iter_map (fun r1 v => (f37_L1_ev k K  r1 v).trans rfl) k
def f37_T {X : Type} (k : Nat) (K : Bool → Option X) (loop1 : (List CV) × Int → Option X) (x0 : List CV) : Option X :=
(bif (decide ((Nat.cast ((List.length x0)) : Int) > 3)) then
K (false)
else
loop1 (x0, 0))
/-- "outpost/outpostref16.Right" -/
def f37_A (k : Nat) : f37_R := fun X K x0 => f37_T k K (iterV (f37_L1 k K) k) x0
set_option maxRecDepth 100000 in
theorem f37_ev' {X : Type} (k : Nat) (K : Out → Option X) (x0 : List CV) : evFn (f37_cx) [] k Try.f37.ntmps Try.f37.results.toList (Try.f37.body.getD .skip) [(.sl false none x0)] [] K = f37_T k (fun u => K (f37_out u)) (fun v => iter (loopB (f37_cx) k [.r, .r, .l, .r, .b] (Try.f37.body.getD .skip) (retK (f37_cx) [] Try.f37.results.toList K) []) k (f37_S1 v)) x0 := by kernel_rfl
theorem f37_ev {X : Type} (k : Nat) (K : Out → Option X) (x0 : List CV) : evFn (f37_cx) [] k Try.f37.ntmps Try.f37.results.toList (Try.f37.body.getD .skip) [(.sl false none x0)] [] K = f37_A k X (fun u => K (f37_out u)) x0 := (f37_ev' k K x0).trans (by rw [f37_L1_it k K]; rfl)
theorem f37_okA (k : Nat) : AnsOk Try.prog 37 (f37_cOf (f37_A k)) := by
  intro X xs ns K x h
  unfold f37_cOf at h ⊢
  split at h
  · exact ans_main S (f37_Cok) Try.func37 (ent_of Try.func37 (by kernel_rfl) rfl) rfl (fun X K => f37_ev k K _) h
  · cases h
/-- "outpost/outpostref16.Right" -/
def f37 {X : Type} (k : Nat) (K : Bool → Option X) (x0 : List CV) : Option X := f37_A k X K x0
theorem f37_ok (k : Nat) : AnsOk Try.prog 37 (f37_cOf (fun X => @f37 X k)) := f37_okA k
abbrev f38_R : Type 1 := (X : Type) → (Nat × (List CV) → Option X) → (List CV) → Option X
def f38_out (u : Nat × (List CV)) : Out := ⟨(.osl [2000] none 0 u.1), [([2000], (.row false none u.2))]⟩
def f38_cOf (R : f38_R) : FnC := fun X xs ns K => match xs, ns with
  | [(.sl false none x0)], [] => R X (fun u => K (f38_out u)) x0
  | _, _ => none
def f38_plan : Nat → Option (List Nat × List Wk)
  | 0 => some ([0], [])
  | 1 => some ([0], [])
  | 2 => some ([0, 3], [])
  | 3 => some ([0, 3, 4], [])
  | 4 => some ([0, 3, 4], [])
  | 5 => some ([0, 3, 4], [])
  | 6 => some ([3], [])
  | _ => none
def f38_C : Fns := noC
theorem f38_Cok : CsOk Try.prog (f38_C) := noC_ok
def f38_cx : Cx := mkCx (tabOf rows) (f38_C) md (cmpIn cmps) f38_plan (f38_Cok)
def f38_S1 (v : (List CV) × Nat × Int × (List CV)) : St := ⟨[(.sl false none v.1), .undef, .undef, (.osl [3] none 0 v.2.1), (.v (CV.int .i64 v.2.2.1)), .undef, .undef, .undef, .undef, .undef, .undef, .undef, .undef, .undef, .undef, .undef, .undef, .undef, .undef, .undef], [([3], (.row false none v.2.2.2))]⟩
def f38_T1 {X : Type} (k : Nat) (K : Nat × (List CV) → Option X)   (rec1 : (List CV) × Nat × Int × (List CV) → Option X) (v5_0 : (List CV) × Nat × Int × (List CV)) : Option X :=
(bif (decide (v5_0.2.2.1 < (Nat.cast ((List.length v5_0.1)) : Int))) then
grd (decide (0 ≤ v5_0.2.2.1)) <|
Option.bind (v5_0.1)[(Int.toNat v5_0.2.2.1)]? fun e5 =>
grd (CV.isI .u8 e5) <|
grd (decide ((v5_0.2.1 + (List.length (List.take 1 (List.drop 0 [(CV.int .u8 (CV.toI e5))])))) * 1 ≤ 140737488355328)) <|
rec1 (v5_0.1, (v5_0.2.1 + (List.length (List.take 1 (List.drop 0 [(CV.int .u8 (CV.toI e5))])))), (IntKind.wrap .i64 (v5_0.2.2.1 + 1)), ((List.take v5_0.2.1 v5_0.2.2.2) ++ (List.take 1 (List.drop 0 [(CV.int .u8 (CV.toI e5))]))))
else
K (v5_0.2.1, (List.take (0 + v5_0.2.1) v5_0.2.2.2)))
def f38_L1 {X : Type} (k : Nat) (K : Nat × (List CV) → Option X)  (rec1 : (List CV) × Nat × Int × (List CV) → Option X) (v : (List CV) × Nat × Int × (List CV)) : Option X := f38_T1 k K   rec1 v
set_option maxRecDepth 100000 in
theorem f38_L1_ev {X : Type} (k : Nat) (K : Out → Option X)  (r1 : St → Option X) (v : (List CV) × Nat × Int × (List CV)) : loopB (f38_cx) k [.r, .r, .l, .r, .b] (Try.f38.body.getD .skip) (retK (f38_cx) [] Try.f38.results.toList K) [] r1 (f38_S1 v) = f38_T1 k (fun u => K (f38_out u))   (fun v => r1 (f38_S1 v)) v := by kernel_rfl
theorem f38_L1_it {X : Type} (k : Nat) (K : Out → Option X)  : (fun v => iter (loopB (f38_cx) k [.r, .r, .l, .r, .b] (Try.f38.body.getD .skip) (retK (f38_cx) [] Try.f38.results.toList K) []) k (f38_S1 v)) = iterV (f38_L1 k (fun u => K (f38_out u)) ) k :=
  iter_map (fun r1 v => (f38_L1_ev k K  r1 v).trans rfl) k
def f38_T {X : Type} (k : Nat) (K : Nat × (List CV) → Option X) (loop1 : (List CV) × Nat × Int × (List CV) → Option X) (x0 : List CV) : Option X :=
loop1 (x0, 0, 0, [])
/-- "outpost/outpostref01.Copy" -/
def f38_A (k : Nat) : f38_R := fun X K x0 => f38_T k K (iterV (f38_L1 k K) k) x0
set_option maxRecDepth 100000 in
theorem f38_ev' {X : Type} (k : Nat) (K : Out → Option X) (x0 : List CV) : evFn (f38_cx) [] k Try.f38.ntmps Try.f38.results.toList (Try.f38.body.getD .skip) [(.sl false none x0)] [] K = f38_T k (fun u => K (f38_out u)) (fun v => iter (loopB (f38_cx) k [.r, .r, .l, .r, .b] (Try.f38.body.getD .skip) (retK (f38_cx) [] Try.f38.results.toList K) []) k (f38_S1 v)) x0 := by kernel_rfl
theorem f38_ev {X : Type} (k : Nat) (K : Out → Option X) (x0 : List CV) : evFn (f38_cx) [] k Try.f38.ntmps Try.f38.results.toList (Try.f38.body.getD .skip) [(.sl false none x0)] [] K = f38_A k X (fun u => K (f38_out u)) x0 := (f38_ev' k K x0).trans (by rw [f38_L1_it k K]; rfl)
theorem f38_okA (k : Nat) : AnsOk Try.prog 38 (f38_cOf (f38_A k)) := by
  intro X xs ns K x h
  unfold f38_cOf at h ⊢
  split at h
  · exact ans_main S (f38_Cok) Try.func38 (ent_of Try.func38 (by kernel_rfl) rfl) rfl (fun X K => f38_ev k K _) h
  · cases h
/-- "outpost/outpostref01.Copy" -/
def f38 {X : Type} (k : Nat) (K : Nat × (List CV) → Option X) (x0 : List CV) : Option X := f38_A k X K x0
theorem f38_ok (k : Nat) : AnsOk Try.prog 38 (f38_cOf (fun X => @f38 X k)) := f38_okA k
abbrev f18_R : Type 1 := (X : Type) → (Nat × Int × (List CV) → Option X) → Nat → CV → (List CV) → Option X
def f18_out (u : Nat × Int × (List CV)) : Out := ⟨(.tup [(.osl [0, 2000] (some 21) 0 u.1), (.v (CV.int .i64 u.2.1))]), [([0, 2000], (.row false (some 21) u.2.2))]⟩
def f18_cOf (R : f18_R) : FnC := fun X xs ns K => match xs, ns with
  | [(.osl [1000] (some 21) 0 x0), (.v x1)], [([1000], (.row false (some 21) x2))] => R X (fun u => K (f18_out u)) x0 x1 x2
  | _, _ => none
def f18_plan : Nat → Option (List Nat × List Wk)
  | 0 => some ([0, 1], [])
  | 1 => some ([0, 3], [])
  | 2 => some ([0], [])
  | 3 => some ([0, 3], [])
  | 4 => some ([0, 3], [])
  | 5 => some ([0, 3], [])
  | 6 => some ([0, 3], [])
  | 7 => some ([0, 3], [])
  | 8 => some ([0, 3, 6], [])
  | 9 => some ([0, 3, 6, 7], [])
  | 10 => some ([0, 3, 6, 7, 8], [⟨3, [1], none⟩, ⟨3, [16], none⟩])
  | 11 => some ([0, 3, 6, 7, 8], [⟨3, [1], none⟩, ⟨3, [16], none⟩])
  | 12 => some ([0, 3, 6, 7, 8], [])
  | 13 => some ([0, 3, 6, 8], [])
  | 14 => some ([0, 3, 6, 8], [])
  | 15 => some ([0, 3, 6, 7, 8], [])
  | 16 => some ([0, 3, 6, 7], [])
  | 17 => some ([6], [])
  | 18 => some ([0, 3, 6], [])
  | 19 => some ([0], [])
  | 20 => some ([3, 6], [])
  | _ => none
def f18_C (R_f37 : f37_R) (R_f36 : f36_R) (R_f38 : f38_R) (R_f16 : f16_R) : Fns := (orC 16 (f16_cOf R_f16) (orC 36 (f36_cOf R_f36) (orC 37 (f37_cOf R_f37) (orC 38 (f38_cOf R_f38) noC))))
theorem f18_Cok (R_f37 : f37_R) (R_f36 : f36_R) (R_f38 : f38_R) (R_f16 : f16_R) (hR_f37 : AnsOk Try.prog 37 (f37_cOf R_f37)) (hR_f36 : AnsOk Try.prog 36 (f36_cOf R_f36)) (hR_f38 : AnsOk Try.prog 38 (f38_cOf R_f38)) (hR_f16 : AnsOk Try.prog 16 (f16_cOf R_f16)) : CsOk Try.prog (f18_C R_f37 R_f36 R_f38 R_f16) := (orC_ok hR_f16 (orC_ok hR_f36 (orC_ok hR_f37 (orC_ok hR_f38 noC_ok))))
def f18_cx (R_f37 : f37_R) (R_f36 : f36_R) (R_f38 : f38_R) (R_f16 : f16_R) (hR_f37 : AnsOk Try.prog 37 (f37_cOf R_f37)) (hR_f36 : AnsOk Try.prog 36 (f36_cOf R_f36)) (hR_f38 : AnsOk Try.prog 38 (f38_cOf R_f38)) (hR_f16 : AnsOk Try.prog 16 (f16_cOf R_f16)) : Cx := mkCx (tabOf rows) (f18_C R_f37 R_f36 R_f38 R_f16) md (cmpIn cmps) f18_plan (f18_Cok R_f37 R_f36 R_f38 R_f16 hR_f37 hR_f36 hR_f38 hR_f16)
def f18_S1 (v : Nat × Nat × Bool × Int × Int × (List CV) × (List CV) × Int × Int × Bool × Bool × Int × Int × Int × Bool × Bool × Bool × Int × Int × ByteArray × (List CV) × Int × Int × Int × (List CV) × (List CV)) : St := ⟨[(.osl [1000] (some 21) 0 v.1), .undef, .undef, (.ptr [3] 0 0 0), .undef, .undef, (.osl [6] (some 21) 0 v.2.1), (.v (CV.bool v.2.2.1)), (.v (CV.int .i64 v.2.2.2.1)), .undef, .undef, .undef, .undef, .undef, .undef, .undef, .undef, .undef, .undef, .undef, .undef, .undef, .undef, .undef, .undef, .undef, .undef, .undef, .undef, .undef, .undef, .undef, .undef, .undef, .undef, .undef, .undef, .undef, .undef, .undef, .undef, .undef, .undef, .undef, .undef, .undef, .undef, .undef, .undef, .undef, .undef, .undef, .undef, .undef, .undef, .undef, .undef, .undef, .undef, .undef, .undef, .undef, .undef, .undef, .undef, .undef, .undef, .undef, .undef, .undef, .undef, .undef, .undef, .undef, .undef, .undef, .undef, .undef, .undef, .undef, .undef], [([3], (.obj [(.v (CV.int .i64 v.2.2.2.2.1)), (.sl true none v.2.2.2.2.2.1), (.sl true none v.2.2.2.2.2.2.1), (.v (CV.int .i64 v.2.2.2.2.2.2.2.1)), (.v (CV.int .i64 v.2.2.2.2.2.2.2.2.1)), (.v (CV.bool v.2.2.2.2.2.2.2.2.2.1)), (.v (CV.bool v.2.2.2.2.2.2.2.2.2.2.1)), (.v (CV.int .i64 v.2.2.2.2.2.2.2.2.2.2.2.1)), (.v (CV.int .i64 v.2.2.2.2.2.2.2.2.2.2.2.2.1)), (.v (CV.int .i64 v.2.2.2.2.2.2.2.2.2.2.2.2.2.1)), (.v (CV.bool v.2.2.2.2.2.2.2.2.2.2.2.2.2.2.1)), (.v (CV.bool v.2.2.2.2.2.2.2.2.2.2.2.2.2.2.2.1)), (.v (CV.bool v.2.2.2.2.2.2.2.2.2.2.2.2.2.2.2.2.1)), (.v (CV.int .i64 v.2.2.2.2.2.2.2.2.2.2.2.2.2.2.2.2.2.1)), (.v (CV.int .i64 v.2.2.2.2.2.2.2.2.2.2.2.2.2.2.2.2.2.2.1)), (.v (CV.str v.2.2.2.2.2.2.2.2.2.2.2.2.2.2.2.2.2.2.2.1)), (.sl true none v.2.2.2.2.2.2.2.2.2.2.2.2.2.2.2.2.2.2.2.2.1), (.v (CV.int .i64 v.2.2.2.2.2.2.2.2.2.2.2.2.2.2.2.2.2.2.2.2.2.1)), (.v (CV.int .i64 v.2.2.2.2.2.2.2.2.2.2.2.2.2.2.2.2.2.2.2.2.2.2.1)), (.v (CV.int .i64 v.2.2.2.2.2.2.2.2.2.2.2.2.2.2.2.2.2.2.2.2.2.2.2.1)), (.v (CV.int .i64 0))])), ([6], (.row false (some 21) v.2.2.2.2.2.2.2.2.2.2.2.2.2.2.2.2.2.2.2.2.2.2.2.2.1)), ([1000], (.row false (some 21) v.2.2.2.2.2.2.2.2.2.2.2.2.2.2.2.2.2.2.2.2.2.2.2.2.2))]⟩
def f18_J1 {X : Type} (R_f37 : f37_R) (R_f36 : f36_R) (R_f38 : f38_R) (R_f16 : f16_R) (k : Nat) (K : Nat × Int × (List CV) → Option X) (rec1 : Nat × Nat × Bool × Int × Int × (List CV) × (List CV) × Int × Int × Bool × Bool × Int × Int × Int × Bool × Bool × Bool × Int × Int × ByteArray × (List CV) × Int × Int × Int × (List CV) × (List CV) → Option X) (v11_5 : Nat × Nat × Bool × Int × Int × (List CV) × (List CV) × Int × Int × Bool × Bool × Int × Int × Int × Bool × Bool × Bool × Int × Int × ByteArray × (List CV) × Int × Int × Int × (List CV) × (List CV)) (v28 : Nat × Bool × (List CV)) : Option X :=
rec1 (v11_5.1, v28.1, v28.2.1, (IntKind.wrap .i64 (v11_5.2.2.2.1 + 1)), v11_5.2.2.2.2.1, v11_5.2.2.2.2.2.1, v11_5.2.2.2.2.2.2.1, v11_5.2.2.2.2.2.2.2.1, v11_5.2.2.2.2.2.2.2.2.1, v11_5.2.2.2.2.2.2.2.2.2.1, v11_5.2.2.2.2.2.2.2.2.2.2.1, v11_5.2.2.2.2.2.2.2.2.2.2.2.1, v11_5.2.2.2.2.2.2.2.2.2.2.2.2.1, v11_5.2.2.2.2.2.2.2.2.2.2.2.2.2.1, v11_5.2.2.2.2.2.2.2.2.2.2.2.2.2.2.1, v11_5.2.2.2.2.2.2.2.2.2.2.2.2.2.2.2.1, v11_5.2.2.2.2.2.2.2.2.2.2.2.2.2.2.2.2.1, v11_5.2.2.2.2.2.2.2.2.2.2.2.2.2.2.2.2.2.1, v11_5.2.2.2.2.2.2.2.2.2.2.2.2.2.2.2.2.2.2.1, v11_5.2.2.2.2.2.2.2.2.2.2.2.2.2.2.2.2.2.2.2.1, v11_5.2.2.2.2.2.2.2.2.2.2.2.2.2.2.2.2.2.2.2.2.1, v11_5.2.2.2.2.2.2.2.2.2.2.2.2.2.2.2.2.2.2.2.2.2.1, v11_5.2.2.2.2.2.2.2.2.2.2.2.2.2.2.2.2.2.2.2.2.2.2.1, v11_5.2.2.2.2.2.2.2.2.2.2.2.2.2.2.2.2.2.2.2.2.2.2.2.1, v28.2.2, v11_5.2.2.2.2.2.2.2.2.2.2.2.2.2.2.2.2.2.2.2.2.2.2.2.2.2)
def f18_T1 {X : Type} (R_f37 : f37_R) (R_f36 : f36_R) (R_f38 : f38_R) (R_f16 : f16_R) (k : Nat) (K : Nat × Int × (List CV) → Option X)   (rec1 : Nat × Nat × Bool × Int × Int × (List CV) × (List CV) × Int × Int × Bool × Bool × Int × Int × Int × Bool × Bool × Bool × Int × Int × ByteArray × (List CV) × Int × Int × Int × (List CV) × (List CV) → Option X) (v11_5 : Nat × Nat × Bool × Int × Int × (List CV) × (List CV) × Int × Int × Bool × Bool × Int × Int × Int × Bool × Bool × Bool × Int × Int × ByteArray × (List CV) × Int × Int × Int × (List CV) × (List CV)) : Option X :=
(bif (decide (v11_5.2.2.2.1 < (Nat.cast (v11_5.1) : Int))) then
grd (decide (0 ≤ v11_5.2.2.2.1)) <|
grd (decide (v11_5.2.2.2.1 < (Nat.cast (v11_5.1) : Int))) <|
Option.bind (v11_5.2.2.2.2.2.2.2.2.2.2.2.2.2.2.2.2.2.2.2.2.2.2.2.2.2)[(0 + (Int.toNat v11_5.2.2.2.1))]? fun e29 =>
Option.bind (CV.cell e29 0) fun c30 =>
grd (CV.isI .i64 c30) <|
(bif ((CV.toI c30) == v11_5.2.2.2.2.1) then
grd (decide (0 ≤ v11_5.2.2.2.1)) <|
grd (decide (v11_5.2.2.2.1 < (Nat.cast (v11_5.1) : Int))) <|
Option.bind (v11_5.2.2.2.2.2.2.2.2.2.2.2.2.2.2.2.2.2.2.2.2.2.2.2.2.2)[(0 + (Int.toNat v11_5.2.2.2.1))]? fun e31 =>
Option.bind (CV.cell e31 1) fun c32 =>
grd (CV.isL none c32) <|
R_f16 _ (fun u33 =>
(bif u33 then
grd (decide ((v11_5.2.1 + (List.length (List.take 1 (List.drop 0 [(CV.agg [(CV.int .i64 v11_5.2.2.2.2.1), (CV.slc none v11_5.2.2.2.2.2.1), (CV.slc none v11_5.2.2.2.2.2.2.1), (CV.int .i64 v11_5.2.2.2.2.2.2.2.1), (CV.int .i64 v11_5.2.2.2.2.2.2.2.2.1), (CV.bool v11_5.2.2.2.2.2.2.2.2.2.1), (CV.bool v11_5.2.2.2.2.2.2.2.2.2.2.1), (CV.int .i64 v11_5.2.2.2.2.2.2.2.2.2.2.2.1), (CV.int .i64 v11_5.2.2.2.2.2.2.2.2.2.2.2.2.1), (CV.int .i64 v11_5.2.2.2.2.2.2.2.2.2.2.2.2.2.1), (CV.bool v11_5.2.2.2.2.2.2.2.2.2.2.2.2.2.2.1), (CV.bool v11_5.2.2.2.2.2.2.2.2.2.2.2.2.2.2.2.1), (CV.bool v11_5.2.2.2.2.2.2.2.2.2.2.2.2.2.2.2.2.1), (CV.int .i64 v11_5.2.2.2.2.2.2.2.2.2.2.2.2.2.2.2.2.2.1), (CV.int .i64 v11_5.2.2.2.2.2.2.2.2.2.2.2.2.2.2.2.2.2.2.1), (CV.str v11_5.2.2.2.2.2.2.2.2.2.2.2.2.2.2.2.2.2.2.2.1), (CV.slc none v11_5.2.2.2.2.2.2.2.2.2.2.2.2.2.2.2.2.2.2.2.2.1), (CV.int .i64 v11_5.2.2.2.2.2.2.2.2.2.2.2.2.2.2.2.2.2.2.2.2.2.1), (CV.int .i64 v11_5.2.2.2.2.2.2.2.2.2.2.2.2.2.2.2.2.2.2.2.2.2.2.1), (CV.int .i64 v11_5.2.2.2.2.2.2.2.2.2.2.2.2.2.2.2.2.2.2.2.2.2.2.2.1), (CV.int .i64 0)])])))) * 200 ≤ 140737488355328)) <|
f18_J1 R_f37 R_f36 R_f38 R_f16 k K rec1 v11_5 ((v11_5.2.1 + (List.length (List.take 1 (List.drop 0 [(CV.agg [(CV.int .i64 v11_5.2.2.2.2.1), (CV.slc none v11_5.2.2.2.2.2.1), (CV.slc none v11_5.2.2.2.2.2.2.1), (CV.int .i64 v11_5.2.2.2.2.2.2.2.1), (CV.int .i64 v11_5.2.2.2.2.2.2.2.2.1), (CV.bool v11_5.2.2.2.2.2.2.2.2.2.1), (CV.bool v11_5.2.2.2.2.2.2.2.2.2.2.1), (CV.int .i64 v11_5.2.2.2.2.2.2.2.2.2.2.2.1), (CV.int .i64 v11_5.2.2.2.2.2.2.2.2.2.2.2.2.1), (CV.int .i64 v11_5.2.2.2.2.2.2.2.2.2.2.2.2.2.1), (CV.bool v11_5.2.2.2.2.2.2.2.2.2.2.2.2.2.2.1), (CV.bool v11_5.2.2.2.2.2.2.2.2.2.2.2.2.2.2.2.1), (CV.bool v11_5.2.2.2.2.2.2.2.2.2.2.2.2.2.2.2.2.1), (CV.int .i64 v11_5.2.2.2.2.2.2.2.2.2.2.2.2.2.2.2.2.2.1), (CV.int .i64 v11_5.2.2.2.2.2.2.2.2.2.2.2.2.2.2.2.2.2.2.1), (CV.str v11_5.2.2.2.2.2.2.2.2.2.2.2.2.2.2.2.2.2.2.2.1), (CV.slc none v11_5.2.2.2.2.2.2.2.2.2.2.2.2.2.2.2.2.2.2.2.2.1), (CV.int .i64 v11_5.2.2.2.2.2.2.2.2.2.2.2.2.2.2.2.2.2.2.2.2.2.1), (CV.int .i64 v11_5.2.2.2.2.2.2.2.2.2.2.2.2.2.2.2.2.2.2.2.2.2.2.1), (CV.int .i64 v11_5.2.2.2.2.2.2.2.2.2.2.2.2.2.2.2.2.2.2.2.2.2.2.2.1), (CV.int .i64 0)])])))), true, ((List.take v11_5.2.1 v11_5.2.2.2.2.2.2.2.2.2.2.2.2.2.2.2.2.2.2.2.2.2.2.2.2.1) ++ (List.take 1 (List.drop 0 [(CV.agg [(CV.int .i64 v11_5.2.2.2.2.1), (CV.slc none v11_5.2.2.2.2.2.1), (CV.slc none v11_5.2.2.2.2.2.2.1), (CV.int .i64 v11_5.2.2.2.2.2.2.2.1), (CV.int .i64 v11_5.2.2.2.2.2.2.2.2.1), (CV.bool v11_5.2.2.2.2.2.2.2.2.2.1), (CV.bool v11_5.2.2.2.2.2.2.2.2.2.2.1), (CV.int .i64 v11_5.2.2.2.2.2.2.2.2.2.2.2.1), (CV.int .i64 v11_5.2.2.2.2.2.2.2.2.2.2.2.2.1), (CV.int .i64 v11_5.2.2.2.2.2.2.2.2.2.2.2.2.2.1), (CV.bool v11_5.2.2.2.2.2.2.2.2.2.2.2.2.2.2.1), (CV.bool v11_5.2.2.2.2.2.2.2.2.2.2.2.2.2.2.2.1), (CV.bool v11_5.2.2.2.2.2.2.2.2.2.2.2.2.2.2.2.2.1), (CV.int .i64 v11_5.2.2.2.2.2.2.2.2.2.2.2.2.2.2.2.2.2.1), (CV.int .i64 v11_5.2.2.2.2.2.2.2.2.2.2.2.2.2.2.2.2.2.2.1), (CV.str v11_5.2.2.2.2.2.2.2.2.2.2.2.2.2.2.2.2.2.2.2.1), (CV.slc none v11_5.2.2.2.2.2.2.2.2.2.2.2.2.2.2.2.2.2.2.2.2.1), (CV.int .i64 v11_5.2.2.2.2.2.2.2.2.2.2.2.2.2.2.2.2.2.2.2.2.2.1), (CV.int .i64 v11_5.2.2.2.2.2.2.2.2.2.2.2.2.2.2.2.2.2.2.2.2.2.2.1), (CV.int .i64 v11_5.2.2.2.2.2.2.2.2.2.2.2.2.2.2.2.2.2.2.2.2.2.2.2.1), (CV.int .i64 0)])]))))
else
grd (decide (0 ≤ v11_5.2.2.2.1)) <|
grd (decide (v11_5.2.2.2.1 < (Nat.cast (v11_5.1) : Int))) <|
Option.bind (v11_5.2.2.2.2.2.2.2.2.2.2.2.2.2.2.2.2.2.2.2.2.2.2.2.2.2)[(0 + (Int.toNat v11_5.2.2.2.1))]? fun e34 =>
grd (fitSh (some 21) e34) <|
grd (decide ((v11_5.2.1 + (List.length (List.take 1 (List.drop 0 [e34])))) * 200 ≤ 140737488355328)) <|
f18_J1 R_f37 R_f36 R_f38 R_f16 k K rec1 v11_5 ((v11_5.2.1 + (List.length (List.take 1 (List.drop 0 [e34])))), v11_5.2.2.1, ((List.take v11_5.2.1 v11_5.2.2.2.2.2.2.2.2.2.2.2.2.2.2.2.2.2.2.2.2.2.2.2.2.1) ++ (List.take 1 (List.drop 0 [e34])))))) ((CV.toL c32)) (v11_5.2.2.2.2.2.1)
else
grd (decide (0 ≤ v11_5.2.2.2.1)) <|
grd (decide (v11_5.2.2.2.1 < (Nat.cast (v11_5.1) : Int))) <|
Option.bind (v11_5.2.2.2.2.2.2.2.2.2.2.2.2.2.2.2.2.2.2.2.2.2.2.2.2.2)[(0 + (Int.toNat v11_5.2.2.2.1))]? fun e35 =>
grd (fitSh (some 21) e35) <|
grd (decide ((v11_5.2.1 + (List.length (List.take 1 (List.drop 0 [e35])))) * 200 ≤ 140737488355328)) <|
f18_J1 R_f37 R_f36 R_f38 R_f16 k K rec1 v11_5 ((v11_5.2.1 + (List.length (List.take 1 (List.drop 0 [e35])))), v11_5.2.2.1, ((List.take v11_5.2.1 v11_5.2.2.2.2.2.2.2.2.2.2.2.2.2.2.2.2.2.2.2.2.2.2.2.2.1) ++ (List.take 1 (List.drop 0 [e35])))))
else
(bif v11_5.2.2.1 then
K (v11_5.2.1, 0, (List.take (0 + v11_5.2.1) v11_5.2.2.2.2.2.2.2.2.2.2.2.2.2.2.2.2.2.2.2.2.2.2.2.2.1))
else
(bif (decide ((Nat.cast (v11_5.1) : Int) ≥ 6)) then
K (v11_5.1, 6, (List.take (0 + v11_5.1) v11_5.2.2.2.2.2.2.2.2.2.2.2.2.2.2.2.2.2.2.2.2.2.2.2.2.2))
else
grd (decide ((v11_5.2.1 + (List.length (List.take 1 (List.drop 0 [(CV.agg [(CV.int .i64 v11_5.2.2.2.2.1), (CV.slc none v11_5.2.2.2.2.2.1), (CV.slc none v11_5.2.2.2.2.2.2.1), (CV.int .i64 v11_5.2.2.2.2.2.2.2.1), (CV.int .i64 v11_5.2.2.2.2.2.2.2.2.1), (CV.bool v11_5.2.2.2.2.2.2.2.2.2.1), (CV.bool v11_5.2.2.2.2.2.2.2.2.2.2.1), (CV.int .i64 v11_5.2.2.2.2.2.2.2.2.2.2.2.1), (CV.int .i64 v11_5.2.2.2.2.2.2.2.2.2.2.2.2.1), (CV.int .i64 v11_5.2.2.2.2.2.2.2.2.2.2.2.2.2.1), (CV.bool v11_5.2.2.2.2.2.2.2.2.2.2.2.2.2.2.1), (CV.bool v11_5.2.2.2.2.2.2.2.2.2.2.2.2.2.2.2.1), (CV.bool v11_5.2.2.2.2.2.2.2.2.2.2.2.2.2.2.2.2.1), (CV.int .i64 v11_5.2.2.2.2.2.2.2.2.2.2.2.2.2.2.2.2.2.1), (CV.int .i64 v11_5.2.2.2.2.2.2.2.2.2.2.2.2.2.2.2.2.2.2.1), (CV.str v11_5.2.2.2.2.2.2.2.2.2.2.2.2.2.2.2.2.2.2.2.1), (CV.slc none v11_5.2.2.2.2.2.2.2.2.2.2.2.2.2.2.2.2.2.2.2.2.1), (CV.int .i64 v11_5.2.2.2.2.2.2.2.2.2.2.2.2.2.2.2.2.2.2.2.2.2.1), (CV.int .i64 v11_5.2.2.2.2.2.2.2.2.2.2.2.2.2.2.2.2.2.2.2.2.2.2.1), (CV.int .i64 v11_5.2.2.2.2.2.2.2.2.2.2.2.2.2.2.2.2.2.2.2.2.2.2.2.1), (CV.int .i64 0)])])))) * 200 ≤ 140737488355328)) <|
K ((v11_5.2.1 + (List.length (List.take 1 (List.drop 0 [(CV.agg [(CV.int .i64 v11_5.2.2.2.2.1), (CV.slc none v11_5.2.2.2.2.2.1), (CV.slc none v11_5.2.2.2.2.2.2.1), (CV.int .i64 v11_5.2.2.2.2.2.2.2.1), (CV.int .i64 v11_5.2.2.2.2.2.2.2.2.1), (CV.bool v11_5.2.2.2.2.2.2.2.2.2.1), (CV.bool v11_5.2.2.2.2.2.2.2.2.2.2.1), (CV.int .i64 v11_5.2.2.2.2.2.2.2.2.2.2.2.1), (CV.int .i64 v11_5.2.2.2.2.2.2.2.2.2.2.2.2.1), (CV.int .i64 v11_5.2.2.2.2.2.2.2.2.2.2.2.2.2.1), (CV.bool v11_5.2.2.2.2.2.2.2.2.2.2.2.2.2.2.1), (CV.bool v11_5.2.2.2.2.2.2.2.2.2.2.2.2.2.2.2.1), (CV.bool v11_5.2.2.2.2.2.2.2.2.2.2.2.2.2.2.2.2.1), (CV.int .i64 v11_5.2.2.2.2.2.2.2.2.2.2.2.2.2.2.2.2.2.1), (CV.int .i64 v11_5.2.2.2.2.2.2.2.2.2.2.2.2.2.2.2.2.2.2.1), (CV.str v11_5.2.2.2.2.2.2.2.2.2.2.2.2.2.2.2.2.2.2.2.1), (CV.slc none v11_5.2.2.2.2.2.2.2.2.2.2.2.2.2.2.2.2.2.2.2.2.1), (CV.int .i64 v11_5.2.2.2.2.2.2.2.2.2.2.2.2.2.2.2.2.2.2.2.2.2.1), (CV.int .i64 v11_5.2.2.2.2.2.2.2.2.2.2.2.2.2.2.2.2.2.2.2.2.2.2.1), (CV.int .i64 v11_5.2.2.2.2.2.2.2.2.2.2.2.2.2.2.2.2.2.2.2.2.2.2.2.1), (CV.int .i64 0)])])))), 0, (List.take (0 + (v11_5.2.1 + (List.length (List.take 1 (List.drop 0 [(CV.agg [(CV.int .i64 v11_5.2.2.2.2.1), (CV.slc none v11_5.2.2.2.2.2.1), (CV.slc none v11_5.2.2.2.2.2.2.1), (CV.int .i64 v11_5.2.2.2.2.2.2.2.1), (CV.int .i64 v11_5.2.2.2.2.2.2.2.2.1), (CV.bool v11_5.2.2.2.2.2.2.2.2.2.1), (CV.bool v11_5.2.2.2.2.2.2.2.2.2.2.1), (CV.int .i64 v11_5.2.2.2.2.2.2.2.2.2.2.2.1), (CV.int .i64 v11_5.2.2.2.2.2.2.2.2.2.2.2.2.1), (CV.int .i64 v11_5.2.2.2.2.2.2.2.2.2.2.2.2.2.1), (CV.bool v11_5.2.2.2.2.2.2.2.2.2.2.2.2.2.2.1), (CV.bool v11_5.2.2.2.2.2.2.2.2.2.2.2.2.2.2.2.1), (CV.bool v11_5.2.2.2.2.2.2.2.2.2.2.2.2.2.2.2.2.1), (CV.int .i64 v11_5.2.2.2.2.2.2.2.2.2.2.2.2.2.2.2.2.2.1), (CV.int .i64 v11_5.2.2.2.2.2.2.2.2.2.2.2.2.2.2.2.2.2.2.1), (CV.str v11_5.2.2.2.2.2.2.2.2.2.2.2.2.2.2.2.2.2.2.2.1), (CV.slc none v11_5.2.2.2.2.2.2.2.2.2.2.2.2.2.2.2.2.2.2.2.2.1), (CV.int .i64 v11_5.2.2.2.2.2.2.2.2.2.2.2.2.2.2.2.2.2.2.2.2.2.1), (CV.int .i64 v11_5.2.2.2.2.2.2.2.2.2.2.2.2.2.2.2.2.2.2.2.2.2.2.1), (CV.int .i64 v11_5.2.2.2.2.2.2.2.2.2.2.2.2.2.2.2.2.2.2.2.2.2.2.2.1), (CV.int .i64 0)])]))))) ((List.take v11_5.2.1 v11_5.2.2.2.2.2.2.2.2.2.2.2.2.2.2.2.2.2.2.2.2.2.2.2.2.1) ++ (List.take 1 (List.drop 0 [(CV.agg [(CV.int .i64 v11_5.2.2.2.2.1), (CV.slc none v11_5.2.2.2.2.2.1), (CV.slc none v11_5.2.2.2.2.2.2.1), (CV.int .i64 v11_5.2.2.2.2.2.2.2.1), (CV.int .i64 v11_5.2.2.2.2.2.2.2.2.1), (CV.bool v11_5.2.2.2.2.2.2.2.2.2.1), (CV.bool v11_5.2.2.2.2.2.2.2.2.2.2.1), (CV.int .i64 v11_5.2.2.2.2.2.2.2.2.2.2.2.1), (CV.int .i64 v11_5.2.2.2.2.2.2.2.2.2.2.2.2.1), (CV.int .i64 v11_5.2.2.2.2.2.2.2.2.2.2.2.2.2.1), (CV.bool v11_5.2.2.2.2.2.2.2.2.2.2.2.2.2.2.1), (CV.bool v11_5.2.2.2.2.2.2.2.2.2.2.2.2.2.2.2.1), (CV.bool v11_5.2.2.2.2.2.2.2.2.2.2.2.2.2.2.2.2.1), (CV.int .i64 v11_5.2.2.2.2.2.2.2.2.2.2.2.2.2.2.2.2.2.1), (CV.int .i64 v11_5.2.2.2.2.2.2.2.2.2.2.2.2.2.2.2.2.2.2.1), (CV.str v11_5.2.2.2.2.2.2.2.2.2.2.2.2.2.2.2.2.2.2.2.1), (CV.slc none v11_5.2.2.2.2.2.2.2.2.2.2.2.2.2.2.2.2.2.2.2.2.1), (CV.int .i64 v11_5.2.2.2.2.2.2.2.2.2.2.2.2.2.2.2.2.2.2.2.2.2.1), (CV.int .i64 v11_5.2.2.2.2.2.2.2.2.2.2.2.2.2.2.2.2.2.2.2.2.2.2.1), (CV.int .i64 v11_5.2.2.2.2.2.2.2.2.2.2.2.2.2.2.2.2.2.2.2.2.2.2.2.1), (CV.int .i64 0)])]))))))))
def f18_L1 {X : Type} (R_f37 : f37_R) (R_f36 : f36_R) (R_f38 : f38_R) (R_f16 : f16_R) (k : Nat) (K : Nat × Int × (List CV) → Option X)  (rec1 : Nat × Nat × Bool × Int × Int × (List CV) × (List CV) × Int × Int × Bool × Bool × Int × Int × Int × Bool × Bool × Bool × Int × Int × ByteArray × (List CV) × Int × Int × Int × (List CV) × (List CV) → Option X) (v : Nat × Nat × Bool × Int × Int × (List CV) × (List CV) × Int × Int × Bool × Bool × Int × Int × Int × Bool × Bool × Bool × Int × Int × ByteArray × (List CV) × Int × Int × Int × (List CV) × (List CV)) : Option X := f18_T1 R_f37 R_f36 R_f38 R_f16 k K   rec1 v
set_option maxRecDepth 100000 in
theorem f18_L1_ev {X : Type} (R_f37 : f37_R) (R_f36 : f36_R) (R_f38 : f38_R) (R_f16 : f16_R) (hR_f37 : AnsOk Try.prog 37 (f37_cOf R_f37)) (hR_f36 : AnsOk Try.prog 36 (f36_cOf R_f36)) (hR_f38 : AnsOk Try.prog 38 (f38_cOf R_f38)) (hR_f16 : AnsOk Try.prog 16 (f16_cOf R_f16)) (k : Nat) (K : Out → Option X)  (r1 : St → Option X) (v : Nat × Nat × Bool × Int × Int × (List CV) × (List CV) × Int × Int × Bool × Bool × Int × Int × Int × Bool × Bool × Bool × Int × Int × ByteArray × (List CV) × Int × Int × Int × (List CV) × (List CV)) : loopB (f18_cx R_f37 R_f36 R_f38 R_f16 hR_f37 hR_f36 hR_f38 hR_f16) k [.r, .r, .r, .r, .r, .r, .r, .r, .l, .r, .b] (Try.f18.body.getD .skip) (retK (f18_cx R_f37 R_f36 R_f38 R_f16 hR_f37 hR_f36 hR_f38 hR_f16) [⟨1000000, [], some [1000]⟩] Try.f18.results.toList K) [] r1 (f18_S1 v) = f18_T1 R_f37 R_f36 R_f38 R_f16 k (fun u => K (f18_out u))   (fun v => r1 (f18_S1 v)) v := by kernel_rfl
theorem f18_L1_it {X : Type} (R_f37 : f37_R) (R_f36 : f36_R) (R_f38 : f38_R) (R_f16 : f16_R) (hR_f37 : AnsOk Try.prog 37 (f37_cOf R_f37)) (hR_f36 : AnsOk Try.prog 36 (f36_cOf R_f36)) (hR_f38 : AnsOk Try.prog 38 (f38_cOf R_f38)) (hR_f16 : AnsOk Try.prog 16 (f16_cOf R_f16)) (k : Nat) (K : Out → Option X)  : (fun v => iter (loopB (f18_cx R_f37 R_f36 R_f38 R_f16 hR_f37 hR_f36 hR_f38 hR_f16) k [.r, .r, .r, .r, .r, .r, .r, .r, .l, .r, .b] (Try.f18.body.getD .skip) (retK (f18_cx R_f37 R_f36 R_f38 R_f16 hR_f37 hR_f36 hR_f38 hR_f16) [⟨1000000, [], some [1000]⟩] Try.f18.results.toList K) []) k (f18_S1 v)) = iterV (f18_L1 R_f37 R_f36 R_f38 R_f16 k (fun u => K (f18_out u)) ) k :=
  iter_map (fun r1 v => (f18_L1_ev R_f37 R_f36 R_f38 R_f16 hR_f37 hR_f36 hR_f38 hR_f16 k K  r1 v).trans rfl) k
def f18_T {X : Type} (R_f37 : f37_R) (R_f36 : f36_R) (R_f38 : f38_R) (R_f16 : f16_R) (k : Nat) (K : Nat × Int × (List CV) → Option X) (loop1 : Nat × Nat × Bool × Int × Int × (List CV) × (List CV) × Int × Int × Bool × Bool × Int × Int × Int × Bool × Bool × Bool × Int × Int × ByteArray × (List CV) × Int × Int × Int × (List CV) × (List CV) → Option X) (x0 : Nat) (x1 : CV) (x2 : List CV) : Option X :=
grd (CV.isA 21 x1) <|
grd (CV.isI .i64 (CV.cellD 0 x1)) <|
grd (CV.isL none (CV.cellD 1 x1)) <|
grd (CV.isL none (CV.cellD 2 x1)) <|
grd (CV.isI .i64 (CV.cellD 3 x1)) <|
grd (CV.isI .i64 (CV.cellD 4 x1)) <|
grd (CV.isB (CV.cellD 5 x1)) <|
grd (CV.isB (CV.cellD 6 x1)) <|
grd (CV.isI .i64 (CV.cellD 7 x1)) <|
grd (CV.isI .i64 (CV.cellD 8 x1)) <|
grd (CV.isI .i64 (CV.cellD 9 x1)) <|
grd (CV.isB (CV.cellD 10 x1)) <|
grd (CV.isB (CV.cellD 11 x1)) <|
grd (CV.isB (CV.cellD 12 x1)) <|
grd (CV.isI .i64 (CV.cellD 13 x1)) <|
grd (CV.isI .i64 (CV.cellD 14 x1)) <|
grd (CV.isS (CV.cellD 15 x1)) <|
grd (CV.isL none (CV.cellD 16 x1)) <|
grd (CV.isI .i64 (CV.cellD 17 x1)) <|
grd (CV.isI .i64 (CV.cellD 18 x1)) <|
grd (CV.isI .i64 (CV.cellD 19 x1)) <|
grd (CV.isI .i64 (CV.cellD 20 x1)) <|
(bif (decide ((Nat.cast ((List.length (CV.toL (CV.cellD 1 x1)))) : Int) > 8)) then
K (x0, 1, (List.take (0 + x0) x2))
else
R_f37 _ (fun u2 =>
(bif (!u2) then
K (x0, 1, (List.take (0 + x0) x2))
else
R_f36 _ (fun u3 =>
R_f38 _ (fun u4 =>
R_f38 _ (fun u5 =>
loop1 (x0, 0, false, 0, (CV.toI (CV.cellD 0 x1)), (List.take u4.1 (List.drop 0 u4.2)), (CV.toL (CV.cellD 2 x1)), (CV.toI (CV.cellD 3 x1)), (CV.toI (CV.cellD 4 x1)), (CV.toB (CV.cellD 5 x1)), (CV.toB (CV.cellD 6 x1)), (CV.toI (CV.cellD 7 x1)), (CV.toI (CV.cellD 8 x1)), (CV.toI (CV.cellD 9 x1)), (CV.toB (CV.cellD 10 x1)), (CV.toB (CV.cellD 11 x1)), (CV.toB (CV.cellD 12 x1)), (CV.toI (CV.cellD 13 x1)), (CV.toI (CV.cellD 14 x1)), (CV.toS (CV.cellD 15 x1)), (List.take u5.1 (List.drop 0 u5.2)), (CV.toI (CV.cellD 17 x1)), (CV.toI (CV.cellD 18 x1)), u3, [], x2)) ((CV.toL (CV.cellD 16 x1)))) ((CV.toL (CV.cellD 1 x1)))) ((CV.toI (CV.cellD 19 x1))))) ((CV.toL (CV.cellD 2 x1))))
/-- "outpost/outpostref21.Add" -/
def f18_A (R_f37 : f37_R) (R_f36 : f36_R) (R_f38 : f38_R) (R_f16 : f16_R) (k : Nat) : f18_R := fun X K x0 x1 x2 => f18_T R_f37 R_f36 R_f38 R_f16 k K (iterV (f18_L1 R_f37 R_f36 R_f38 R_f16 k K) k) x0 x1 x2
set_option maxRecDepth 100000 in
theorem f18_ev' {X : Type} (R_f37 : f37_R) (R_f36 : f36_R) (R_f38 : f38_R) (R_f16 : f16_R) (hR_f37 : AnsOk Try.prog 37 (f37_cOf R_f37)) (hR_f36 : AnsOk Try.prog 36 (f36_cOf R_f36)) (hR_f38 : AnsOk Try.prog 38 (f38_cOf R_f38)) (hR_f16 : AnsOk Try.prog 16 (f16_cOf R_f16)) (k : Nat) (K : Out → Option X) (x0 : Nat) (x1 : CV) (x2 : List CV) : evFn (f18_cx R_f37 R_f36 R_f38 R_f16 hR_f37 hR_f36 hR_f38 hR_f16) [⟨1000000, [], some [1000]⟩] k Try.f18.ntmps Try.f18.results.toList (Try.f18.body.getD .skip) [(.osl [1000] (some 21) 0 x0), (.v x1)] [([1000], (.row false (some 21) x2))] K = f18_T R_f37 R_f36 R_f38 R_f16 k (fun u => K (f18_out u)) (fun v => iter (loopB (f18_cx R_f37 R_f36 R_f38 R_f16 hR_f37 hR_f36 hR_f38 hR_f16) k [.r, .r, .r, .r, .r, .r, .r, .r, .l, .r, .b] (Try.f18.body.getD .skip) (retK (f18_cx R_f37 R_f36 R_f38 R_f16 hR_f37 hR_f36 hR_f38 hR_f16) [⟨1000000, [], some [1000]⟩] Try.f18.results.toList K) []) k (f18_S1 v)) x0 x1 x2 := by kernel_rfl
theorem f18_ev {X : Type} (R_f37 : f37_R) (R_f36 : f36_R) (R_f38 : f38_R) (R_f16 : f16_R) (hR_f37 : AnsOk Try.prog 37 (f37_cOf R_f37)) (hR_f36 : AnsOk Try.prog 36 (f36_cOf R_f36)) (hR_f38 : AnsOk Try.prog 38 (f38_cOf R_f38)) (hR_f16 : AnsOk Try.prog 16 (f16_cOf R_f16)) (k : Nat) (K : Out → Option X) (x0 : Nat) (x1 : CV) (x2 : List CV) : evFn (f18_cx R_f37 R_f36 R_f38 R_f16 hR_f37 hR_f36 hR_f38 hR_f16) [⟨1000000, [], some [1000]⟩] k Try.f18.ntmps Try.f18.results.toList (Try.f18.body.getD .skip) [(.osl [1000] (some 21) 0 x0), (.v x1)] [([1000], (.row false (some 21) x2))] K = f18_A R_f37 R_f36 R_f38 R_f16 k X (fun u => K (f18_out u)) x0 x1 x2 := (f18_ev' R_f37 R_f36 R_f38 R_f16 hR_f37 hR_f36 hR_f38 hR_f16 k K x0 x1 x2).trans (by rw [f18_L1_it R_f37 R_f36 R_f38 R_f16 hR_f37 hR_f36 hR_f38 hR_f16 k K]; rfl)
theorem f18_okA (R_f37 : f37_R) (R_f36 : f36_R) (R_f38 : f38_R) (R_f16 : f16_R) (hR_f37 : AnsOk Try.prog 37 (f37_cOf R_f37)) (hR_f36 : AnsOk Try.prog 36 (f36_cOf R_f36)) (hR_f38 : AnsOk Try.prog 38 (f38_cOf R_f38)) (hR_f16 : AnsOk Try.prog 16 (f16_cOf R_f16)) (k : Nat) : AnsOk Try.prog 18 (f18_cOf (f18_A R_f37 R_f36 R_f38 R_f16 k)) := by
  intro X xs ns K x h
  unfold f18_cOf at h ⊢
  split at h
  · exact ans_main S (f18_Cok R_f37 R_f36 R_f38 R_f16 hR_f37 hR_f36 hR_f38 hR_f16) Try.func18 (ent_of Try.func18 (by kernel_rfl) rfl) rfl (fun X K => f18_ev R_f37 R_f36 R_f38 R_f16 hR_f37 hR_f36 hR_f38 hR_f16 k K _ _ _) h
  · cases h
/-- "outpost/outpostref21.Add" -/
def f18 {X : Type} (k : Nat) (K : Nat × Int × (List CV) → Option X) (x0 : Nat) (x1 : CV) (x2 : List CV) : Option X := f18_A (fun X => @f37 X k) (fun X => @f36 X k) (fun X => @f38 X k) (fun X => @f16 X k) k X K x0 x1 x2
theorem f18_ok (k : Nat) : AnsOk Try.prog 18 (f18_cOf (fun X => @f18 X k)) := f18_okA (fun X => @f37 X k) (fun X => @f36 X k) (fun X => @f38 X k) (fun X => @f16 X k) (f37_ok k) (f36_ok k) (f38_ok k) (f16_ok k) k
abbrev f27_R : Type 1 := (X : Type) → (Nat × (List CV) → Option X) → (List CV) → Option X
def f27_out (u : Nat × (List CV)) : Out := ⟨(.osl [2000] (some 21) 0 u.1), [([2000], (.row false (some 21) u.2))]⟩
def f27_cOf (R : f27_R) : FnC := fun X xs ns K => match xs, ns with
  | [(.sl false (some 21) x0)], [] => R X (fun u => K (f27_out u)) x0
  | _, _ => none
def f27_plan : Nat → Option (List Nat × List Wk)
  | 0 => some ([0], [])
  | 1 => some ([0], [])
  | 2 => some ([0, 3], [])
  | 3 => some ([3, 7, 8, 9], [])
  | 4 => some ([3, 7, 8, 9], [])
  | 5 => some ([3, 5, 7, 8, 9], [])
  | 6 => some ([3, 7, 8, 9], [])
  | 7 => some ([3], [])
  | _ => none
def f27_C (R_f19 : f19_R) : Fns := (orC 19 (f19_cOf R_f19) noC)
theorem f27_Cok (R_f19 : f19_R) (hR_f19 : AnsOk Try.prog 19 (f19_cOf R_f19)) : CsOk Try.prog (f27_C R_f19) := (orC_ok hR_f19 noC_ok)
def f27_cx (R_f19 : f19_R) (hR_f19 : AnsOk Try.prog 19 (f19_cOf R_f19)) : Cx := mkCx (tabOf rows) (f27_C R_f19) md (cmpIn cmps) f27_plan (f27_Cok R_f19 hR_f19)
def f27_S1 (v : Nat × (List CV) × Int × Int × (List CV)) : St := ⟨[.undef, .undef, .undef, (.osl [3] (some 21) 0 v.1), .undef, .undef, .undef, (.sl false (some 21) v.2.1), (.v (CV.int .i64 v.2.2.1)), (.v (CV.int .i64 v.2.2.2.1)), .undef, .undef, .undef, .undef, .undef, .undef, .undef, .undef, .undef, .undef], [([3], (.row false (some 21) v.2.2.2.2))]⟩
def f27_T1 {X : Type} (R_f19 : f19_R) (k : Nat) (K : Nat × (List CV) → Option X)   (rec1 : Nat × (List CV) × Int × Int × (List CV) → Option X) (v5_0 : Nat × (List CV) × Int × Int × (List CV)) : Option X :=
(bif (decide (v5_0.2.2.2.1 < v5_0.2.2.1)) then
grd (decide (0 ≤ v5_0.2.2.2.1)) <|
Option.bind (v5_0.2.1)[(Int.toNat v5_0.2.2.2.1)]? fun e8 =>
grd (CV.isA 21 e8) <|
grd (CV.isI .i64 (CV.cellD 0 e8)) <|
grd (CV.isL none (CV.cellD 1 e8)) <|
grd (CV.isL none (CV.cellD 2 e8)) <|
grd (CV.isI .i64 (CV.cellD 3 e8)) <|
grd (CV.isI .i64 (CV.cellD 4 e8)) <|
grd (CV.isB (CV.cellD 5 e8)) <|
grd (CV.isB (CV.cellD 6 e8)) <|
grd (CV.isI .i64 (CV.cellD 7 e8)) <|
grd (CV.isI .i64 (CV.cellD 8 e8)) <|
grd (CV.isI .i64 (CV.cellD 9 e8)) <|
grd (CV.isB (CV.cellD 10 e8)) <|
grd (CV.isB (CV.cellD 11 e8)) <|
grd (CV.isB (CV.cellD 12 e8)) <|
grd (CV.isI .i64 (CV.cellD 13 e8)) <|
grd (CV.isI .i64 (CV.cellD 14 e8)) <|
grd (CV.isS (CV.cellD 15 e8)) <|
grd (CV.isL none (CV.cellD 16 e8)) <|
grd (CV.isI .i64 (CV.cellD 17 e8)) <|
grd (CV.isI .i64 (CV.cellD 18 e8)) <|
grd (CV.isI .i64 (CV.cellD 19 e8)) <|
grd (CV.isI .i64 (CV.cellD 20 e8)) <|
R_f19 _ (fun u9 =>
grd (decide ((v5_0.1 + (List.length (List.take 1 (List.drop 0 [(CV.agg [(CV.int .i64 u9.1), (CV.slc none u9.2.1), (CV.slc none u9.2.2.1), (CV.int .i64 u9.2.2.2.1), (CV.int .i64 u9.2.2.2.2.1), (CV.bool u9.2.2.2.2.2.1), (CV.bool u9.2.2.2.2.2.2.1), (CV.int .i64 u9.2.2.2.2.2.2.2.1), (CV.int .i64 u9.2.2.2.2.2.2.2.2.1), (CV.int .i64 u9.2.2.2.2.2.2.2.2.2.1), (CV.bool u9.2.2.2.2.2.2.2.2.2.2.1), (CV.bool u9.2.2.2.2.2.2.2.2.2.2.2.1), (CV.bool u9.2.2.2.2.2.2.2.2.2.2.2.2.1), (CV.int .i64 u9.2.2.2.2.2.2.2.2.2.2.2.2.2.1), (CV.int .i64 u9.2.2.2.2.2.2.2.2.2.2.2.2.2.2.1), (CV.str u9.2.2.2.2.2.2.2.2.2.2.2.2.2.2.2.1), (CV.slc none u9.2.2.2.2.2.2.2.2.2.2.2.2.2.2.2.2.1), (CV.int .i64 u9.2.2.2.2.2.2.2.2.2.2.2.2.2.2.2.2.2.1), (CV.int .i64 u9.2.2.2.2.2.2.2.2.2.2.2.2.2.2.2.2.2.2.1), (CV.int .i64 u9.2.2.2.2.2.2.2.2.2.2.2.2.2.2.2.2.2.2.2.1), (CV.int .i64 u9.2.2.2.2.2.2.2.2.2.2.2.2.2.2.2.2.2.2.2.2)])])))) * 200 ≤ 140737488355328)) <|
rec1 ((v5_0.1 + (List.length (List.take 1 (List.drop 0 [(CV.agg [(CV.int .i64 u9.1), (CV.slc none u9.2.1), (CV.slc none u9.2.2.1), (CV.int .i64 u9.2.2.2.1), (CV.int .i64 u9.2.2.2.2.1), (CV.bool u9.2.2.2.2.2.1), (CV.bool u9.2.2.2.2.2.2.1), (CV.int .i64 u9.2.2.2.2.2.2.2.1), (CV.int .i64 u9.2.2.2.2.2.2.2.2.1), (CV.int .i64 u9.2.2.2.2.2.2.2.2.2.1), (CV.bool u9.2.2.2.2.2.2.2.2.2.2.1), (CV.bool u9.2.2.2.2.2.2.2.2.2.2.2.1), (CV.bool u9.2.2.2.2.2.2.2.2.2.2.2.2.1), (CV.int .i64 u9.2.2.2.2.2.2.2.2.2.2.2.2.2.1), (CV.int .i64 u9.2.2.2.2.2.2.2.2.2.2.2.2.2.2.1), (CV.str u9.2.2.2.2.2.2.2.2.2.2.2.2.2.2.2.1), (CV.slc none u9.2.2.2.2.2.2.2.2.2.2.2.2.2.2.2.2.1), (CV.int .i64 u9.2.2.2.2.2.2.2.2.2.2.2.2.2.2.2.2.2.1), (CV.int .i64 u9.2.2.2.2.2.2.2.2.2.2.2.2.2.2.2.2.2.2.1), (CV.int .i64 u9.2.2.2.2.2.2.2.2.2.2.2.2.2.2.2.2.2.2.2.1), (CV.int .i64 u9.2.2.2.2.2.2.2.2.2.2.2.2.2.2.2.2.2.2.2.2)])])))), v5_0.2.1, v5_0.2.2.1, (IntKind.wrap .i64 (v5_0.2.2.2.1 + 1)), ((List.take v5_0.1 v5_0.2.2.2.2) ++ (List.take 1 (List.drop 0 [(CV.agg [(CV.int .i64 u9.1), (CV.slc none u9.2.1), (CV.slc none u9.2.2.1), (CV.int .i64 u9.2.2.2.1), (CV.int .i64 u9.2.2.2.2.1), (CV.bool u9.2.2.2.2.2.1), (CV.bool u9.2.2.2.2.2.2.1), (CV.int .i64 u9.2.2.2.2.2.2.2.1), (CV.int .i64 u9.2.2.2.2.2.2.2.2.1), (CV.int .i64 u9.2.2.2.2.2.2.2.2.2.1), (CV.bool u9.2.2.2.2.2.2.2.2.2.2.1), (CV.bool u9.2.2.2.2.2.2.2.2.2.2.2.1), (CV.bool u9.2.2.2.2.2.2.2.2.2.2.2.2.1), (CV.int .i64 u9.2.2.2.2.2.2.2.2.2.2.2.2.2.1), (CV.int .i64 u9.2.2.2.2.2.2.2.2.2.2.2.2.2.2.1), (CV.str u9.2.2.2.2.2.2.2.2.2.2.2.2.2.2.2.1), (CV.slc none u9.2.2.2.2.2.2.2.2.2.2.2.2.2.2.2.2.1), (CV.int .i64 u9.2.2.2.2.2.2.2.2.2.2.2.2.2.2.2.2.2.1), (CV.int .i64 u9.2.2.2.2.2.2.2.2.2.2.2.2.2.2.2.2.2.2.1), (CV.int .i64 u9.2.2.2.2.2.2.2.2.2.2.2.2.2.2.2.2.2.2.2.1), (CV.int .i64 u9.2.2.2.2.2.2.2.2.2.2.2.2.2.2.2.2.2.2.2.2)])]))))) ((CV.agg [(CV.int .i64 (CV.toI (CV.cellD 0 e8))), (CV.slc none (CV.toL (CV.cellD 1 e8))), (CV.slc none (CV.toL (CV.cellD 2 e8))), (CV.int .i64 (CV.toI (CV.cellD 3 e8))), (CV.int .i64 (CV.toI (CV.cellD 4 e8))), (CV.bool (CV.toB (CV.cellD 5 e8))), (CV.bool (CV.toB (CV.cellD 6 e8))), (CV.int .i64 (CV.toI (CV.cellD 7 e8))), (CV.int .i64 (CV.toI (CV.cellD 8 e8))), (CV.int .i64 (CV.toI (CV.cellD 9 e8))), (CV.bool (CV.toB (CV.cellD 10 e8))), (CV.bool (CV.toB (CV.cellD 11 e8))), (CV.bool (CV.toB (CV.cellD 12 e8))), (CV.int .i64 (CV.toI (CV.cellD 13 e8))), (CV.int .i64 (CV.toI (CV.cellD 14 e8))), (CV.str (CV.toS (CV.cellD 15 e8))), (CV.slc none (CV.toL (CV.cellD 16 e8))), (CV.int .i64 (CV.toI (CV.cellD 17 e8))), (CV.int .i64 (CV.toI (CV.cellD 18 e8))), (CV.int .i64 (CV.toI (CV.cellD 19 e8))), (CV.int .i64 (CV.toI (CV.cellD 20 e8)))]))
else
K (v5_0.1, (List.take (0 + v5_0.1) v5_0.2.2.2.2)))
def f27_L1 {X : Type} (R_f19 : f19_R) (k : Nat) (K : Nat × (List CV) → Option X)  (rec1 : Nat × (List CV) × Int × Int × (List CV) → Option X) (v : Nat × (List CV) × Int × Int × (List CV)) : Option X := f27_T1 R_f19 k K   rec1 v
set_option maxRecDepth 100000 in
theorem f27_L1_ev {X : Type} (R_f19 : f19_R) (hR_f19 : AnsOk Try.prog 19 (f19_cOf R_f19)) (k : Nat) (K : Out → Option X)  (r1 : St → Option X) (v : Nat × (List CV) × Int × Int × (List CV)) : loopB (f27_cx R_f19 hR_f19) k [.r, .r, .l, .r, .b] (Try.f27.body.getD .skip) (retK (f27_cx R_f19 hR_f19) [] Try.f27.results.toList K) [] r1 (f27_S1 v) = f27_T1 R_f19 k (fun u => K (f27_out u))   (fun v => r1 (f27_S1 v)) v := by kernel_rfl
theorem f27_L1_it {X : Type} (R_f19 : f19_R) (hR_f19 : AnsOk Try.prog 19 (f19_cOf R_f19)) (k : Nat) (K : Out → Option X)  : (fun v => iter (loopB (f27_cx R_f19 hR_f19) k [.r, .r, .l, .r, .b] (Try.f27.body.getD .skip) (retK (f27_cx R_f19 hR_f19) [] Try.f27.results.toList K) []) k (f27_S1 v)) = iterV (f27_L1 R_f19 k (fun u => K (f27_out u)) ) k :=
  iter_map (fun r1 v => (f27_L1_ev R_f19 hR_f19 k K  r1 v).trans rfl) k
def f27_T {X : Type} (R_f19 : f19_R) (k : Nat) (K : Nat × (List CV) → Option X) (loop1 : Nat × (List CV) × Int × Int × (List CV) → Option X) (x0 : List CV) : Option X :=
loop1 (0, x0, (Nat.cast ((List.length x0)) : Int), 0, [])
/-- "outpost/outpostlaw21.as" -/
def f27_A (R_f19 : f19_R) (k : Nat) : f27_R := fun X K x0 => f27_T R_f19 k K (iterV (f27_L1 R_f19 k K) k) x0
set_option maxRecDepth 100000 in
theorem f27_ev' {X : Type} (R_f19 : f19_R) (hR_f19 : AnsOk Try.prog 19 (f19_cOf R_f19)) (k : Nat) (K : Out → Option X) (x0 : List CV) : evFn (f27_cx R_f19 hR_f19) [] k Try.f27.ntmps Try.f27.results.toList (Try.f27.body.getD .skip) [(.sl false (some 21) x0)] [] K = f27_T R_f19 k (fun u => K (f27_out u)) (fun v => iter (loopB (f27_cx R_f19 hR_f19) k [.r, .r, .l, .r, .b] (Try.f27.body.getD .skip) (retK (f27_cx R_f19 hR_f19) [] Try.f27.results.toList K) []) k (f27_S1 v)) x0 := by kernel_rfl
theorem f27_ev {X : Type} (R_f19 : f19_R) (hR_f19 : AnsOk Try.prog 19 (f19_cOf R_f19)) (k : Nat) (K : Out → Option X) (x0 : List CV) : evFn (f27_cx R_f19 hR_f19) [] k Try.f27.ntmps Try.f27.results.toList (Try.f27.body.getD .skip) [(.sl false (some 21) x0)] [] K = f27_A R_f19 k X (fun u => K (f27_out u)) x0 := (f27_ev' R_f19 hR_f19 k K x0).trans (by rw [f27_L1_it R_f19 hR_f19 k K]; rfl)
theorem f27_okA (R_f19 : f19_R) (hR_f19 : AnsOk Try.prog 19 (f19_cOf R_f19)) (k : Nat) : AnsOk Try.prog 27 (f27_cOf (f27_A R_f19 k)) := by
  intro X xs ns K x h
  unfold f27_cOf at h ⊢
  split at h
  · exact ans_main S (f27_Cok R_f19 hR_f19) Try.func27 (ent_of Try.func27 (by kernel_rfl) rfl) rfl (fun X K => f27_ev R_f19 hR_f19 k K _) h
  · cases h
/-- "outpost/outpostlaw21.as" -/
def f27 {X : Type} (k : Nat) (K : Nat × (List CV) → Option X) (x0 : List CV) : Option X := f27_A (fun X => @f19 X k) k X K x0
theorem f27_ok (k : Nat) : AnsOk Try.prog 27 (f27_cOf (fun X => @f27 X k)) := f27_okA (fun X => @f19 X k) (f19_ok k) k
abbrev f39_R : Type 1 := (X : Type) → (Bool → Option X) → (List CV) → (List CV) → Option X
def f39_out (u : Bool) : Out := ⟨(.v (CV.bool u)), []⟩
def f39_cOf (R : f39_R) : FnC := fun X xs ns K => match xs, ns with
  | [(.sl false none x0), (.sl false none x1)], [] => R X (fun u => K (f39_out u)) x0 x1
  | _, _ => none
def f39_plan : Nat → Option (List Nat × List Wk)
  | 0 => some ([0, 1], [])
  | 1 => some ([0, 1], [])
  | 2 => some ([], [])
  | 3 => some ([0, 1], [])
  | 4 => some ([0, 1, 5], [])
  | 5 => some ([0, 1, 5], [])
  | 6 => some ([0, 1, 5], [])
  | 7 => some ([], [])
  | 8 => some ([], [])
  | _ => none
def f39_C : Fns := noC
theorem f39_Cok : CsOk Try.prog (f39_C) := noC_ok
def f39_cx : Cx := mkCx (tabOf rows) (f39_C) md (cmpIn cmps) f39_plan (f39_Cok)
def f39_S1 (v : (List CV) × (List CV) × Int) : St := ⟨[(.sl false none v.1), (.sl false none v.2.1), .undef, .undef, .undef, (.v (CV.int .i64 v.2.2)), .undef, .undef, .undef, .undef, .undef, .undef, .undef, .undef, .undef, .undef, .undef, .undef, .undef, .undef, .undef, .undef, .undef, .undef, .undef, .undef], []⟩
def f39_T1 {X : Type} (k : Nat) (K : Bool → Option X)   (rec1 : (List CV) × (List CV) × Int → Option X) (v5_0 : (List CV) × (List CV) × Int) : Option X :=
(bif (decide (v5_0.2.2 < (Nat.cast ((List.length v5_0.1)) : Int))) then
grd (decide (0 ≤ v5_0.2.2)) <|
Option.bind (v5_0.1)[(Int.toNat v5_0.2.2)]? fun e8 =>
grd (CV.isI .i64 e8) <|
grd (decide (0 ≤ v5_0.2.2)) <|
Option.bind (v5_0.2.1)[(Int.toNat v5_0.2.2)]? fun e9 =>
grd (CV.isI .i64 e9) <|
(bif ((CV.toI e8) != (CV.toI e9)) then
K (false)
else
rec1 (v5_0.1, v5_0.2.1, (IntKind.wrap .i64 (v5_0.2.2 + 1))))
else
K (true))
def f39_L1 {X : Type} (k : Nat) (K : Bool → Option X)  (rec1 : (List CV) × (List CV) × Int → Option X) (v : (List CV) × (List CV) × Int) : Option X := f39_T1 k K   rec1 v
set_option maxRecDepth 100000 in
theorem f39_L1_ev {X : Type} (k : Nat) (K : Out → Option X)  (r1 : St → Option X) (v : (List CV) × (List CV) × Int) : loopB (f39_cx) k [.r, .r, .l, .r, .b] (Try.f39.body.getD .skip) (retK (f39_cx) [] Try.f39.results.toList K) [] r1 (f39_S1 v) = f39_T1 k (fun u => K (f39_out u))   (fun v => r1 (f39_S1 v)) v := by kernel_rfl
theorem f39_L1_it {X : Type} (k : Nat) (K : Out → Option X)  : (fun v => iter (loopB (f39_cx) k [.r, .r, .l, .r, .b] (Try.f39.body.getD .skip) (retK (f39_cx) [] Try.f39.results.toList K) []) k (f39_S1 v)) = iterV (f39_L1 k (fun u => K (f39_out u)) ) k :=
  iter_map (fun r1 v => (f39_L1_ev k K  r1 v).trans rfl) k
def f39_T {X : Type} (k : Nat) (K : Bool → Option X) (loop1 : (List CV) × (List CV) × Int → Option X) (x0 : List CV) (x1 : List CV) : Option X :=
(bif ((Nat.cast ((List.length x0)) : Int) != (Nat.cast ((List.length x1)) : Int)) then
K (false)
else
loop1 (x0, x1, 0))
/-- "outpost/outpostref01.SameInts" -/
def f39_A (k : Nat) : f39_R := fun X K x0 x1 => f39_T k K (iterV (f39_L1 k K) k) x0 x1
set_option maxRecDepth 100000 in
theorem f39_ev' {X : Type} (k : Nat) (K : Out → Option X) (x0 : List CV) (x1 : List CV) : evFn (f39_cx) [] k Try.f39.ntmps Try.f39.results.toList (Try.f39.body.getD .skip) [(.sl false none x0), (.sl false none x1)] [] K = f39_T k (fun u => K (f39_out u)) (fun v => iter (loopB (f39_cx) k [.r, .r, .l, .r, .b] (Try.f39.body.getD .skip) (retK (f39_cx) [] Try.f39.results.toList K) []) k (f39_S1 v)) x0 x1 := by kernel_rfl
theorem f39_ev {X : Type} (k : Nat) (K : Out → Option X) (x0 : List CV) (x1 : List CV) : evFn (f39_cx) [] k Try.f39.ntmps Try.f39.results.toList (Try.f39.body.getD .skip) [(.sl false none x0), (.sl false none x1)] [] K = f39_A k X (fun u => K (f39_out u)) x0 x1 := (f39_ev' k K x0 x1).trans (by rw [f39_L1_it k K]; rfl)
theorem f39_okA (k : Nat) : AnsOk Try.prog 39 (f39_cOf (f39_A k)) := by
  intro X xs ns K x h
  unfold f39_cOf at h ⊢
  split at h
  · exact ans_main S (f39_Cok) Try.func39 (ent_of Try.func39 (by kernel_rfl) rfl) rfl (fun X K => f39_ev k K _ _) h
  · cases h
/-- "outpost/outpostref01.SameInts" -/
def f39 {X : Type} (k : Nat) (K : Bool → Option X) (x0 : List CV) (x1 : List CV) : Option X := f39_A k X K x0 x1
theorem f39_ok (k : Nat) : AnsOk Try.prog 39 (f39_cOf (fun X => @f39 X k)) := f39_okA k
abbrev f26_R : Type 1 := (X : Type) → (Bool → Option X) → (List CV) → (List CV) → Option X
def f26_out (u : Bool) : Out := ⟨(.v (CV.bool u)), []⟩
def f26_cOf (R : f26_R) : FnC := fun X xs ns K => match xs, ns with
  | [(.sl false (some 21) x0), (.sl false (some 21) x1)], [] => R X (fun u => K (f26_out u)) x0 x1
  | _, _ => none
def f26_plan : Nat → Option (List Nat × List Wk)
  | 0 => some ([0, 1], [])
  | 1 => some ([0, 1], [])
  | 2 => some ([], [])
  | 3 => some ([0, 1], [])
  | 4 => some ([0, 1, 5], [])
  | 5 => some ([0, 1, 5], [])
  | 6 => some ([0, 1, 5], [])
  | 7 => some ([0, 1, 5, 6, 7], [])
  | 8 => some ([], [])
  | 9 => some ([], [])
  | _ => none
def f26_C (R_f16 : f16_R) (R_f39 : f39_R) (R_f15 : f15_R) : Fns := (orC 15 (f15_cOf R_f15) (orC 16 (f16_cOf R_f16) (orC 39 (f39_cOf R_f39) noC)))
theorem f26_Cok (R_f16 : f16_R) (R_f39 : f39_R) (R_f15 : f15_R) (hR_f16 : AnsOk Try.prog 16 (f16_cOf R_f16)) (hR_f39 : AnsOk Try.prog 39 (f39_cOf R_f39)) (hR_f15 : AnsOk Try.prog 15 (f15_cOf R_f15)) : CsOk Try.prog (f26_C R_f16 R_f39 R_f15) := (orC_ok hR_f15 (orC_ok hR_f16 (orC_ok hR_f39 noC_ok)))
def f26_cx (R_f16 : f16_R) (R_f39 : f39_R) (R_f15 : f15_R) (hR_f16 : AnsOk Try.prog 16 (f16_cOf R_f16)) (hR_f39 : AnsOk Try.prog 39 (f39_cOf R_f39)) (hR_f15 : AnsOk Try.prog 15 (f15_cOf R_f15)) : Cx := mkCx (tabOf rows) (f26_C R_f16 R_f39 R_f15) md (cmpIn cmps) f26_plan (f26_Cok R_f16 R_f39 R_f15 hR_f16 hR_f39 hR_f15)
def f26_S1 (v : (List CV) × (List CV) × Int) : St := ⟨[(.sl false (some 21) v.1), (.sl false (some 21) v.2.1), .undef, .undef, .undef, (.v (CV.int .i64 v.2.2)), .undef, .undef, .undef, .undef, .undef, .undef, .undef, .undef, .undef, .undef, .undef, .undef, .undef, .undef, .undef, .undef, .undef, .undef, .undef, .undef, .undef, .undef, .undef, .undef, .undef, .undef, .undef, .undef, .undef, .undef, .undef, .undef, .undef, .undef, .undef, .undef, .undef, .undef, .undef, .undef, .undef, .undef, .undef, .undef, .undef, .undef, .undef, .undef, .undef, .undef, .undef, .undef, .undef, .undef, .undef, .undef, .undef, .undef, .undef, .undef, .undef, .undef, .undef, .undef, .undef, .undef, .undef, .undef, .undef, .undef, .undef], []⟩
def f26_T1 {X : Type} (R_f16 : f16_R) (R_f39 : f39_R) (R_f15 : f15_R) (k : Nat) (K : Bool → Option X)   (rec1 : (List CV) × (List CV) × Int → Option X) (v5_0 : (List CV) × (List CV) × Int) : Option X :=
(bif (decide (v5_0.2.2 < (Nat.cast ((List.length v5_0.1)) : Int))) then
grd (decide (0 ≤ v5_0.2.2)) <|
Option.bind (v5_0.1)[(Int.toNat v5_0.2.2)]? fun e17 =>
grd (decide (0 ≤ v5_0.2.2)) <|
Option.bind (v5_0.2.1)[(Int.toNat v5_0.2.2)]? fun e18 =>
grd (CV.isA 21 e17) <|
grd (CV.isI .i64 (CV.cellD 0 e17)) <|
grd (CV.isL none (CV.cellD 1 e17)) <|
grd (CV.isL none (CV.cellD 2 e17)) <|
grd (CV.isI .i64 (CV.cellD 3 e17)) <|
grd (CV.isI .i64 (CV.cellD 4 e17)) <|
grd (CV.isB (CV.cellD 5 e17)) <|
grd (CV.isB (CV.cellD 6 e17)) <|
grd (CV.isI .i64 (CV.cellD 7 e17)) <|
grd (CV.isI .i64 (CV.cellD 8 e17)) <|
grd (CV.isI .i64 (CV.cellD 9 e17)) <|
grd (CV.isB (CV.cellD 10 e17)) <|
grd (CV.isB (CV.cellD 11 e17)) <|
grd (CV.isB (CV.cellD 12 e17)) <|
grd (CV.isI .i64 (CV.cellD 13 e17)) <|
grd (CV.isI .i64 (CV.cellD 14 e17)) <|
grd (CV.isS (CV.cellD 15 e17)) <|
grd (CV.isL none (CV.cellD 16 e17)) <|
grd (CV.isI .i64 (CV.cellD 17 e17)) <|
grd (CV.isI .i64 (CV.cellD 18 e17)) <|
grd (CV.isI .i64 (CV.cellD 19 e17)) <|
grd (CV.isI .i64 (CV.cellD 20 e17)) <|
grd (CV.isA 21 e18) <|
grd (CV.isI .i64 (CV.cellD 0 e18)) <|
grd (CV.isL none (CV.cellD 1 e18)) <|
grd (CV.isL none (CV.cellD 2 e18)) <|
grd (CV.isI .i64 (CV.cellD 3 e18)) <|
grd (CV.isI .i64 (CV.cellD 4 e18)) <|
grd (CV.isB (CV.cellD 5 e18)) <|
grd (CV.isB (CV.cellD 6 e18)) <|
grd (CV.isI .i64 (CV.cellD 7 e18)) <|
grd (CV.isI .i64 (CV.cellD 8 e18)) <|
grd (CV.isI .i64 (CV.cellD 9 e18)) <|
grd (CV.isB (CV.cellD 10 e18)) <|
grd (CV.isB (CV.cellD 11 e18)) <|
grd (CV.isB (CV.cellD 12 e18)) <|
grd (CV.isI .i64 (CV.cellD 13 e18)) <|
grd (CV.isI .i64 (CV.cellD 14 e18)) <|
grd (CV.isS (CV.cellD 15 e18)) <|
grd (CV.isL none (CV.cellD 16 e18)) <|
grd (CV.isI .i64 (CV.cellD 17 e18)) <|
grd (CV.isI .i64 (CV.cellD 18 e18)) <|
grd (CV.isI .i64 (CV.cellD 19 e18)) <|
grd (CV.isI .i64 (CV.cellD 20 e18)) <|
(bif ((CV.toI (CV.cellD 0 e17)) != (CV.toI (CV.cellD 0 e18))) then
K (false)
else
R_f16 _ (fun u19 =>
(bif (!u19) then
K (false)
else
R_f39 _ (fun u20 =>
(bif (!u20) then
K (false)
else
(bif (!(((CV.toI (CV.cellD 3 e17)) == (CV.toI (CV.cellD 3 e18))) && (((CV.toI (CV.cellD 4 e17)) == (CV.toI (CV.cellD 4 e18))) && (((CV.toB (CV.cellD 5 e17)) == (CV.toB (CV.cellD 5 e18))) && (((CV.toB (CV.cellD 6 e17)) == (CV.toB (CV.cellD 6 e18))) && (((CV.toI (CV.cellD 7 e17)) == (CV.toI (CV.cellD 7 e18))) && (((CV.toI (CV.cellD 8 e17)) == (CV.toI (CV.cellD 8 e18))) && (((CV.toI (CV.cellD 9 e17)) == (CV.toI (CV.cellD 9 e18))) && (((CV.toB (CV.cellD 10 e17)) == (CV.toB (CV.cellD 10 e18))) && (((CV.toB (CV.cellD 11 e17)) == (CV.toB (CV.cellD 11 e18))) && (((CV.toB (CV.cellD 12 e17)) == (CV.toB (CV.cellD 12 e18))) && true))))))))))) then
K (false)
else
R_f15 _ (fun u21 =>
(bif (!u21) then
K (false)
else
(bif ((CV.toI (CV.cellD 19 e17)) != (CV.toI (CV.cellD 19 e18))) then
K (false)
else
(bif ((CV.toI (CV.cellD 20 e17)) != (CV.toI (CV.cellD 20 e18))) then
K (false)
else
rec1 (v5_0.1, v5_0.2.1, (IntKind.wrap .i64 (v5_0.2.2 + 1))))))) ((CV.agg [(CV.int .i64 (CV.toI (CV.cellD 13 e17))), (CV.int .i64 (CV.toI (CV.cellD 14 e17))), (CV.str (CV.toS (CV.cellD 15 e17))), (CV.slc none (CV.toL (CV.cellD 16 e17))), (CV.int .i64 (CV.toI (CV.cellD 17 e17))), (CV.int .i64 (CV.toI (CV.cellD 18 e17)))])) ((CV.agg [(CV.int .i64 (CV.toI (CV.cellD 13 e18))), (CV.int .i64 (CV.toI (CV.cellD 14 e18))), (CV.str (CV.toS (CV.cellD 15 e18))), (CV.slc none (CV.toL (CV.cellD 16 e18))), (CV.int .i64 (CV.toI (CV.cellD 17 e18))), (CV.int .i64 (CV.toI (CV.cellD 18 e18)))]))))) ((CV.toL (CV.cellD 2 e17))) ((CV.toL (CV.cellD 2 e18))))) ((CV.toL (CV.cellD 1 e17))) ((CV.toL (CV.cellD 1 e18))))
else
K (true))
def f26_L1 {X : Type} (R_f16 : f16_R) (R_f39 : f39_R) (R_f15 : f15_R) (k : Nat) (K : Bool → Option X)  (rec1 : (List CV) × (List CV) × Int → Option X) (v : (List CV) × (List CV) × Int) : Option X := f26_T1 R_f16 R_f39 R_f15 k K   rec1 v
set_option maxRecDepth 100000 in
theorem f26_L1_ev {X : Type} (R_f16 : f16_R) (R_f39 : f39_R) (R_f15 : f15_R) (hR_f16 : AnsOk Try.prog 16 (f16_cOf R_f16)) (hR_f39 : AnsOk Try.prog 39 (f39_cOf R_f39)) (hR_f15 : AnsOk Try.prog 15 (f15_cOf R_f15)) (k : Nat) (K : Out → Option X)  (r1 : St → Option X) (v : (List CV) × (List CV) × Int) : loopB (f26_cx R_f16 R_f39 R_f15 hR_f16 hR_f39 hR_f15) k [.r, .r, .l, .r, .b] (Try.f26.body.getD .skip) (retK (f26_cx R_f16 R_f39 R_f15 hR_f16 hR_f39 hR_f15) [] Try.f26.results.toList K) [] r1 (f26_S1 v) = f26_T1 R_f16 R_f39 R_f15 k (fun u => K (f26_out u))   (fun v => r1 (f26_S1 v)) v := by kernel_rfl
theorem f26_L1_it {X : Type} (R_f16 : f16_R) (R_f39 : f39_R) (R_f15 : f15_R) (hR_f16 : AnsOk Try.prog 16 (f16_cOf R_f16)) (hR_f39 : AnsOk Try.prog 39 (f39_cOf R_f39)) (hR_f15 : AnsOk Try.prog 15 (f15_cOf R_f15)) (k : Nat) (K : Out → Option X)  : (fun v => iter (loopB (f26_cx R_f16 R_f39 R_f15 hR_f16 hR_f39 hR_f15) k [.r, .r, .l, .r, .b] (Try.f26.body.getD .skip) (retK (f26_cx R_f16 R_f39 R_f15 hR_f16 hR_f39 hR_f15) [] Try.f26.results.toList K) []) k (f26_S1 v)) = iterV (f26_L1 R_f16 R_f39 R_f15 k (fun u => K (f26_out u)) ) k :=
  iter_map (fun r1 v => (f26_L1_ev R_f16 R_f39 R_f15 hR_f16 hR_f39 hR_f15 k K  r1 v).trans rfl) k
def f26_T {X : Type} (R_f16 : f16_R) (R_f39 : f39_R) (R_f15 : f15_R) (k : Nat) (K : Bool → Option X) (loop1 : (List CV) × (List CV) × Int → Option X) (x0 : List CV) (x1 : List CV) : Option X :=
(bif ((Nat.cast ((List.length x0)) : Int) != (Nat.cast ((List.length x1)) : Int)) then
K (false)
else
loop1 (x0, x1, 0))
/-- "outpost/outpostref21.Same" -/
def f26_A (R_f16 : f16_R) (R_f39 : f39_R) (R_f15 : f15_R) (k : Nat) : f26_R := fun X K x0 x1 => f26_T R_f16 R_f39 R_f15 k K (iterV (f26_L1 R_f16 R_f39 R_f15 k K) k) x0 x1
set_option maxRecDepth 100000 in
theorem f26_ev' {X : Type} (R_f16 : f16_R) (R_f39 : f39_R) (R_f15 : f15_R) (hR_f16 : AnsOk Try.prog 16 (f16_cOf R_f16)) (hR_f39 : AnsOk Try.prog 39 (f39_cOf R_f39)) (hR_f15 : AnsOk Try.prog 15 (f15_cOf R_f15)) (k : Nat) (K : Out → Option X) (x0 : List CV) (x1 : List CV) : evFn (f26_cx R_f16 R_f39 R_f15 hR_f16 hR_f39 hR_f15) [] k Try.f26.ntmps Try.f26.results.toList (Try.f26.body.getD .skip) [(.sl false (some 21) x0), (.sl false (some 21) x1)] [] K = f26_T R_f16 R_f39 R_f15 k (fun u => K (f26_out u)) (fun v => iter (loopB (f26_cx R_f16 R_f39 R_f15 hR_f16 hR_f39 hR_f15) k [.r, .r, .l, .r, .b] (Try.f26.body.getD .skip) (retK (f26_cx R_f16 R_f39 R_f15 hR_f16 hR_f39 hR_f15) [] Try.f26.results.toList K) []) k (f26_S1 v)) x0 x1 := by kernel_rfl
theorem f26_ev {X : Type} (R_f16 : f16_R) (R_f39 : f39_R) (R_f15 : f15_R) (hR_f16 : AnsOk Try.prog 16 (f16_cOf R_f16)) (hR_f39 : AnsOk Try.prog 39 (f39_cOf R_f39)) (hR_f15 : AnsOk Try.prog 15 (f15_cOf R_f15)) (k : Nat) (K : Out → Option X) (x0 : List CV) (x1 : List CV) : evFn (f26_cx R_f16 R_f39 R_f15 hR_f16 hR_f39 hR_f15) [] k Try.f26.ntmps Try.f26.results.toList (Try.f26.body.getD .skip) [(.sl false (some 21) x0), (.sl false (some 21) x1)] [] K = f26_A R_f16 R_f39 R_f15 k X (fun u => K (f26_out u)) x0 x1 := (f26_ev' R_f16 R_f39 R_f15 hR_f16 hR_f39 hR_f15 k K x0 x1).trans (by rw [f26_L1_it R_f16 R_f39 R_f15 hR_f16 hR_f39 hR_f15 k K]; rfl)
theorem f26_okA (R_f16 : f16_R) (R_f39 : f39_R) (R_f15 : f15_R) (hR_f16 : AnsOk Try.prog 16 (f16_cOf R_f16)) (hR_f39 : AnsOk Try.prog 39 (f39_cOf R_f39)) (hR_f15 : AnsOk Try.prog 15 (f15_cOf R_f15)) (k : Nat) : AnsOk Try.prog 26 (f26_cOf (f26_A R_f16 R_f39 R_f15 k)) := by
  intro X xs ns K x h
  unfold f26_cOf at h ⊢
  split at h
  · exact ans_main S (f26_Cok R_f16 R_f39 R_f15 hR_f16 hR_f39 hR_f15) Try.func26 (ent_of Try.func26 (by kernel_rfl) rfl) rfl (fun X K => f26_ev R_f16 R_f39 R_f15 hR_f16 hR_f39 hR_f15 k K _ _) h
  · cases h
/-- "outpost/outpostref21.Same" -/
def f26 {X : Type} (k : Nat) (K : Bool → Option X) (x0 : List CV) (x1 : List CV) : Option X := f26_A (fun X => @f16 X k) (fun X => @f39 X k) (fun X => @f15 X k) k X K x0 x1
theorem f26_ok (k : Nat) : AnsOk Try.prog 26 (f26_cOf (fun X => @f26 X k)) := f26_okA (fun X => @f16 X k) (fun X => @f39 X k) (fun X => @f15 X k) (f16_ok k) (f39_ok k) (f15_ok k) k
abbrev f24_R : Type 1 := (X : Type) → (Bool × Nat × (List CV) → Option X) → Int → (List CV) → CV → Nat → (List CV) → Option X
def f24_out (u : Bool × Nat × (List CV)) : Out := ⟨(.v (CV.bool u.1)), [([1000], (.obj [(.osl [0, 1000] (some 21) 0 u.2.1)])), ([0, 1000], (.row false (some 21) u.2.2))]⟩
def f24_cOf (R : f24_R) : FnC := fun X xs ns K => match xs, ns with
  | [(.ptr [1000] 0 0 0), (.v (CV.int .i64 x0)), (.sl true none x1), (.v x2)], [([1000], (.obj [(.osl [0, 1000] (some 21) 0 x3)])), ([0, 1000], (.row false (some 21) x4))] => R X (fun u => K (f24_out u)) x0 x1 x2 x3 x4
  | _, _ => none
def f24_plan : Nat → Option (List Nat × List Wk)
  | 0 => some ([0, 1, 2, 3], [])
  | 1 => some ([0, 1, 2, 7], [])
  | 2 => some ([0, 7, 9], [])
  | 3 => some ([], [])
  | 4 => some ([0, 7, 9], [])
  | 5 => some ([], [])
  | _ => none
def f24_C (R_f33 : f33_R) : Fns := (orC 33 (f33_cOf R_f33) noC)
theorem f24_Cok (R_f33 : f33_R) (hR_f33 : AnsOk Try.prog 33 (f33_cOf R_f33)) : CsOk Try.prog (f24_C R_f33) := (orC_ok hR_f33 noC_ok)
def f24_cx (R_f33 : f33_R) (hR_f33 : AnsOk Try.prog 33 (f33_cOf R_f33)) : Cx := mkCx (tabOf rows) (f24_C R_f33) md (cmpIn cmps) f24_plan (f24_Cok R_f33 hR_f33)
def f24_T {X : Type} (R_f33 : f33_R) (k : Nat) (K : Bool × Nat × (List CV) → Option X)  (x0 : Int) (x1 : List CV) (x2 : CV) (x3 : Nat) (x4 : List CV) : Option X :=
grd (CV.isA 10 x2) <|
grd (CV.isI .i64 (CV.cellD 0 x2)) <|
grd (CV.isI .i64 (CV.cellD 1 x2)) <|
grd (CV.isB (CV.cellD 2 x2)) <|
grd (CV.isB (CV.cellD 3 x2)) <|
grd (CV.isI .i64 (CV.cellD 4 x2)) <|
grd (CV.isI .i64 (CV.cellD 5 x2)) <|
grd (CV.isI .i64 (CV.cellD 6 x2)) <|
grd (CV.isB (CV.cellD 7 x2)) <|
grd (CV.isB (CV.cellD 8 x2)) <|
grd (CV.isB (CV.cellD 9 x2)) <|
R_f33 _ (fun u1 =>
(bif (decide (u1.1 < 0)) then
K (false, u1.2.1, (List.take (0 + u1.2.1) u1.2.2))
else
grd (decide (0 ≤ u1.1)) <|
grd (decide (u1.1 < (Nat.cast (u1.2.1) : Int))) <|
Option.bind (u1.2.2)[(0 + (Int.toNat u1.1))]? fun e2 =>
(setRun e2 3 10 [(CV.int .i64 (CV.toI (CV.cellD 0 x2))), (CV.int .i64 (CV.toI (CV.cellD 1 x2))), (CV.bool (CV.toB (CV.cellD 2 x2))), (CV.bool (CV.toB (CV.cellD 3 x2))), (CV.int .i64 (CV.toI (CV.cellD 4 x2))), (CV.int .i64 (CV.toI (CV.cellD 5 x2))), (CV.int .i64 (CV.toI (CV.cellD 6 x2))), (CV.bool (CV.toB (CV.cellD 7 x2))), (CV.bool (CV.toB (CV.cellD 8 x2))), (CV.bool (CV.toB (CV.cellD 9 x2)))] fun d3 =>
K (true, u1.2.1, (List.take (0 + u1.2.1) (List.set u1.2.2 (0 + (Int.toNat u1.1)) d3)))))) (x0) (x1) (x3) (x4)
/-- "(*outpost/watch.Table).Turn" -/
def f24_A (R_f33 : f33_R) (k : Nat) : f24_R := fun X K x0 x1 x2 x3 x4 => f24_T R_f33 k K  x0 x1 x2 x3 x4
set_option maxRecDepth 100000 in
theorem f24_ev' {X : Type} (R_f33 : f33_R) (hR_f33 : AnsOk Try.prog 33 (f33_cOf R_f33)) (k : Nat) (K : Out → Option X) (x0 : Int) (x1 : List CV) (x2 : CV) (x3 : Nat) (x4 : List CV) : evFn (f24_cx R_f33 hR_f33) [] k Try.f24.ntmps Try.f24.results.toList (Try.f24.body.getD .skip) [(.ptr [1000] 0 0 0), (.v (CV.int .i64 x0)), (.sl true none x1), (.v x2)] [([1000], (.obj [(.osl [0, 1000] (some 21) 0 x3)])), ([0, 1000], (.row false (some 21) x4))] K = f24_T R_f33 k (fun u => K (f24_out u)) x0 x1 x2 x3 x4 := by kernel_rfl
theorem f24_ev {X : Type} (R_f33 : f33_R) (hR_f33 : AnsOk Try.prog 33 (f33_cOf R_f33)) (k : Nat) (K : Out → Option X) (x0 : Int) (x1 : List CV) (x2 : CV) (x3 : Nat) (x4 : List CV) : evFn (f24_cx R_f33 hR_f33) [] k Try.f24.ntmps Try.f24.results.toList (Try.f24.body.getD .skip) [(.ptr [1000] 0 0 0), (.v (CV.int .i64 x0)), (.sl true none x1), (.v x2)] [([1000], (.obj [(.osl [0, 1000] (some 21) 0 x3)])), ([0, 1000], (.row false (some 21) x4))] K = f24_A R_f33 k X (fun u => K (f24_out u)) x0 x1 x2 x3 x4 := (f24_ev' R_f33 hR_f33 k K x0 x1 x2 x3 x4).trans rfl
theorem f24_okA (R_f33 : f33_R) (hR_f33 : AnsOk Try.prog 33 (f33_cOf R_f33)) (k : Nat) : AnsOk Try.prog 24 (f24_cOf (f24_A R_f33 k)) := by
  intro X xs ns K x h
  unfold f24_cOf at h ⊢
  split at h
  · exact ans_main S (f24_Cok R_f33 hR_f33) Try.func24 (ent_of Try.func24 (by kernel_rfl) rfl) rfl (fun X K => f24_ev R_f33 hR_f33 k K _ _ _ _ _) h
  · cases h
/-- "(*outpost/watch.Table).Turn" -/
def f24 {X : Type} (k : Nat) (K : Bool × Nat × (List CV) → Option X) (x0 : Int) (x1 : List CV) (x2 : CV) (x3 : Nat) (x4 : List CV) : Option X := f24_A (fun X => @f33 X k) k X K x0 x1 x2 x3 x4
theorem f24_ok (k : Nat) : AnsOk Try.prog 24 (f24_cOf (fun X => @f24 X k)) := f24_okA (fun X => @f33 X k) (f33_ok k) k
abbrev f52_R : Type 1 := (X : Type) → (Bool → Option X) → CV → Option X
def f52_out (u : Bool) : Out := ⟨(.v (CV.bool u)), []⟩
def f52_cOf (R : f52_R) : FnC := fun X xs ns K => match xs, ns with
  | [(.v x0)], [] => R X (fun u => K (f52_out u)) x0
  | _, _ => none
def f52_plan : Nat → Option (List Nat × List Wk)
  | 0 => some ([0], [])
  | 1 => some ([1], [])
  | _ => none
def f52_C : Fns := noC
theorem f52_Cok : CsOk Try.prog (f52_C) := noC_ok
def f52_cx : Cx := mkCx (tabOf rows) (f52_C) md (cmpIn cmps) f52_plan (f52_Cok)
def f52_T {X : Type} (k : Nat) (K : Bool → Option X)  (x0 : CV) : Option X :=
grd (CV.isA 6 x0) <|
grd (CV.isI .i64 (CV.cellD 0 x0)) <|
grd (CV.isI .i64 (CV.cellD 1 x0)) <|
grd (CV.isS (CV.cellD 2 x0)) <|
grd (CV.isL none (CV.cellD 3 x0)) <|
grd (CV.isI .i64 (CV.cellD 4 x0)) <|
grd (CV.isI .i64 (CV.cellD 5 x0)) <|
(bif ((CV.toI (CV.cellD 0 x0)) == 1) then
K (true)
else
(bif ((CV.toI (CV.cellD 0 x0)) == 2) then
K (true)
else
K (((CV.toI (CV.cellD 0 x0)) == 5))))
/-- "outpost/outpostref21.number" -/
def f52_A (k : Nat) : f52_R := fun X K x0 => f52_T k K  x0
set_option maxRecDepth 100000 in
theorem f52_ev' {X : Type} (k : Nat) (K : Out → Option X) (x0 : CV) : evFn (f52_cx) [] k Try.f52.ntmps Try.f52.results.toList (Try.f52.body.getD .skip) [(.v x0)] [] K = f52_T k (fun u => K (f52_out u)) x0 := by kernel_rfl
theorem f52_ev {X : Type} (k : Nat) (K : Out → Option X) (x0 : CV) : evFn (f52_cx) [] k Try.f52.ntmps Try.f52.results.toList (Try.f52.body.getD .skip) [(.v x0)] [] K = f52_A k X (fun u => K (f52_out u)) x0 := (f52_ev' k K x0).trans rfl
theorem f52_okA (k : Nat) : AnsOk Try.prog 52 (f52_cOf (f52_A k)) := by
  intro X xs ns K x h
  unfold f52_cOf at h ⊢
  split at h
  · exact ans_main S (f52_Cok) Try.func52 (ent_of Try.func52 (by kernel_rfl) rfl) rfl (fun X K => f52_ev k K _) h
  · cases h
/-- "outpost/outpostref21.number" -/
def f52 {X : Type} (k : Nat) (K : Bool → Option X) (x0 : CV) : Option X := f52_A k X K x0
theorem f52_ok (k : Nat) : AnsOk Try.prog 52 (f52_cOf (fun X => @f52 X k)) := f52_okA k
abbrev f46_R : Type 1 := (X : Type) → (Bool → Option X) → CV → CV → Int → Option X
def f46_out (u : Bool) : Out := ⟨(.v (CV.bool u)), []⟩
def f46_cOf (R : f46_R) : FnC := fun X xs ns K => match xs, ns with
  | [(.v x0), (.v x1), (.v (CV.int .i64 x2))], [] => R X (fun u => K (f46_out u)) x0 x1 x2
  | _, _ => none
def f46_plan : Nat → Option (List Nat × List Wk)
  | 0 => some ([0, 1, 2], [])
  | 1 => some ([2, 3, 4], [])
  | 2 => some ([3, 4], [])
  | 3 => some ([2, 3, 4], [])
  | 4 => some ([3, 4, 7], [])
  | 5 => some ([], [])
  | 6 => some ([3, 4, 7], [])
  | 7 => some ([], [])
  | 8 => some ([3, 4], [])
  | 9 => some ([], [])
  | 10 => some ([3, 4], [])
  | 11 => some ([3, 4, 8], [])
  | 12 => some ([], [])
  | 13 => some ([3, 4, 8], [])
  | 14 => some ([8, 9, 10], [])
  | 15 => some ([8, 9, 10], [])
  | 16 => some ([8, 9, 10], [])
  | 17 => some ([], [])
  | 18 => some ([8, 9, 10], [])
  | 19 => some ([8, 11], [])
  | 20 => some ([8], [])
  | 21 => some ([8, 11], [])
  | _ => none
def f46_C (R_f15 : f15_R) (R_f52 : f52_R) : Fns := (orC 15 (f15_cOf R_f15) (orC 52 (f52_cOf R_f52) noC))
theorem f46_Cok (R_f15 : f15_R) (R_f52 : f52_R) (hR_f15 : AnsOk Try.prog 15 (f15_cOf R_f15)) (hR_f52 : AnsOk Try.prog 52 (f52_cOf R_f52)) : CsOk Try.prog (f46_C R_f15 R_f52) := (orC_ok hR_f15 (orC_ok hR_f52 noC_ok))
def f46_cx (R_f15 : f15_R) (R_f52 : f52_R) (hR_f15 : AnsOk Try.prog 15 (f15_cOf R_f15)) (hR_f52 : AnsOk Try.prog 52 (f52_cOf R_f52)) : Cx := mkCx (tabOf rows) (f46_C R_f15 R_f52) md (cmpIn cmps) f46_plan (f46_Cok R_f15 R_f52 hR_f15 hR_f52)
def f46_J1 {X : Type} (R_f15 : f15_R) (R_f52 : f52_R) (k : Nat) (K : Bool → Option X) (x0 : CV) (v15 : Int) : Option X :=
(bif (CV.toB (CV.cellD 12 x0)) then
K ((decide ((IntKind.wrap .i64 v15) ≥ (CV.toI (CV.cellD 9 x0)))))
else
K (false))
def f46_J2 {X : Type} (R_f15 : f15_R) (R_f52 : f52_R) (k : Nat) (K : Bool → Option X) (v13 : Int × Int) (x0 : CV) (v14 : Unit) : Option X :=
(bif (decide ((IntKind.wrap .u64 ((IntKind.wrap .u64 v13.2) - (IntKind.wrap .u64 v13.1))) > 9223372036854775807)) then
f46_J1 R_f15 R_f52 k K x0 (9223372036854775807)
else
f46_J1 R_f15 R_f52 k K x0 ((IntKind.wrap .u64 ((IntKind.wrap .u64 v13.2) - (IntKind.wrap .u64 v13.1)))))
def f46_J3 {X : Type} (R_f15 : f15_R) (R_f52 : f52_R) (k : Nat) (K : Bool → Option X) (x0 : CV) (v13 : Int × Int) : Option X :=
(bif (CV.toB (CV.cellD 10 x0)) then
(bif (decide (v13.1 ≤ (CV.toI (CV.cellD 7 x0)))) then
(bif (decide (v13.2 > (CV.toI (CV.cellD 7 x0)))) then
K (true)
else
(bif (CV.toB (CV.cellD 11 x0)) then
(bif (decide (v13.1 < (CV.toI (CV.cellD 8 x0)))) then
(bif (decide (v13.2 ≥ (CV.toI (CV.cellD 8 x0)))) then
K (true)
else
f46_J2 R_f15 R_f52 k K v13 x0 (()))
else
f46_J2 R_f15 R_f52 k K v13 x0 (()))
else
f46_J2 R_f15 R_f52 k K v13 x0 (())))
else
(bif (CV.toB (CV.cellD 11 x0)) then
(bif (decide (v13.1 < (CV.toI (CV.cellD 8 x0)))) then
(bif (decide (v13.2 ≥ (CV.toI (CV.cellD 8 x0)))) then
K (true)
else
f46_J2 R_f15 R_f52 k K v13 x0 (()))
else
f46_J2 R_f15 R_f52 k K v13 x0 (()))
else
f46_J2 R_f15 R_f52 k K v13 x0 (())))
else
(bif (CV.toB (CV.cellD 11 x0)) then
(bif (decide (v13.1 < (CV.toI (CV.cellD 8 x0)))) then
(bif (decide (v13.2 ≥ (CV.toI (CV.cellD 8 x0)))) then
K (true)
else
f46_J2 R_f15 R_f52 k K v13 x0 (()))
else
f46_J2 R_f15 R_f52 k K v13 x0 (()))
else
f46_J2 R_f15 R_f52 k K v13 x0 (())))
def f46_J4 {X : Type} (R_f15 : f15_R) (R_f52 : f52_R) (k : Nat) (K : Bool → Option X) (v1 : Int × Int × Int × ByteArray × (List CV) × Int × Int) (x0 : CV) (v12 : Unit) : Option X :=
(bif (decide ((CV.toI (CV.cellD 14 x0)) > v1.2.2.1)) then
f46_J3 R_f15 R_f52 k K x0 (v1.2.2.1, (CV.toI (CV.cellD 14 x0)))
else
f46_J3 R_f15 R_f52 k K x0 ((CV.toI (CV.cellD 14 x0)), v1.2.2.1))
def f46_J5 {X : Type} (R_f15 : f15_R) (R_f52 : f52_R) (k : Nat) (K : Bool → Option X) (v1 : Int × Int × Int × ByteArray × (List CV) × Int × Int) (x0 : CV) (v3 : Unit) : Option X :=
R_f15 _ (fun u5 =>
(bif u5 then
K (false)
else
(bif (!(CV.toB (CV.cellD 10 x0))) then
(bif (!(CV.toB (CV.cellD 11 x0))) then
(bif (!(CV.toB (CV.cellD 12 x0))) then
K (true)
else
R_f52 _ (fun u16 =>
(bif (!u16) then
K (true)
else
R_f52 _ (fun u17 =>
(bif (!u17) then
K (true)
else
f46_J4 R_f15 R_f52 k K v1 x0 (()))) ((CV.agg [(CV.int .i64 v1.2.1), (CV.int .i64 v1.2.2.1), (CV.str v1.2.2.2.1), (CV.slc none v1.2.2.2.2.1), (CV.int .i64 v1.2.2.2.2.2.1), (CV.int .i64 v1.2.2.2.2.2.2)])))) ((CV.agg [(CV.int .i64 (CV.toI (CV.cellD 13 x0))), (CV.int .i64 (CV.toI (CV.cellD 14 x0))), (CV.str (CV.toS (CV.cellD 15 x0))), (CV.slc none (CV.toL (CV.cellD 16 x0))), (CV.int .i64 (CV.toI (CV.cellD 17 x0))), (CV.int .i64 (CV.toI (CV.cellD 18 x0)))])))
else
R_f52 _ (fun u18 =>
(bif (!u18) then
K (true)
else
R_f52 _ (fun u19 =>
(bif (!u19) then
K (true)
else
f46_J4 R_f15 R_f52 k K v1 x0 (()))) ((CV.agg [(CV.int .i64 v1.2.1), (CV.int .i64 v1.2.2.1), (CV.str v1.2.2.2.1), (CV.slc none v1.2.2.2.2.1), (CV.int .i64 v1.2.2.2.2.2.1), (CV.int .i64 v1.2.2.2.2.2.2)])))) ((CV.agg [(CV.int .i64 (CV.toI (CV.cellD 13 x0))), (CV.int .i64 (CV.toI (CV.cellD 14 x0))), (CV.str (CV.toS (CV.cellD 15 x0))), (CV.slc none (CV.toL (CV.cellD 16 x0))), (CV.int .i64 (CV.toI (CV.cellD 17 x0))), (CV.int .i64 (CV.toI (CV.cellD 18 x0)))])))
else
R_f52 _ (fun u20 =>
(bif (!u20) then
K (true)
else
R_f52 _ (fun u21 =>
(bif (!u21) then
K (true)
else
f46_J4 R_f15 R_f52 k K v1 x0 (()))) ((CV.agg [(CV.int .i64 v1.2.1), (CV.int .i64 v1.2.2.1), (CV.str v1.2.2.2.1), (CV.slc none v1.2.2.2.2.1), (CV.int .i64 v1.2.2.2.2.2.1), (CV.int .i64 v1.2.2.2.2.2.2)])))) ((CV.agg [(CV.int .i64 (CV.toI (CV.cellD 13 x0))), (CV.int .i64 (CV.toI (CV.cellD 14 x0))), (CV.str (CV.toS (CV.cellD 15 x0))), (CV.slc none (CV.toL (CV.cellD 16 x0))), (CV.int .i64 (CV.toI (CV.cellD 17 x0))), (CV.int .i64 (CV.toI (CV.cellD 18 x0)))]))))) ((CV.agg [(CV.int .i64 (CV.toI (CV.cellD 13 x0))), (CV.int .i64 (CV.toI (CV.cellD 14 x0))), (CV.str (CV.toS (CV.cellD 15 x0))), (CV.slc none (CV.toL (CV.cellD 16 x0))), (CV.int .i64 (CV.toI (CV.cellD 17 x0))), (CV.int .i64 (CV.toI (CV.cellD 18 x0)))])) ((CV.agg [(CV.int .i64 v1.2.1), (CV.int .i64 v1.2.2.1), (CV.str v1.2.2.2.1), (CV.slc none v1.2.2.2.2.1), (CV.int .i64 v1.2.2.2.2.2.1), (CV.int .i64 v1.2.2.2.2.2.2)]))
def f46_J6 {X : Type} (R_f15 : f15_R) (R_f52 : f52_R) (k : Nat) (K : Bool → Option X) (v1 : Int × Int × Int × ByteArray × (List CV) × Int × Int) (x0 : CV) (v2 : Unit) : Option X :=
(bif (CV.toB (CV.cellD 6 x0)) then
(bif (decide ((CV.toI (CV.cellD 4 x0)) > 0)) then
(bif (decide ((IntKind.wrap .i64 (v1.1 - (CV.toI (CV.cellD 19 x0)))) ≥ (CV.toI (CV.cellD 4 x0)))) then
K (true)
else
f46_J5 R_f15 R_f52 k K v1 x0 (()))
else
f46_J5 R_f15 R_f52 k K v1 x0 (()))
else
f46_J5 R_f15 R_f52 k K v1 x0 (()))
def f46_J7 {X : Type} (R_f15 : f15_R) (R_f52 : f52_R) (k : Nat) (K : Bool → Option X) (x0 : CV) (v1 : Int × Int × Int × ByteArray × (List CV) × Int × Int) : Option X :=
(bif (decide ((IntKind.wrap .i64 (v1.1 - (CV.toI (CV.cellD 19 x0)))) < 1)) then
K (false)
else
(bif (CV.toB (CV.cellD 5 x0)) then
(bif (decide ((IntKind.wrap .i64 (v1.1 - (CV.toI (CV.cellD 19 x0)))) < (CV.toI (CV.cellD 3 x0)))) then
K (false)
else
f46_J6 R_f15 R_f52 k K v1 x0 (()))
else
f46_J6 R_f15 R_f52 k K v1 x0 (())))
def f46_T {X : Type} (R_f15 : f15_R) (R_f52 : f52_R) (k : Nat) (K : Bool → Option X)  (x0 : CV) (x1 : CV) (x2 : Int) : Option X :=
grd (CV.isA 21 x0) <|
grd (CV.isI .i64 (CV.cellD 0 x0)) <|
grd (CV.isL none (CV.cellD 1 x0)) <|
grd (CV.isL none (CV.cellD 2 x0)) <|
grd (CV.isI .i64 (CV.cellD 3 x0)) <|
grd (CV.isI .i64 (CV.cellD 4 x0)) <|
grd (CV.isB (CV.cellD 5 x0)) <|
grd (CV.isB (CV.cellD 6 x0)) <|
grd (CV.isI .i64 (CV.cellD 7 x0)) <|
grd (CV.isI .i64 (CV.cellD 8 x0)) <|
grd (CV.isI .i64 (CV.cellD 9 x0)) <|
grd (CV.isB (CV.cellD 10 x0)) <|
grd (CV.isB (CV.cellD 11 x0)) <|
grd (CV.isB (CV.cellD 12 x0)) <|
grd (CV.isI .i64 (CV.cellD 13 x0)) <|
grd (CV.isI .i64 (CV.cellD 14 x0)) <|
grd (CV.isS (CV.cellD 15 x0)) <|
grd (CV.isL none (CV.cellD 16 x0)) <|
grd (CV.isI .i64 (CV.cellD 17 x0)) <|
grd (CV.isI .i64 (CV.cellD 18 x0)) <|
grd (CV.isI .i64 (CV.cellD 19 x0)) <|
grd (CV.isI .i64 (CV.cellD 20 x0)) <|
grd (CV.isA 6 x1) <|
grd (CV.isI .i64 (CV.cellD 0 x1)) <|
grd (CV.isI .i64 (CV.cellD 1 x1)) <|
grd (CV.isS (CV.cellD 2 x1)) <|
grd (CV.isL none (CV.cellD 3 x1)) <|
grd (CV.isI .i64 (CV.cellD 4 x1)) <|
grd (CV.isI .i64 (CV.cellD 5 x1)) <|
(bif (decide (x2 < (CV.toI (CV.cellD 19 x0)))) then
f46_J7 R_f15 R_f52 k K x0 ((CV.toI (CV.cellD 19 x0)), (CV.toI (CV.cellD 0 x1)), (CV.toI (CV.cellD 1 x1)), (CV.toS (CV.cellD 2 x1)), (CV.toL (CV.cellD 3 x1)), (CV.toI (CV.cellD 4 x1)), (CV.toI (CV.cellD 5 x1)))
else
f46_J7 R_f15 R_f52 k K x0 (x2, (CV.toI (CV.cellD 0 x1)), (CV.toI (CV.cellD 1 x1)), (CV.toS (CV.cellD 2 x1)), (CV.toL (CV.cellD 3 x1)), (CV.toI (CV.cellD 4 x1)), (CV.toI (CV.cellD 5 x1))))
/-- "outpost/outpostref21.Due" -/
def f46_A (R_f15 : f15_R) (R_f52 : f52_R) (k : Nat) : f46_R := fun X K x0 x1 x2 => f46_T R_f15 R_f52 k K  x0 x1 x2
set_option maxRecDepth 100000 in
theorem f46_ev' {X : Type} (R_f15 : f15_R) (R_f52 : f52_R) (hR_f15 : AnsOk Try.prog 15 (f15_cOf R_f15)) (hR_f52 : AnsOk Try.prog 52 (f52_cOf R_f52)) (k : Nat) (K : Out → Option X) (x0 : CV) (x1 : CV) (x2 : Int) : evFn (f46_cx R_f15 R_f52 hR_f15 hR_f52) [] k Try.f46.ntmps Try.f46.results.toList (Try.f46.body.getD .skip) [(.v x0), (.v x1), (.v (CV.int .i64 x2))] [] K = f46_T R_f15 R_f52 k (fun u => K (f46_out u)) x0 x1 x2 := by kernel_rfl
theorem f46_ev {X : Type} (R_f15 : f15_R) (R_f52 : f52_R) (hR_f15 : AnsOk Try.prog 15 (f15_cOf R_f15)) (hR_f52 : AnsOk Try.prog 52 (f52_cOf R_f52)) (k : Nat) (K : Out → Option X) (x0 : CV) (x1 : CV) (x2 : Int) : evFn (f46_cx R_f15 R_f52 hR_f15 hR_f52) [] k Try.f46.ntmps Try.f46.results.toList (Try.f46.body.getD .skip) [(.v x0), (.v x1), (.v (CV.int .i64 x2))] [] K = f46_A R_f15 R_f52 k X (fun u => K (f46_out u)) x0 x1 x2 := (f46_ev' R_f15 R_f52 hR_f15 hR_f52 k K x0 x1 x2).trans rfl
theorem f46_okA (R_f15 : f15_R) (R_f52 : f52_R) (hR_f15 : AnsOk Try.prog 15 (f15_cOf R_f15)) (hR_f52 : AnsOk Try.prog 52 (f52_cOf R_f52)) (k : Nat) : AnsOk Try.prog 46 (f46_cOf (f46_A R_f15 R_f52 k)) := by
  intro X xs ns K x h
  unfold f46_cOf at h ⊢
  split at h
  · exact ans_main S (f46_Cok R_f15 R_f52 hR_f15 hR_f52) Try.func46 (ent_of Try.func46 (by kernel_rfl) rfl) rfl (fun X K => f46_ev R_f15 R_f52 hR_f15 hR_f52 k K _ _ _) h
  · cases h
/-- "outpost/outpostref21.Due" -/
def f46 {X : Type} (k : Nat) (K : Bool → Option X) (x0 : CV) (x1 : CV) (x2 : Int) : Option X := f46_A (fun X => @f15 X k) (fun X => @f52 X k) k X K x0 x1 x2
theorem f46_ok (k : Nat) : AnsOk Try.prog 46 (f46_cOf (fun X => @f46 X k)) := f46_okA (fun X => @f15 X k) (fun X => @f52 X k) (f15_ok k) (f52_ok k) k
abbrev f25_R : Type 1 := (X : Type) → (Nat × Nat × (List CV) × (List CV) → Option X) → (List CV) → (List CV) → Int → Option X
def f25_out (u : Nat × Nat × (List CV) × (List CV)) : Out := ⟨(.tup [(.osl [0, 2000] (some 21) 0 u.1), (.osl [1, 2000] (some 21) 0 u.2.1)]), [([0, 2000], (.row false (some 21) u.2.2.1)), ([1, 2000], (.row false (some 21) u.2.2.2))]⟩
def f25_cOf (R : f25_R) : FnC := fun X xs ns K => match xs, ns with
  | [(.sl false (some 21) x0), (.sl false (some 6) x1), (.v (CV.int .i64 x2))], [] => R X (fun u => K (f25_out u)) x0 x1 x2
  | _, _ => none
def f25_plan : Nat → Option (List Nat × List Wk)
  | 0 => some ([0, 1, 2], [])
  | 1 => some ([0, 1, 2], [])
  | 2 => some ([0, 1, 2], [])
  | 3 => some ([0, 1, 2, 8, 9], [])
  | 4 => some ([0, 1, 2, 8, 9, 10], [])
  | 5 => some ([0, 1, 2, 8, 9, 10], [])
  | 6 => some ([0, 1, 2, 8, 9, 10], [])
  | 7 => some ([0, 1, 2, 8, 9, 10, 11], [])
  | 8 => some ([0, 1, 2, 8, 9, 10, 11, 12], [])
  | 9 => some ([0, 1, 2, 8, 9, 10, 11, 12], [])
  | 10 => some ([0, 1, 2, 8, 9, 10, 11, 12], [])
  | 11 => some ([0, 1, 2, 8, 9, 10, 11, 12], [])
  | 12 => some ([0, 1, 2, 8, 9, 10, 11], [])
  | 13 => some ([0, 1, 2, 8, 9, 10, 11], [])
  | 14 => some ([0, 1, 2, 8, 9, 10, 11], [])
  | 15 => some ([0, 1, 2, 8, 9, 10, 11], [])
  | 16 => some ([8, 9], [])
  | _ => none
def f25_C (R_f36 : f36_R) (R_f46 : f46_R) : Fns := (orC 36 (f36_cOf R_f36) (orC 46 (f46_cOf R_f46) noC))
theorem f25_Cok (R_f36 : f36_R) (R_f46 : f46_R) (hR_f36 : AnsOk Try.prog 36 (f36_cOf R_f36)) (hR_f46 : AnsOk Try.prog 46 (f46_cOf R_f46)) : CsOk Try.prog (f25_C R_f36 R_f46) := (orC_ok hR_f36 (orC_ok hR_f46 noC_ok))
def f25_cx (R_f36 : f36_R) (R_f46 : f46_R) (hR_f36 : AnsOk Try.prog 36 (f36_cOf R_f36)) (hR_f46 : AnsOk Try.prog 46 (f46_cOf R_f46)) : Cx := mkCx (tabOf rows) (f25_C R_f36 R_f46) md (cmpIn cmps) f25_plan (f25_Cok R_f36 R_f46 hR_f36 hR_f46)
def f25_S1 (v : (List CV) × (List CV) × Int × Nat × Nat × Int × (List CV) × (List CV)) : St := ⟨[(.sl false (some 21) v.1), (.sl false (some 6) v.2.1), (.v (CV.int .i64 v.2.2.1)), .undef, .undef, .undef, .undef, .undef, (.osl [8] (some 21) 0 v.2.2.2.1), (.osl [9] (some 21) 0 v.2.2.2.2.1), (.v (CV.int .i64 v.2.2.2.2.2.1)), .undef, .undef, .undef, .undef, .undef, .undef, .undef, .undef, .undef, .undef, .undef, .undef, .undef, .undef, .undef, .undef, .undef, .undef, .undef, .undef, .undef, .undef, .undef, .undef, .undef, .undef, .undef, .undef, .undef, .undef, .undef, .undef, .undef, .undef, .undef, .undef, .undef, .undef, .undef, .undef, .undef, .undef, .undef, .undef, .undef, .undef, .undef, .undef, .undef], [([8], (.row false (some 21) v.2.2.2.2.2.2.1)), ([9], (.row false (some 21) v.2.2.2.2.2.2.2))]⟩
def f25_J1 {X : Type} (R_f36 : f36_R) (R_f46 : f46_R) (k : Nat) (K : Nat × Nat × (List CV) × (List CV) → Option X) (e18 : CV) (rec1 : (List CV) × (List CV) × Int × Nat × Nat × Int × (List CV) × (List CV) → Option X) (v6_1 : (List CV) × (List CV) × Int × Nat × Nat × Int × (List CV) × (List CV)) (v22 : Nat × (List CV) × Int × Int × ByteArray × (List CV) × Int × Int × Int × Int) : Option X :=
grd (decide ((v6_1.2.2.2.1 + (List.length (List.take 1 (List.drop 0 [(CV.agg [(CV.int .i64 (CV.toI (CV.cellD 0 e18))), (CV.slc none (CV.toL (CV.cellD 1 e18))), (CV.slc none (CV.toL (CV.cellD 2 e18))), (CV.int .i64 (CV.toI (CV.cellD 3 e18))), (CV.int .i64 (CV.toI (CV.cellD 4 e18))), (CV.bool (CV.toB (CV.cellD 5 e18))), (CV.bool (CV.toB (CV.cellD 6 e18))), (CV.int .i64 (CV.toI (CV.cellD 7 e18))), (CV.int .i64 (CV.toI (CV.cellD 8 e18))), (CV.int .i64 (CV.toI (CV.cellD 9 e18))), (CV.bool (CV.toB (CV.cellD 10 e18))), (CV.bool (CV.toB (CV.cellD 11 e18))), (CV.bool (CV.toB (CV.cellD 12 e18))), (CV.int .i64 v22.2.2.1), (CV.int .i64 v22.2.2.2.1), (CV.str v22.2.2.2.2.1), (CV.slc none v22.2.2.2.2.2.1), (CV.int .i64 v22.2.2.2.2.2.2.1), (CV.int .i64 v22.2.2.2.2.2.2.2.1), (CV.int .i64 v22.2.2.2.2.2.2.2.2.1), (CV.int .i64 v22.2.2.2.2.2.2.2.2.2)])])))) * 200 ≤ 140737488355328)) <|
rec1 (v6_1.1, v6_1.2.1, v6_1.2.2.1, (v6_1.2.2.2.1 + (List.length (List.take 1 (List.drop 0 [(CV.agg [(CV.int .i64 (CV.toI (CV.cellD 0 e18))), (CV.slc none (CV.toL (CV.cellD 1 e18))), (CV.slc none (CV.toL (CV.cellD 2 e18))), (CV.int .i64 (CV.toI (CV.cellD 3 e18))), (CV.int .i64 (CV.toI (CV.cellD 4 e18))), (CV.bool (CV.toB (CV.cellD 5 e18))), (CV.bool (CV.toB (CV.cellD 6 e18))), (CV.int .i64 (CV.toI (CV.cellD 7 e18))), (CV.int .i64 (CV.toI (CV.cellD 8 e18))), (CV.int .i64 (CV.toI (CV.cellD 9 e18))), (CV.bool (CV.toB (CV.cellD 10 e18))), (CV.bool (CV.toB (CV.cellD 11 e18))), (CV.bool (CV.toB (CV.cellD 12 e18))), (CV.int .i64 v22.2.2.1), (CV.int .i64 v22.2.2.2.1), (CV.str v22.2.2.2.2.1), (CV.slc none v22.2.2.2.2.2.1), (CV.int .i64 v22.2.2.2.2.2.2.1), (CV.int .i64 v22.2.2.2.2.2.2.2.1), (CV.int .i64 v22.2.2.2.2.2.2.2.2.1), (CV.int .i64 v22.2.2.2.2.2.2.2.2.2)])])))), v22.1, (IntKind.wrap .i64 (v6_1.2.2.2.2.2.1 + 1)), ((List.take v6_1.2.2.2.1 v6_1.2.2.2.2.2.2.1) ++ (List.take 1 (List.drop 0 [(CV.agg [(CV.int .i64 (CV.toI (CV.cellD 0 e18))), (CV.slc none (CV.toL (CV.cellD 1 e18))), (CV.slc none (CV.toL (CV.cellD 2 e18))), (CV.int .i64 (CV.toI (CV.cellD 3 e18))), (CV.int .i64 (CV.toI (CV.cellD 4 e18))), (CV.bool (CV.toB (CV.cellD 5 e18))), (CV.bool (CV.toB (CV.cellD 6 e18))), (CV.int .i64 (CV.toI (CV.cellD 7 e18))), (CV.int .i64 (CV.toI (CV.cellD 8 e18))), (CV.int .i64 (CV.toI (CV.cellD 9 e18))), (CV.bool (CV.toB (CV.cellD 10 e18))), (CV.bool (CV.toB (CV.cellD 11 e18))), (CV.bool (CV.toB (CV.cellD 12 e18))), (CV.int .i64 v22.2.2.1), (CV.int .i64 v22.2.2.2.1), (CV.str v22.2.2.2.2.1), (CV.slc none v22.2.2.2.2.2.1), (CV.int .i64 v22.2.2.2.2.2.2.1), (CV.int .i64 v22.2.2.2.2.2.2.2.1), (CV.int .i64 v22.2.2.2.2.2.2.2.2.1), (CV.int .i64 v22.2.2.2.2.2.2.2.2.2)])]))), v22.2.1)
def f25_J2 {X : Type} (R_f36 : f36_R) (R_f46 : f46_R) (k : Nat) (K : Nat × Nat × (List CV) × (List CV) → Option X) (e18 : CV) (rec1 : (List CV) × (List CV) × Int × Nat × Nat × Int × (List CV) × (List CV) → Option X) (v6_1 : (List CV) × (List CV) × Int × Nat × Nat × Int × (List CV) × (List CV)) (v20 : Int × Int × ByteArray × (List CV) × Int × Int) : Option X :=
R_f46 _ (fun u23 =>
(bif u23 then
grd (decide ((v6_1.2.2.2.2.1 + (List.length (List.take 1 (List.drop 0 [(CV.agg [(CV.int .i64 (CV.toI (CV.cellD 0 e18))), (CV.slc none (CV.toL (CV.cellD 1 e18))), (CV.slc none (CV.toL (CV.cellD 2 e18))), (CV.int .i64 (CV.toI (CV.cellD 3 e18))), (CV.int .i64 (CV.toI (CV.cellD 4 e18))), (CV.bool (CV.toB (CV.cellD 5 e18))), (CV.bool (CV.toB (CV.cellD 6 e18))), (CV.int .i64 (CV.toI (CV.cellD 7 e18))), (CV.int .i64 (CV.toI (CV.cellD 8 e18))), (CV.int .i64 (CV.toI (CV.cellD 9 e18))), (CV.bool (CV.toB (CV.cellD 10 e18))), (CV.bool (CV.toB (CV.cellD 11 e18))), (CV.bool (CV.toB (CV.cellD 12 e18))), (CV.int .i64 v20.1), (CV.int .i64 v20.2.1), (CV.str v20.2.2.1), (CV.slc none v20.2.2.2.1), (CV.int .i64 v20.2.2.2.2.1), (CV.int .i64 v20.2.2.2.2.2), (CV.int .i64 v6_1.2.2.1), (CV.int .i64 (Int.tmod (IntKind.wrap .i64 ((CV.toI (CV.cellD 20 e18)) + 1)) 16777216))])])))) * 200 ≤ 140737488355328)) <|
f25_J1 R_f36 R_f46 k K e18 rec1 v6_1 ((v6_1.2.2.2.2.1 + (List.length (List.take 1 (List.drop 0 [(CV.agg [(CV.int .i64 (CV.toI (CV.cellD 0 e18))), (CV.slc none (CV.toL (CV.cellD 1 e18))), (CV.slc none (CV.toL (CV.cellD 2 e18))), (CV.int .i64 (CV.toI (CV.cellD 3 e18))), (CV.int .i64 (CV.toI (CV.cellD 4 e18))), (CV.bool (CV.toB (CV.cellD 5 e18))), (CV.bool (CV.toB (CV.cellD 6 e18))), (CV.int .i64 (CV.toI (CV.cellD 7 e18))), (CV.int .i64 (CV.toI (CV.cellD 8 e18))), (CV.int .i64 (CV.toI (CV.cellD 9 e18))), (CV.bool (CV.toB (CV.cellD 10 e18))), (CV.bool (CV.toB (CV.cellD 11 e18))), (CV.bool (CV.toB (CV.cellD 12 e18))), (CV.int .i64 v20.1), (CV.int .i64 v20.2.1), (CV.str v20.2.2.1), (CV.slc none v20.2.2.2.1), (CV.int .i64 v20.2.2.2.2.1), (CV.int .i64 v20.2.2.2.2.2), (CV.int .i64 v6_1.2.2.1), (CV.int .i64 (Int.tmod (IntKind.wrap .i64 ((CV.toI (CV.cellD 20 e18)) + 1)) 16777216))])])))), ((List.take v6_1.2.2.2.2.1 v6_1.2.2.2.2.2.2.2) ++ (List.take 1 (List.drop 0 [(CV.agg [(CV.int .i64 (CV.toI (CV.cellD 0 e18))), (CV.slc none (CV.toL (CV.cellD 1 e18))), (CV.slc none (CV.toL (CV.cellD 2 e18))), (CV.int .i64 (CV.toI (CV.cellD 3 e18))), (CV.int .i64 (CV.toI (CV.cellD 4 e18))), (CV.bool (CV.toB (CV.cellD 5 e18))), (CV.bool (CV.toB (CV.cellD 6 e18))), (CV.int .i64 (CV.toI (CV.cellD 7 e18))), (CV.int .i64 (CV.toI (CV.cellD 8 e18))), (CV.int .i64 (CV.toI (CV.cellD 9 e18))), (CV.bool (CV.toB (CV.cellD 10 e18))), (CV.bool (CV.toB (CV.cellD 11 e18))), (CV.bool (CV.toB (CV.cellD 12 e18))), (CV.int .i64 v20.1), (CV.int .i64 v20.2.1), (CV.str v20.2.2.1), (CV.slc none v20.2.2.2.1), (CV.int .i64 v20.2.2.2.2.1), (CV.int .i64 v20.2.2.2.2.2), (CV.int .i64 v6_1.2.2.1), (CV.int .i64 (Int.tmod (IntKind.wrap .i64 ((CV.toI (CV.cellD 20 e18)) + 1)) 16777216))])]))), v20.1, v20.2.1, v20.2.2.1, v20.2.2.2.1, v20.2.2.2.2.1, v20.2.2.2.2.2, v6_1.2.2.1, (Int.tmod (IntKind.wrap .i64 ((CV.toI (CV.cellD 20 e18)) + 1)) 16777216))
else
f25_J1 R_f36 R_f46 k K e18 rec1 v6_1 (v6_1.2.2.2.2.1, v6_1.2.2.2.2.2.2.2, (CV.toI (CV.cellD 13 e18)), (CV.toI (CV.cellD 14 e18)), (CV.toS (CV.cellD 15 e18)), (CV.toL (CV.cellD 16 e18)), (CV.toI (CV.cellD 17 e18)), (CV.toI (CV.cellD 18 e18)), (CV.toI (CV.cellD 19 e18)), (CV.toI (CV.cellD 20 e18))))) ((CV.agg [(CV.int .i64 (CV.toI (CV.cellD 0 e18))), (CV.slc none (CV.toL (CV.cellD 1 e18))), (CV.slc none (CV.toL (CV.cellD 2 e18))), (CV.int .i64 (CV.toI (CV.cellD 3 e18))), (CV.int .i64 (CV.toI (CV.cellD 4 e18))), (CV.bool (CV.toB (CV.cellD 5 e18))), (CV.bool (CV.toB (CV.cellD 6 e18))), (CV.int .i64 (CV.toI (CV.cellD 7 e18))), (CV.int .i64 (CV.toI (CV.cellD 8 e18))), (CV.int .i64 (CV.toI (CV.cellD 9 e18))), (CV.bool (CV.toB (CV.cellD 10 e18))), (CV.bool (CV.toB (CV.cellD 11 e18))), (CV.bool (CV.toB (CV.cellD 12 e18))), (CV.int .i64 (CV.toI (CV.cellD 13 e18))), (CV.int .i64 (CV.toI (CV.cellD 14 e18))), (CV.str (CV.toS (CV.cellD 15 e18))), (CV.slc none (CV.toL (CV.cellD 16 e18))), (CV.int .i64 (CV.toI (CV.cellD 17 e18))), (CV.int .i64 (CV.toI (CV.cellD 18 e18))), (CV.int .i64 (CV.toI (CV.cellD 19 e18))), (CV.int .i64 (CV.toI (CV.cellD 20 e18)))])) ((CV.agg [(CV.int .i64 v20.1), (CV.int .i64 v20.2.1), (CV.str v20.2.2.1), (CV.slc none v20.2.2.2.1), (CV.int .i64 v20.2.2.2.2.1), (CV.int .i64 v20.2.2.2.2.2)])) (v6_1.2.2.1)
def f25_T1 {X : Type} (R_f36 : f36_R) (R_f46 : f46_R) (k : Nat) (K : Nat × Nat × (List CV) × (List CV) → Option X)   (rec1 : (List CV) × (List CV) × Int × Nat × Nat × Int × (List CV) × (List CV) → Option X) (v6_1 : (List CV) × (List CV) × Int × Nat × Nat × Int × (List CV) × (List CV)) : Option X :=
(bif (decide (v6_1.2.2.2.2.2.1 < (Nat.cast ((List.length v6_1.1)) : Int))) then
grd (decide (0 ≤ v6_1.2.2.2.2.2.1)) <|
Option.bind (v6_1.1)[(Int.toNat v6_1.2.2.2.2.2.1)]? fun e18 =>
grd (CV.isA 21 e18) <|
grd (CV.isI .i64 (CV.cellD 0 e18)) <|
grd (CV.isL none (CV.cellD 1 e18)) <|
grd (CV.isL none (CV.cellD 2 e18)) <|
grd (CV.isI .i64 (CV.cellD 3 e18)) <|
grd (CV.isI .i64 (CV.cellD 4 e18)) <|
grd (CV.isB (CV.cellD 5 e18)) <|
grd (CV.isB (CV.cellD 6 e18)) <|
grd (CV.isI .i64 (CV.cellD 7 e18)) <|
grd (CV.isI .i64 (CV.cellD 8 e18)) <|
grd (CV.isI .i64 (CV.cellD 9 e18)) <|
grd (CV.isB (CV.cellD 10 e18)) <|
grd (CV.isB (CV.cellD 11 e18)) <|
grd (CV.isB (CV.cellD 12 e18)) <|
grd (CV.isI .i64 (CV.cellD 13 e18)) <|
grd (CV.isI .i64 (CV.cellD 14 e18)) <|
grd (CV.isS (CV.cellD 15 e18)) <|
grd (CV.isL none (CV.cellD 16 e18)) <|
grd (CV.isI .i64 (CV.cellD 17 e18)) <|
grd (CV.isI .i64 (CV.cellD 18 e18)) <|
grd (CV.isI .i64 (CV.cellD 19 e18)) <|
grd (CV.isI .i64 (CV.cellD 20 e18)) <|
(bif (decide (v6_1.2.2.2.2.2.1 < (Nat.cast ((List.length v6_1.2.1)) : Int))) then
grd (decide (0 ≤ v6_1.2.2.2.2.2.1)) <|
Option.bind (v6_1.2.1)[(Int.toNat v6_1.2.2.2.2.2.1)]? fun e24 =>
grd (CV.isA 6 e24) <|
grd (CV.isI .i64 (CV.cellD 0 e24)) <|
grd (CV.isI .i64 (CV.cellD 1 e24)) <|
grd (CV.isS (CV.cellD 2 e24)) <|
grd (CV.isL none (CV.cellD 3 e24)) <|
grd (CV.isI .i64 (CV.cellD 4 e24)) <|
grd (CV.isI .i64 (CV.cellD 5 e24)) <|
f25_J2 R_f36 R_f46 k K e18 rec1 v6_1 ((CV.toI (CV.cellD 0 e24)), (CV.toI (CV.cellD 1 e24)), (CV.toS (CV.cellD 2 e24)), (CV.toL (CV.cellD 3 e24)), (CV.toI (CV.cellD 4 e24)), (CV.toI (CV.cellD 5 e24)))
else
f25_J2 R_f36 R_f46 k K e18 rec1 v6_1 ((CV.toI (CV.cellD 13 e18)), (CV.toI (CV.cellD 14 e18)), (CV.toS (CV.cellD 15 e18)), (CV.toL (CV.cellD 16 e18)), (CV.toI (CV.cellD 17 e18)), (CV.toI (CV.cellD 18 e18))))
else
K (v6_1.2.2.2.1, v6_1.2.2.2.2.1, (List.take (0 + v6_1.2.2.2.1) v6_1.2.2.2.2.2.2.1), (List.take (0 + v6_1.2.2.2.2.1) v6_1.2.2.2.2.2.2.2)))
def f25_L1 {X : Type} (R_f36 : f36_R) (R_f46 : f46_R) (k : Nat) (K : Nat × Nat × (List CV) × (List CV) → Option X)  (rec1 : (List CV) × (List CV) × Int × Nat × Nat × Int × (List CV) × (List CV) → Option X) (v : (List CV) × (List CV) × Int × Nat × Nat × Int × (List CV) × (List CV)) : Option X := f25_T1 R_f36 R_f46 k K   rec1 v
set_option maxRecDepth 100000 in
theorem f25_L1_ev {X : Type} (R_f36 : f36_R) (R_f46 : f46_R) (hR_f36 : AnsOk Try.prog 36 (f36_cOf R_f36)) (hR_f46 : AnsOk Try.prog 46 (f46_cOf R_f46)) (k : Nat) (K : Out → Option X)  (r1 : St → Option X) (v : (List CV) × (List CV) × Int × Nat × Nat × Int × (List CV) × (List CV)) : loopB (f25_cx R_f36 R_f46 hR_f36 hR_f46) k [.r, .r, .r, .l, .r, .b] (Try.f25.body.getD .skip) (retK (f25_cx R_f36 R_f46 hR_f36 hR_f46) [] Try.f25.results.toList K) [] r1 (f25_S1 v) = f25_T1 R_f36 R_f46 k (fun u => K (f25_out u))   (fun v => r1 (f25_S1 v)) v := by kernel_rfl
theorem f25_L1_it {X : Type} (R_f36 : f36_R) (R_f46 : f46_R) (hR_f36 : AnsOk Try.prog 36 (f36_cOf R_f36)) (hR_f46 : AnsOk Try.prog 46 (f46_cOf R_f46)) (k : Nat) (K : Out → Option X)  : (fun v => iter (loopB (f25_cx R_f36 R_f46 hR_f36 hR_f46) k [.r, .r, .r, .l, .r, .b] (Try.f25.body.getD .skip) (retK (f25_cx R_f36 R_f46 hR_f36 hR_f46) [] Try.f25.results.toList K) []) k (f25_S1 v)) = iterV (f25_L1 R_f36 R_f46 k (fun u => K (f25_out u)) ) k :=
  iter_map (fun r1 v => (f25_L1_ev R_f36 R_f46 hR_f36 hR_f46 k K  r1 v).trans rfl) k
def f25_T {X : Type} (R_f36 : f36_R) (R_f46 : f46_R) (k : Nat) (K : Nat × Nat × (List CV) × (List CV) → Option X) (loop1 : (List CV) × (List CV) × Int × Nat × Nat × Int × (List CV) × (List CV) → Option X) (x0 : List CV) (x1 : List CV) (x2 : Int) : Option X :=
R_f36 _ (fun u1 =>
loop1 (x0, x1, u1, 0, 0, 0, [], [])) (x2)
/-- "outpost/outpostref21.Pass" -/
def f25_A (R_f36 : f36_R) (R_f46 : f46_R) (k : Nat) : f25_R := fun X K x0 x1 x2 => f25_T R_f36 R_f46 k K (iterV (f25_L1 R_f36 R_f46 k K) k) x0 x1 x2
set_option maxRecDepth 100000 in
theorem f25_ev' {X : Type} (R_f36 : f36_R) (R_f46 : f46_R) (hR_f36 : AnsOk Try.prog 36 (f36_cOf R_f36)) (hR_f46 : AnsOk Try.prog 46 (f46_cOf R_f46)) (k : Nat) (K : Out → Option X) (x0 : List CV) (x1 : List CV) (x2 : Int) : evFn (f25_cx R_f36 R_f46 hR_f36 hR_f46) [] k Try.f25.ntmps Try.f25.results.toList (Try.f25.body.getD .skip) [(.sl false (some 21) x0), (.sl false (some 6) x1), (.v (CV.int .i64 x2))] [] K = f25_T R_f36 R_f46 k (fun u => K (f25_out u)) (fun v => iter (loopB (f25_cx R_f36 R_f46 hR_f36 hR_f46) k [.r, .r, .r, .l, .r, .b] (Try.f25.body.getD .skip) (retK (f25_cx R_f36 R_f46 hR_f36 hR_f46) [] Try.f25.results.toList K) []) k (f25_S1 v)) x0 x1 x2 := by kernel_rfl
theorem f25_ev {X : Type} (R_f36 : f36_R) (R_f46 : f46_R) (hR_f36 : AnsOk Try.prog 36 (f36_cOf R_f36)) (hR_f46 : AnsOk Try.prog 46 (f46_cOf R_f46)) (k : Nat) (K : Out → Option X) (x0 : List CV) (x1 : List CV) (x2 : Int) : evFn (f25_cx R_f36 R_f46 hR_f36 hR_f46) [] k Try.f25.ntmps Try.f25.results.toList (Try.f25.body.getD .skip) [(.sl false (some 21) x0), (.sl false (some 6) x1), (.v (CV.int .i64 x2))] [] K = f25_A R_f36 R_f46 k X (fun u => K (f25_out u)) x0 x1 x2 := (f25_ev' R_f36 R_f46 hR_f36 hR_f46 k K x0 x1 x2).trans (by rw [f25_L1_it R_f36 R_f46 hR_f36 hR_f46 k K]; rfl)
theorem f25_okA (R_f36 : f36_R) (R_f46 : f46_R) (hR_f36 : AnsOk Try.prog 36 (f36_cOf R_f36)) (hR_f46 : AnsOk Try.prog 46 (f46_cOf R_f46)) (k : Nat) : AnsOk Try.prog 25 (f25_cOf (f25_A R_f36 R_f46 k)) := by
  intro X xs ns K x h
  unfold f25_cOf at h ⊢
  split at h
  · exact ans_main S (f25_Cok R_f36 R_f46 hR_f36 hR_f46) Try.func25 (ent_of Try.func25 (by kernel_rfl) rfl) rfl (fun X K => f25_ev R_f36 R_f46 hR_f36 hR_f46 k K _ _ _) h
  · cases h
/-- "outpost/outpostref21.Pass" -/
def f25 {X : Type} (k : Nat) (K : Nat × Nat × (List CV) × (List CV) → Option X) (x0 : List CV) (x1 : List CV) (x2 : Int) : Option X := f25_A (fun X => @f36 X k) (fun X => @f46 X k) k X K x0 x1 x2
theorem f25_ok (k : Nat) : AnsOk Try.prog 25 (f25_cOf (fun X => @f25 X k)) := f25_okA (fun X => @f36 X k) (fun X => @f46 X k) (f36_ok k) (f46_ok k) k
abbrev f20_R : Type 1 := (X : Type) → (Bool → Option X) → (List CV) → (List CV) → Option X
def f20_out (u : Bool) : Out := ⟨(.v (CV.bool u)), []⟩
def f20_cOf (R : f20_R) : FnC := fun X xs ns K => match xs, ns with
  | [(.sl false none x0), (.sl false none x1)], [] => R X (fun u => K (f20_out u)) x0 x1
  | _, _ => none
def f20_plan : Nat → Option (List Nat × List Wk)
  | 0 => some ([0, 1], [])
  | 1 => some ([0, 1], [])
  | _ => none
def f20_C (R_f39 : f39_R) : Fns := (orC 39 (f39_cOf R_f39) noC)
theorem f20_Cok (R_f39 : f39_R) (hR_f39 : AnsOk Try.prog 39 (f39_cOf R_f39)) : CsOk Try.prog (f20_C R_f39) := (orC_ok hR_f39 noC_ok)
def f20_cx (R_f39 : f39_R) (hR_f39 : AnsOk Try.prog 39 (f39_cOf R_f39)) : Cx := mkCx (tabOf rows) (f20_C R_f39) md (cmpIn cmps) f20_plan (f20_Cok R_f39 hR_f39)
def f20_T {X : Type} (R_f39 : f39_R) (k : Nat) (K : Bool → Option X)  (x0 : List CV) (x1 : List CV) : Option X :=
(bif (decide ((Nat.cast ((List.length x0)) : Int) ≥ (Nat.cast ((List.length x1)) : Int))) then
grd (decide ((Nat.cast ((List.length x1)) : Int) ≤ (Nat.cast ((List.length x0)) : Int))) <|
R_f39 _ (fun u1 =>
K (u1)) ((List.take ((List.length x1) - 0) (List.drop 0 x0))) (x1)
else
K (false))
/-- "outpost/outpostref21.Begins" -/
def f20_A (R_f39 : f39_R) (k : Nat) : f20_R := fun X K x0 x1 => f20_T R_f39 k K  x0 x1
set_option maxRecDepth 100000 in
theorem f20_ev' {X : Type} (R_f39 : f39_R) (hR_f39 : AnsOk Try.prog 39 (f39_cOf R_f39)) (k : Nat) (K : Out → Option X) (x0 : List CV) (x1 : List CV) : evFn (f20_cx R_f39 hR_f39) [] k Try.f20.ntmps Try.f20.results.toList (Try.f20.body.getD .skip) [(.sl false none x0), (.sl false none x1)] [] K = f20_T R_f39 k (fun u => K (f20_out u)) x0 x1 := by kernel_rfl
theorem f20_ev {X : Type} (R_f39 : f39_R) (hR_f39 : AnsOk Try.prog 39 (f39_cOf R_f39)) (k : Nat) (K : Out → Option X) (x0 : List CV) (x1 : List CV) : evFn (f20_cx R_f39 hR_f39) [] k Try.f20.ntmps Try.f20.results.toList (Try.f20.body.getD .skip) [(.sl false none x0), (.sl false none x1)] [] K = f20_A R_f39 k X (fun u => K (f20_out u)) x0 x1 := (f20_ev' R_f39 hR_f39 k K x0 x1).trans rfl
theorem f20_okA (R_f39 : f39_R) (hR_f39 : AnsOk Try.prog 39 (f39_cOf R_f39)) (k : Nat) : AnsOk Try.prog 20 (f20_cOf (f20_A R_f39 k)) := by
  intro X xs ns K x h
  unfold f20_cOf at h ⊢
  split at h
  · exact ans_main S (f20_Cok R_f39 hR_f39) Try.func20 (ent_of Try.func20 (by kernel_rfl) rfl) rfl (fun X K => f20_ev R_f39 hR_f39 k K _ _) h
  · cases h
/-- "outpost/outpostref21.Begins" -/
def f20 {X : Type} (k : Nat) (K : Bool → Option X) (x0 : List CV) (x1 : List CV) : Option X := f20_A (fun X => @f39 X k) k X K x0 x1
theorem f20_ok (k : Nat) : AnsOk Try.prog 20 (f20_cOf (fun X => @f20 X k)) := f20_okA (fun X => @f39 X k) (f39_ok k) k
abbrev f6_R : Type 1 := (X : Type) → (Bool → Option X) → (List CV) → Option X
def f6_out (u : Bool) : Out := ⟨(.v (CV.bool u)), []⟩
def f6_cOf (R : f6_R) : FnC := fun X xs ns K => match xs, ns with
  | [(.sl true (some 24) x0)], [] => R X (fun u => K (f6_out u)) x0
  | _, _ => none
def f6_plan : Nat → Option (List Nat × List Wk)
  | 0 => some ([0], [])
  | 1 => some ([0], [])
  | 2 => some ([], [])
  | 3 => some ([0], [])
  | 4 => some ([], [])
  | 5 => some ([0], [])
  | 6 => some ([0, 3], [])
  | 7 => some ([0, 3, 4], [])
  | 8 => some ([3, 4, 27, 28, 29], [])
  | 9 => some ([3, 4, 27, 28, 29], [])
  | 10 => some ([3, 4, 6, 27, 28, 29], [])
  | 11 => some ([3, 4, 6, 7, 27, 28, 29], [])
  | 12 => some ([3, 4, 6, 7, 27, 28, 29, 35], [])
  | 13 => some ([3, 4, 6, 7, 27, 28, 29, 35], [])
  | 14 => some ([3, 4, 6, 27, 28, 29], [])
  | 15 => some ([3, 4, 6, 8, 27, 28, 29], [])
  | 16 => some ([3, 8, 9, 10, 27, 28, 29], [])
  | 17 => some ([3, 4, 8, 10, 27, 28, 29], [])
  | 18 => some ([], [])
  | 19 => some ([3, 4, 6, 7, 27, 28, 29, 35], [])
  | 20 => some ([3, 4, 6, 7, 27, 28, 29, 35], [])
  | 21 => some ([3, 4, 6, 7, 27, 28, 29, 35], [])
  | 22 => some ([3, 4, 6, 7, 27, 28, 29], [])
  | 23 => some ([3, 4, 6, 7, 27, 28, 29, 59, 60, 61], [])
  | 24 => some ([3, 4, 6, 7, 27, 28, 29, 59, 60, 61], [])
  | 25 => some ([3, 4, 6, 7, 12, 27, 28, 29, 59, 60, 61], [])
  | 26 => some ([3, 4, 6, 7, 12, 13, 27, 28, 29, 59, 60, 61], [])
  | 27 => some ([3, 4, 6, 7, 12, 13, 27, 28, 29, 59, 60, 61, 72], [])
  | 28 => some ([3, 4, 6, 7, 12, 13, 27, 28, 29, 59, 60, 61], [])
  | 29 => some ([3, 4, 6, 7, 12, 13, 27, 28, 29, 59, 60, 61, 72], [])
  | 30 => some ([3, 4, 6, 7, 12, 27, 28, 29, 59, 60, 61], [])
  | 31 => some ([3, 4, 6, 7, 12, 13, 27, 28, 29, 59, 60, 61], [])
  | 32 => some ([3, 4, 6, 7, 12, 27, 28, 29, 59, 60, 61], [])
  | 33 => some ([3, 4, 6, 7, 27, 28, 29, 59, 60, 61], [])
  | 34 => some ([3, 4, 6, 7, 27, 28, 29], [])
  | 35 => some ([3, 6, 7, 14, 27, 28, 29], [])
  | 36 => some ([3, 4, 6, 14, 27, 28, 29], [])
  | 37 => some ([3, 4, 6, 14, 27, 28, 29, 106], [])
  | 38 => some ([3, 4, 6, 14, 27, 28, 29], [])
  | 39 => some ([], [])
  | 40 => some ([3, 4, 6, 14, 27, 28, 29, 106], [])
  | 41 => some ([3, 4, 6, 14, 27, 28, 29], [])
  | 42 => some ([], [])
  | 43 => some ([3, 4, 6, 14, 27, 28, 29, 106], [])
  | 44 => some ([3, 4, 6, 14, 27, 28, 29], [])
  | 45 => some ([], [])
  | 46 => some ([3, 4, 6, 27, 28, 29, 35], [])
  | 47 => some ([3, 4, 6, 27, 28, 29], [])
  | 48 => some ([3, 4, 6, 15, 27, 28, 29], [])
  | 49 => some ([3, 4, 6, 15, 27, 28, 29, 141, 142], [])
  | 50 => some ([3, 4, 6, 15, 27, 28, 29, 141, 142], [])
  | 51 => some ([3, 4, 6, 15, 16, 27, 28, 29, 141, 142], [])
  | 52 => some ([3, 4, 6, 16, 27, 28, 29, 141, 142], [])
  | 53 => some ([3, 4, 6, 27, 28, 29, 141, 142], [])
  | 54 => some ([3, 4, 6, 15, 27, 28, 29, 141, 142], [])
  | 55 => some ([3, 4, 6, 15, 27, 28, 29], [])
  | 56 => some ([], [])
  | 57 => some ([3, 4, 6, 27, 28, 29, 35], [])
  | 58 => some ([3, 4, 6, 27, 28, 29, 35], [])
  | 59 => some ([3, 4, 6, 27, 28, 29, 35], [])
  | 60 => some ([3, 4, 6, 27, 28, 29], [])
  | 61 => some ([3, 4, 6, 17, 27, 28, 29], [])
  | 62 => some ([3, 17, 18, 19, 27, 28, 29], [])
  | 63 => some ([3, 4, 17, 19, 27, 28, 29], [])
  | 64 => some ([], [])
  | 65 => some ([3, 4, 27, 28, 29], [])
  | 66 => some ([], [])
  | 67 => some ([3, 4, 27, 28, 29], [])
  | 68 => some ([], [])
  | _ => none
def f6_C (R_f7 : f7_R) (R_f17 : f17_R) (R_f8 : f8_R) (R_f9 : f9_R) (R_f19 : f19_R) (R_f18 : f18_R) (R_f28 : f28_R) (R_f29 : f29_R) (R_f27 : f27_R) (R_f26 : f26_R) (R_f16 : f16_R) (R_f20 : f20_R) (R_f21 : f21_R) (R_f22 : f22_R) (R_f23 : f23_R) (R_f24 : f24_R) (R_f11 : f11_R) (R_f25 : f25_R) : Fns := (orC 7 (f7_cOf R_f7) (orC 8 (f8_cOf R_f8) (orC 9 (f9_cOf R_f9) (orC 11 (f11_cOf R_f11) (orC 16 (f16_cOf R_f16) (orC 17 (f17_cOf R_f17) (orC 18 (f18_cOf R_f18) (orC 19 (f19_cOf R_f19) (orC 20 (f20_cOf R_f20) (orC 21 (f21_cOf R_f21) (orC 22 (f22_cOf R_f22) (orC 23 (f23_cOf R_f23) (orC 24 (f24_cOf R_f24) (orC 25 (f25_cOf R_f25) (orC 26 (f26_cOf R_f26) (orC 27 (f27_cOf R_f27) (orC 28 (f28_cOf R_f28) (orC 29 (f29_cOf R_f29) noC))))))))))))))))))
theorem f6_Cok (R_f7 : f7_R) (R_f17 : f17_R) (R_f8 : f8_R) (R_f9 : f9_R) (R_f19 : f19_R) (R_f18 : f18_R) (R_f28 : f28_R) (R_f29 : f29_R) (R_f27 : f27_R) (R_f26 : f26_R) (R_f16 : f16_R) (R_f20 : f20_R) (R_f21 : f21_R) (R_f22 : f22_R) (R_f23 : f23_R) (R_f24 : f24_R) (R_f11 : f11_R) (R_f25 : f25_R) (hR_f7 : AnsOk Try.prog 7 (f7_cOf R_f7)) (hR_f17 : AnsOk Try.prog 17 (f17_cOf R_f17)) (hR_f8 : AnsOk Try.prog 8 (f8_cOf R_f8)) (hR_f9 : AnsOk Try.prog 9 (f9_cOf R_f9)) (hR_f19 : AnsOk Try.prog 19 (f19_cOf R_f19)) (hR_f18 : AnsOk Try.prog 18 (f18_cOf R_f18)) (hR_f28 : AnsOk Try.prog 28 (f28_cOf R_f28)) (hR_f29 : AnsOk Try.prog 29 (f29_cOf R_f29)) (hR_f27 : AnsOk Try.prog 27 (f27_cOf R_f27)) (hR_f26 : AnsOk Try.prog 26 (f26_cOf R_f26)) (hR_f16 : AnsOk Try.prog 16 (f16_cOf R_f16)) (hR_f20 : AnsOk Try.prog 20 (f20_cOf R_f20)) (hR_f21 : AnsOk Try.prog 21 (f21_cOf R_f21)) (hR_f22 : AnsOk Try.prog 22 (f22_cOf R_f22)) (hR_f23 : AnsOk Try.prog 23 (f23_cOf R_f23)) (hR_f24 : AnsOk Try.prog 24 (f24_cOf R_f24)) (hR_f11 : AnsOk Try.prog 11 (f11_cOf R_f11)) (hR_f25 : AnsOk Try.prog 25 (f25_cOf R_f25)) : CsOk Try.prog (f6_C R_f7 R_f17 R_f8 R_f9 R_f19 R_f18 R_f28 R_f29 R_f27 R_f26 R_f16 R_f20 R_f21 R_f22 R_f23 R_f24 R_f11 R_f25) := (orC_ok hR_f7 (orC_ok hR_f8 (orC_ok hR_f9 (orC_ok hR_f11 (orC_ok hR_f16 (orC_ok hR_f17 (orC_ok hR_f18 (orC_ok hR_f19 (orC_ok hR_f20 (orC_ok hR_f21 (orC_ok hR_f22 (orC_ok hR_f23 (orC_ok hR_f24 (orC_ok hR_f25 (orC_ok hR_f26 (orC_ok hR_f27 (orC_ok hR_f28 (orC_ok hR_f29 noC_ok))))))))))))))))))
def f6_cx (R_f7 : f7_R) (R_f17 : f17_R) (R_f8 : f8_R) (R_f9 : f9_R) (R_f19 : f19_R) (R_f18 : f18_R) (R_f28 : f28_R) (R_f29 : f29_R) (R_f27 : f27_R) (R_f26 : f26_R) (R_f16 : f16_R) (R_f20 : f20_R) (R_f21 : f21_R) (R_f22 : f22_R) (R_f23 : f23_R) (R_f24 : f24_R) (R_f11 : f11_R) (R_f25 : f25_R) (hR_f7 : AnsOk Try.prog 7 (f7_cOf R_f7)) (hR_f17 : AnsOk Try.prog 17 (f17_cOf R_f17)) (hR_f8 : AnsOk Try.prog 8 (f8_cOf R_f8)) (hR_f9 : AnsOk Try.prog 9 (f9_cOf R_f9)) (hR_f19 : AnsOk Try.prog 19 (f19_cOf R_f19)) (hR_f18 : AnsOk Try.prog 18 (f18_cOf R_f18)) (hR_f28 : AnsOk Try.prog 28 (f28_cOf R_f28)) (hR_f29 : AnsOk Try.prog 29 (f29_cOf R_f29)) (hR_f27 : AnsOk Try.prog 27 (f27_cOf R_f27)) (hR_f26 : AnsOk Try.prog 26 (f26_cOf R_f26)) (hR_f16 : AnsOk Try.prog 16 (f16_cOf R_f16)) (hR_f20 : AnsOk Try.prog 20 (f20_cOf R_f20)) (hR_f21 : AnsOk Try.prog 21 (f21_cOf R_f21)) (hR_f22 : AnsOk Try.prog 22 (f22_cOf R_f22)) (hR_f23 : AnsOk Try.prog 23 (f23_cOf R_f23)) (hR_f24 : AnsOk Try.prog 24 (f24_cOf R_f24)) (hR_f11 : AnsOk Try.prog 11 (f11_cOf R_f11)) (hR_f25 : AnsOk Try.prog 25 (f25_cOf R_f25)) : Cx := mkCx (tabOf rows) (f6_C R_f7 R_f17 R_f8 R_f9 R_f19 R_f18 R_f28 R_f29 R_f27 R_f26 R_f16 R_f20 R_f21 R_f22 R_f23 R_f24 R_f11 R_f25) md (cmpIn cmps) f6_plan (f6_Cok R_f7 R_f17 R_f8 R_f9 R_f19 R_f18 R_f28 R_f29 R_f27 R_f26 R_f16 R_f20 R_f21 R_f22 R_f23 R_f24 R_f11 R_f25 hR_f7 hR_f17 hR_f8 hR_f9 hR_f19 hR_f18 hR_f28 hR_f29 hR_f27 hR_f26 hR_f16 hR_f20 hR_f21 hR_f22 hR_f23 hR_f24 hR_f11 hR_f25)
def f6_S1 (v : Nat × (List CV) × Int × Int × (List CV) × Nat × (List CV)) : St := ⟨[.undef, .undef, .undef, (.ptr [25] 0 0 0), (.osl [4] (some 21) 0 v.1), .undef, .undef, .undef, .undef, .undef, .undef, .undef, .undef, .undef, .undef, .undef, .undef, .undef, .undef, .undef, .undef, .undef, .undef, .undef, .undef, .undef, .undef, (.sl true (some 24) v.2.1), (.v (CV.int .i64 v.2.2.1)), (.v (CV.int .i64 v.2.2.2.1)), .undef, .undef, .undef, .undef, .undef, .undef, .undef, .undef, .undef, .undef, .undef, .undef, .undef, .undef, .undef, .undef, .undef, .undef, .undef, .undef, .undef, .undef, .undef, .undef, .undef, .undef, .undef, .undef, .undef, .undef, .undef, .undef, .undef, .undef, .undef, .undef, .undef, .undef, .undef, .undef, .undef, .undef, .undef, .undef, .undef, .undef, .undef, .undef, .undef, .undef, .undef, .undef, .undef, .undef, .undef, .undef, .undef, .undef, .undef, .undef, .undef, .undef, .undef, .undef, .undef, .undef, .undef, .undef, .undef, .undef, .undef, .undef, .undef, .undef, .undef, .undef, .undef, .undef, .undef, .undef, .undef, .undef, .undef, .undef, .undef, .undef, .undef, .undef, .undef, .undef, .undef, .undef, .undef, .undef, .undef, .undef, .undef, .undef, .undef, .undef, .undef, .undef, .undef, .undef, .undef, .undef, .undef, .undef, .undef, .undef, .undef, .undef, .undef, .undef, .undef, .undef, .undef, .undef, .undef, .undef, .undef, .undef, .undef, .undef, .undef, .undef, .undef, .undef, .undef, .undef, .undef, .undef, .undef, .undef, .undef, .undef, .undef, .undef, .undef, .undef, .undef, .undef, .undef, .undef, .undef, .undef, .undef, .undef, .undef, .undef, .undef, .undef, .undef, .undef, .undef, .undef, .undef, .undef, .undef, .undef, .undef, .undef, .undef, .undef, .undef, .undef, .undef, .undef, .undef, .undef, .undef, .undef, .undef, .undef, .undef, .undef, .undef, .undef, .undef, .undef, .undef, .undef, .undef, .undef, .undef, .undef, .undef, .undef, .undef, .undef, .undef, .undef, .undef, .undef, .undef], [([4], (.row false (some 21) v.2.2.2.2.1)), ([25], (.obj [(.osl [0, 25] (some 21) 0 v.2.2.2.2.2.1)])), ([0, 25], (.row false (some 21) v.2.2.2.2.2.2))]⟩
def f6_S2 (v : Nat × Nat × (List CV) × Int × Int × Nat × Int × Int × (List CV) × Int × Int × (List CV) × (List CV) × Int × Int × Bool × Bool × Int × Int × Int × Bool × Bool × Bool × Int × Int × ByteArray × (List CV) × Int × Int × Int × Int × (List CV) × Int × (List CV) × Nat × (List CV)) : St := ⟨[.undef, .undef, .undef, (.ptr [25] 0 0 0), (.osl [4] (some 21) 0 v.1), .undef, (.ptr [6] 0 0 0), (.osl [7] (some 21) 0 v.2.1), .undef, .undef, .undef, .undef, .undef, .undef, .undef, .undef, .undef, .undef, .undef, .undef, .undef, .undef, .undef, .undef, .undef, .undef, .undef, (.sl true (some 24) v.2.2.1), (.v (CV.int .i64 v.2.2.2.1)), (.v (CV.int .i64 v.2.2.2.2.1)), .undef, .undef, .undef, .undef, .undef, .undef, .undef, .undef, .undef, .undef, .undef, .undef, .undef, .undef, .undef, .undef, .undef, .undef, .undef, .undef, .undef, .undef, .undef, .undef, .undef, .undef, .undef, .undef, .undef, (.osl [4] (some 21) 0 v.2.2.2.2.2.1), (.v (CV.int .i64 v.2.2.2.2.2.2.1)), (.v (CV.int .i64 v.2.2.2.2.2.2.2.1)), .undef, .undef, .undef, .undef, .undef, .undef, .undef, .undef, .undef, .undef, .undef, .undef, .undef, .undef, .undef, .undef, .undef, .undef, .undef, .undef, .undef, .undef, .undef, .undef, .undef, .undef, .undef, .undef, .undef, .undef, .undef, .undef, .undef, .undef, .undef, .undef, .undef, .undef, .undef, .undef, .undef, .undef, .undef, .undef, .undef, .undef, .undef, .undef, .undef, .undef, .undef, .undef, .undef, .undef, .undef, .undef, .undef, .undef, .undef, .undef, .undef, .undef, .undef, .undef, .undef, .undef, .undef, .undef, .undef, .undef, .undef, .undef, .undef, .undef, .undef, .undef, .undef, .undef, .undef, .undef, .undef, .undef, .undef, .undef, .undef, .undef, .undef, .undef, .undef, .undef, .undef, .undef, .undef, .undef, .undef, .undef, .undef, .undef, .undef, .undef, .undef, .undef, .undef, .undef, .undef, .undef, .undef, .undef, .undef, .undef, .undef, .undef, .undef, .undef, .undef, .undef, .undef, .undef, .undef, .undef, .undef, .undef, .undef, .undef, .undef, .undef, .undef, .undef, .undef, .undef, .undef, .undef, .undef, .undef, .undef, .undef, .undef, .undef, .undef, .undef, .undef, .undef, .undef, .undef, .undef, .undef, .undef, .undef, .undef, .undef, .undef, .undef, .undef, .undef, .undef, .undef, .undef, .undef, .undef, .undef, .undef, .undef, .undef], [([4], (.row false (some 21) v.2.2.2.2.2.2.2.2.1)), ([6], (.obj [(.v (CV.int .i64 v.2.2.2.2.2.2.2.2.2.1)), (.v (CV.int .i64 v.2.2.2.2.2.2.2.2.2.2.1)), (.sl true none v.2.2.2.2.2.2.2.2.2.2.2.1), (.sl true none v.2.2.2.2.2.2.2.2.2.2.2.2.1), (.v (CV.int .i64 v.2.2.2.2.2.2.2.2.2.2.2.2.2.1)), (.v (CV.int .i64 v.2.2.2.2.2.2.2.2.2.2.2.2.2.2.1)), (.v (CV.bool v.2.2.2.2.2.2.2.2.2.2.2.2.2.2.2.1)), (.v (CV.bool v.2.2.2.2.2.2.2.2.2.2.2.2.2.2.2.2.1)), (.v (CV.int .i64 v.2.2.2.2.2.2.2.2.2.2.2.2.2.2.2.2.2.1)), (.v (CV.int .i64 v.2.2.2.2.2.2.2.2.2.2.2.2.2.2.2.2.2.2.1)), (.v (CV.int .i64 v.2.2.2.2.2.2.2.2.2.2.2.2.2.2.2.2.2.2.2.1)), (.v (CV.bool v.2.2.2.2.2.2.2.2.2.2.2.2.2.2.2.2.2.2.2.2.1)), (.v (CV.bool v.2.2.2.2.2.2.2.2.2.2.2.2.2.2.2.2.2.2.2.2.2.1)), (.v (CV.bool v.2.2.2.2.2.2.2.2.2.2.2.2.2.2.2.2.2.2.2.2.2.2.1)), (.v (CV.int .i64 v.2.2.2.2.2.2.2.2.2.2.2.2.2.2.2.2.2.2.2.2.2.2.2.1)), (.v (CV.int .i64 v.2.2.2.2.2.2.2.2.2.2.2.2.2.2.2.2.2.2.2.2.2.2.2.2.1)), (.v (CV.str v.2.2.2.2.2.2.2.2.2.2.2.2.2.2.2.2.2.2.2.2.2.2.2.2.2.1)), (.sl true none v.2.2.2.2.2.2.2.2.2.2.2.2.2.2.2.2.2.2.2.2.2.2.2.2.2.2.1), (.v (CV.int .i64 v.2.2.2.2.2.2.2.2.2.2.2.2.2.2.2.2.2.2.2.2.2.2.2.2.2.2.2.1)), (.v (CV.int .i64 v.2.2.2.2.2.2.2.2.2.2.2.2.2.2.2.2.2.2.2.2.2.2.2.2.2.2.2.2.1)), (.v (CV.int .i64 v.2.2.2.2.2.2.2.2.2.2.2.2.2.2.2.2.2.2.2.2.2.2.2.2.2.2.2.2.2.1)), (.v (CV.int .i64 v.2.2.2.2.2.2.2.2.2.2.2.2.2.2.2.2.2.2.2.2.2.2.2.2.2.2.2.2.2.2.1)), (.sl true (some 6) v.2.2.2.2.2.2.2.2.2.2.2.2.2.2.2.2.2.2.2.2.2.2.2.2.2.2.2.2.2.2.2.1), (.v (CV.int .i64 v.2.2.2.2.2.2.2.2.2.2.2.2.2.2.2.2.2.2.2.2.2.2.2.2.2.2.2.2.2.2.2.2.1))])), ([7], (.row false (some 21) v.2.2.2.2.2.2.2.2.2.2.2.2.2.2.2.2.2.2.2.2.2.2.2.2.2.2.2.2.2.2.2.2.2.1)), ([25], (.obj [(.osl [0, 25] (some 21) 0 v.2.2.2.2.2.2.2.2.2.2.2.2.2.2.2.2.2.2.2.2.2.2.2.2.2.2.2.2.2.2.2.2.2.2.1)])), ([0, 25], (.row false (some 21) v.2.2.2.2.2.2.2.2.2.2.2.2.2.2.2.2.2.2.2.2.2.2.2.2.2.2.2.2.2.2.2.2.2.2.2))]⟩
def f6_S3 (v : Nat × Bool × (List CV) × Int × Int × Int × Int × (List CV) × Int × Int × (List CV) × (List CV) × Int × Int × Bool × Bool × Int × Int × Int × Bool × Bool × Bool × Int × Int × ByteArray × (List CV) × Int × Int × Int × Int × (List CV) × Int × Nat × (List CV)) : St := ⟨[.undef, .undef, .undef, (.ptr [25] 0 0 0), (.osl [4] (some 21) 0 v.1), .undef, (.ptr [6] 0 0 0), .undef, .undef, .undef, .undef, .undef, .undef, .undef, .undef, (.v (CV.bool v.2.1)), .undef, .undef, .undef, .undef, .undef, .undef, .undef, .undef, .undef, .undef, .undef, (.sl true (some 24) v.2.2.1), (.v (CV.int .i64 v.2.2.2.1)), (.v (CV.int .i64 v.2.2.2.2.1)), .undef, .undef, .undef, .undef, .undef, .undef, .undef, .undef, .undef, .undef, .undef, .undef, .undef, .undef, .undef, .undef, .undef, .undef, .undef, .undef, .undef, .undef, .undef, .undef, .undef, .undef, .undef, .undef, .undef, .undef, .undef, .undef, .undef, .undef, .undef, .undef, .undef, .undef, .undef, .undef, .undef, .undef, .undef, .undef, .undef, .undef, .undef, .undef, .undef, .undef, .undef, .undef, .undef, .undef, .undef, .undef, .undef, .undef, .undef, .undef, .undef, .undef, .undef, .undef, .undef, .undef, .undef, .undef, .undef, .undef, .undef, .undef, .undef, .undef, .undef, .undef, .undef, .undef, .undef, .undef, .undef, .undef, .undef, .undef, .undef, .undef, .undef, .undef, .undef, .undef, .undef, .undef, .undef, .undef, .undef, .undef, .undef, .undef, .undef, .undef, .undef, .undef, .undef, .undef, .undef, .undef, .undef, .undef, .undef, .undef, .undef, (.v (CV.int .i64 v.2.2.2.2.2.1)), (.v (CV.int .i64 v.2.2.2.2.2.2.1)), .undef, .undef, .undef, .undef, .undef, .undef, .undef, .undef, .undef, .undef, .undef, .undef, .undef, .undef, .undef, .undef, .undef, .undef, .undef, .undef, .undef, .undef, .undef, .undef, .undef, .undef, .undef, .undef, .undef, .undef, .undef, .undef, .undef, .undef, .undef, .undef, .undef, .undef, .undef, .undef, .undef, .undef, .undef, .undef, .undef, .undef, .undef, .undef, .undef, .undef, .undef, .undef, .undef, .undef, .undef, .undef, .undef, .undef, .undef, .undef, .undef, .undef, .undef, .undef, .undef, .undef, .undef, .undef, .undef, .undef, .undef, .undef, .undef, .undef, .undef, .undef, .undef, .undef, .undef, .undef, .undef, .undef], [([4], (.row false (some 21) v.2.2.2.2.2.2.2.1)), ([6], (.obj [(.v (CV.int .i64 v.2.2.2.2.2.2.2.2.1)), (.v (CV.int .i64 v.2.2.2.2.2.2.2.2.2.1)), (.sl true none v.2.2.2.2.2.2.2.2.2.2.1), (.sl true none v.2.2.2.2.2.2.2.2.2.2.2.1), (.v (CV.int .i64 v.2.2.2.2.2.2.2.2.2.2.2.2.1)), (.v (CV.int .i64 v.2.2.2.2.2.2.2.2.2.2.2.2.2.1)), (.v (CV.bool v.2.2.2.2.2.2.2.2.2.2.2.2.2.2.1)), (.v (CV.bool v.2.2.2.2.2.2.2.2.2.2.2.2.2.2.2.1)), (.v (CV.int .i64 v.2.2.2.2.2.2.2.2.2.2.2.2.2.2.2.2.1)), (.v (CV.int .i64 v.2.2.2.2.2.2.2.2.2.2.2.2.2.2.2.2.2.1)), (.v (CV.int .i64 v.2.2.2.2.2.2.2.2.2.2.2.2.2.2.2.2.2.2.1)), (.v (CV.bool v.2.2.2.2.2.2.2.2.2.2.2.2.2.2.2.2.2.2.2.1)), (.v (CV.bool v.2.2.2.2.2.2.2.2.2.2.2.2.2.2.2.2.2.2.2.2.1)), (.v (CV.bool v.2.2.2.2.2.2.2.2.2.2.2.2.2.2.2.2.2.2.2.2.2.1)), (.v (CV.int .i64 v.2.2.2.2.2.2.2.2.2.2.2.2.2.2.2.2.2.2.2.2.2.2.1)), (.v (CV.int .i64 v.2.2.2.2.2.2.2.2.2.2.2.2.2.2.2.2.2.2.2.2.2.2.2.1)), (.v (CV.str v.2.2.2.2.2.2.2.2.2.2.2.2.2.2.2.2.2.2.2.2.2.2.2.2.1)), (.sl true none v.2.2.2.2.2.2.2.2.2.2.2.2.2.2.2.2.2.2.2.2.2.2.2.2.2.1), (.v (CV.int .i64 v.2.2.2.2.2.2.2.2.2.2.2.2.2.2.2.2.2.2.2.2.2.2.2.2.2.2.1)), (.v (CV.int .i64 v.2.2.2.2.2.2.2.2.2.2.2.2.2.2.2.2.2.2.2.2.2.2.2.2.2.2.2.1)), (.v (CV.int .i64 v.2.2.2.2.2.2.2.2.2.2.2.2.2.2.2.2.2.2.2.2.2.2.2.2.2.2.2.2.1)), (.v (CV.int .i64 v.2.2.2.2.2.2.2.2.2.2.2.2.2.2.2.2.2.2.2.2.2.2.2.2.2.2.2.2.2.1)), (.sl true (some 6) v.2.2.2.2.2.2.2.2.2.2.2.2.2.2.2.2.2.2.2.2.2.2.2.2.2.2.2.2.2.2.1), (.v (CV.int .i64 v.2.2.2.2.2.2.2.2.2.2.2.2.2.2.2.2.2.2.2.2.2.2.2.2.2.2.2.2.2.2.2.1))])), ([25], (.obj [(.osl [0, 25] (some 21) 0 v.2.2.2.2.2.2.2.2.2.2.2.2.2.2.2.2.2.2.2.2.2.2.2.2.2.2.2.2.2.2.2.2.1)])), ([0, 25], (.row false (some 21) v.2.2.2.2.2.2.2.2.2.2.2.2.2.2.2.2.2.2.2.2.2.2.2.2.2.2.2.2.2.2.2.2.2))]⟩
def f6_J1 {X : Type} (R_f7 : f7_R) (R_f17 : f17_R) (R_f8 : f8_R) (R_f9 : f9_R) (R_f19 : f19_R) (R_f18 : f18_R) (R_f28 : f28_R) (R_f29 : f29_R) (R_f27 : f27_R) (R_f26 : f26_R) (R_f16 : f16_R) (R_f20 : f20_R) (R_f21 : f21_R) (R_f22 : f22_R) (R_f23 : f23_R) (R_f24 : f24_R) (R_f11 : f11_R) (R_f25 : f25_R) (k : Nat) (K : Bool → Option X) (rec2 : Nat × Nat × (List CV) × Int × Int × Nat × Int × Int × (List CV) × Int × Int × (List CV) × (List CV) × Int × Int × Bool × Bool × Int × Int × Int × Bool × Bool × Bool × Int × Int × ByteArray × (List CV) × Int × Int × Int × Int × (List CV) × Int × (List CV) × Nat × (List CV) → Option X) (v25_110 : Nat × Nat × (List CV) × Int × Int × Nat × Int × Int × (List CV) × Int × Int × (List CV) × (List CV) × Int × Int × Bool × Bool × Int × Int × Int × Bool × Bool × Bool × Int × Int × ByteArray × (List CV) × Int × Int × Int × Int × (List CV) × Int × (List CV) × Nat × (List CV)) (v127 : Nat × (List CV)) : Option X :=
rec2 (v25_110.1, v127.1, v25_110.2.2.1, v25_110.2.2.2.1, v25_110.2.2.2.2.1, v25_110.2.2.2.2.2.1, v25_110.2.2.2.2.2.2.1, (IntKind.wrap .i64 (v25_110.2.2.2.2.2.2.2.1 + 1)), v25_110.2.2.2.2.2.2.2.2.1, v25_110.2.2.2.2.2.2.2.2.2.1, v25_110.2.2.2.2.2.2.2.2.2.2.1, v25_110.2.2.2.2.2.2.2.2.2.2.2.1, v25_110.2.2.2.2.2.2.2.2.2.2.2.2.1, v25_110.2.2.2.2.2.2.2.2.2.2.2.2.2.1, v25_110.2.2.2.2.2.2.2.2.2.2.2.2.2.2.1, v25_110.2.2.2.2.2.2.2.2.2.2.2.2.2.2.2.1, v25_110.2.2.2.2.2.2.2.2.2.2.2.2.2.2.2.2.1, v25_110.2.2.2.2.2.2.2.2.2.2.2.2.2.2.2.2.2.1, v25_110.2.2.2.2.2.2.2.2.2.2.2.2.2.2.2.2.2.2.1, v25_110.2.2.2.2.2.2.2.2.2.2.2.2.2.2.2.2.2.2.2.1, v25_110.2.2.2.2.2.2.2.2.2.2.2.2.2.2.2.2.2.2.2.2.1, v25_110.2.2.2.2.2.2.2.2.2.2.2.2.2.2.2.2.2.2.2.2.2.1, v25_110.2.2.2.2.2.2.2.2.2.2.2.2.2.2.2.2.2.2.2.2.2.2.1, v25_110.2.2.2.2.2.2.2.2.2.2.2.2.2.2.2.2.2.2.2.2.2.2.2.1, v25_110.2.2.2.2.2.2.2.2.2.2.2.2.2.2.2.2.2.2.2.2.2.2.2.2.1, v25_110.2.2.2.2.2.2.2.2.2.2.2.2.2.2.2.2.2.2.2.2.2.2.2.2.2.1, v25_110.2.2.2.2.2.2.2.2.2.2.2.2.2.2.2.2.2.2.2.2.2.2.2.2.2.2.1, v25_110.2.2.2.2.2.2.2.2.2.2.2.2.2.2.2.2.2.2.2.2.2.2.2.2.2.2.2.1, v25_110.2.2.2.2.2.2.2.2.2.2.2.2.2.2.2.2.2.2.2.2.2.2.2.2.2.2.2.2.1, v25_110.2.2.2.2.2.2.2.2.2.2.2.2.2.2.2.2.2.2.2.2.2.2.2.2.2.2.2.2.2.1, v25_110.2.2.2.2.2.2.2.2.2.2.2.2.2.2.2.2.2.2.2.2.2.2.2.2.2.2.2.2.2.2.1, v25_110.2.2.2.2.2.2.2.2.2.2.2.2.2.2.2.2.2.2.2.2.2.2.2.2.2.2.2.2.2.2.2.1, v25_110.2.2.2.2.2.2.2.2.2.2.2.2.2.2.2.2.2.2.2.2.2.2.2.2.2.2.2.2.2.2.2.2.1, v127.2, v25_110.2.2.2.2.2.2.2.2.2.2.2.2.2.2.2.2.2.2.2.2.2.2.2.2.2.2.2.2.2.2.2.2.2.2.1, v25_110.2.2.2.2.2.2.2.2.2.2.2.2.2.2.2.2.2.2.2.2.2.2.2.2.2.2.2.2.2.2.2.2.2.2.2)
def f6_J2 {X : Type} (R_f7 : f7_R) (R_f17 : f17_R) (R_f8 : f8_R) (R_f9 : f9_R) (R_f19 : f19_R) (R_f18 : f18_R) (R_f28 : f28_R) (R_f29 : f29_R) (R_f27 : f27_R) (R_f26 : f26_R) (R_f16 : f16_R) (R_f20 : f20_R) (R_f21 : f21_R) (R_f22 : f22_R) (R_f23 : f23_R) (R_f24 : f24_R) (R_f11 : f11_R) (R_f25 : f25_R) (k : Nat) (K : Bool → Option X) (e128 : CV) (rec2 : Nat × Nat × (List CV) × Int × Int × Nat × Int × Int × (List CV) × Int × Int × (List CV) × (List CV) × Int × Int × Bool × Bool × Int × Int × Int × Bool × Bool × Bool × Int × Int × ByteArray × (List CV) × Int × Int × Int × Int × (List CV) × Int × (List CV) × Nat × (List CV) → Option X) (v25_110 : Nat × Nat × (List CV) × Int × Int × Nat × Int × Int × (List CV) × Int × Int × (List CV) × (List CV) × Int × Int × Bool × Bool × Int × Int × Int × Bool × Bool × Bool × Int × Int × ByteArray × (List CV) × Int × Int × Int × Int × (List CV) × Int × (List CV) × Nat × (List CV)) (v131 : Bool) : Option X :=
(bif (!v131) then
grd (decide ((v25_110.2.1 + (List.length (List.take 1 (List.drop 0 [(CV.agg [(CV.int .i64 (CV.toI (CV.cellD 0 e128))), (CV.slc none (CV.toL (CV.cellD 1 e128))), (CV.slc none (CV.toL (CV.cellD 2 e128))), (CV.int .i64 (CV.toI (CV.cellD 3 e128))), (CV.int .i64 (CV.toI (CV.cellD 4 e128))), (CV.bool (CV.toB (CV.cellD 5 e128))), (CV.bool (CV.toB (CV.cellD 6 e128))), (CV.int .i64 (CV.toI (CV.cellD 7 e128))), (CV.int .i64 (CV.toI (CV.cellD 8 e128))), (CV.int .i64 (CV.toI (CV.cellD 9 e128))), (CV.bool (CV.toB (CV.cellD 10 e128))), (CV.bool (CV.toB (CV.cellD 11 e128))), (CV.bool (CV.toB (CV.cellD 12 e128))), (CV.int .i64 (CV.toI (CV.cellD 13 e128))), (CV.int .i64 (CV.toI (CV.cellD 14 e128))), (CV.str (CV.toS (CV.cellD 15 e128))), (CV.slc none (CV.toL (CV.cellD 16 e128))), (CV.int .i64 (CV.toI (CV.cellD 17 e128))), (CV.int .i64 (CV.toI (CV.cellD 18 e128))), (CV.int .i64 (CV.toI (CV.cellD 19 e128))), (CV.int .i64 (CV.toI (CV.cellD 20 e128)))])])))) * 200 ≤ 140737488355328)) <|
f6_J1 R_f7 R_f17 R_f8 R_f9 R_f19 R_f18 R_f28 R_f29 R_f27 R_f26 R_f16 R_f20 R_f21 R_f22 R_f23 R_f24 R_f11 R_f25 k K rec2 v25_110 ((v25_110.2.1 + (List.length (List.take 1 (List.drop 0 [(CV.agg [(CV.int .i64 (CV.toI (CV.cellD 0 e128))), (CV.slc none (CV.toL (CV.cellD 1 e128))), (CV.slc none (CV.toL (CV.cellD 2 e128))), (CV.int .i64 (CV.toI (CV.cellD 3 e128))), (CV.int .i64 (CV.toI (CV.cellD 4 e128))), (CV.bool (CV.toB (CV.cellD 5 e128))), (CV.bool (CV.toB (CV.cellD 6 e128))), (CV.int .i64 (CV.toI (CV.cellD 7 e128))), (CV.int .i64 (CV.toI (CV.cellD 8 e128))), (CV.int .i64 (CV.toI (CV.cellD 9 e128))), (CV.bool (CV.toB (CV.cellD 10 e128))), (CV.bool (CV.toB (CV.cellD 11 e128))), (CV.bool (CV.toB (CV.cellD 12 e128))), (CV.int .i64 (CV.toI (CV.cellD 13 e128))), (CV.int .i64 (CV.toI (CV.cellD 14 e128))), (CV.str (CV.toS (CV.cellD 15 e128))), (CV.slc none (CV.toL (CV.cellD 16 e128))), (CV.int .i64 (CV.toI (CV.cellD 17 e128))), (CV.int .i64 (CV.toI (CV.cellD 18 e128))), (CV.int .i64 (CV.toI (CV.cellD 19 e128))), (CV.int .i64 (CV.toI (CV.cellD 20 e128)))])])))), ((List.take v25_110.2.1 v25_110.2.2.2.2.2.2.2.2.2.2.2.2.2.2.2.2.2.2.2.2.2.2.2.2.2.2.2.2.2.2.2.2.2.1) ++ (List.take 1 (List.drop 0 [(CV.agg [(CV.int .i64 (CV.toI (CV.cellD 0 e128))), (CV.slc none (CV.toL (CV.cellD 1 e128))), (CV.slc none (CV.toL (CV.cellD 2 e128))), (CV.int .i64 (CV.toI (CV.cellD 3 e128))), (CV.int .i64 (CV.toI (CV.cellD 4 e128))), (CV.bool (CV.toB (CV.cellD 5 e128))), (CV.bool (CV.toB (CV.cellD 6 e128))), (CV.int .i64 (CV.toI (CV.cellD 7 e128))), (CV.int .i64 (CV.toI (CV.cellD 8 e128))), (CV.int .i64 (CV.toI (CV.cellD 9 e128))), (CV.bool (CV.toB (CV.cellD 10 e128))), (CV.bool (CV.toB (CV.cellD 11 e128))), (CV.bool (CV.toB (CV.cellD 12 e128))), (CV.int .i64 (CV.toI (CV.cellD 13 e128))), (CV.int .i64 (CV.toI (CV.cellD 14 e128))), (CV.str (CV.toS (CV.cellD 15 e128))), (CV.slc none (CV.toL (CV.cellD 16 e128))), (CV.int .i64 (CV.toI (CV.cellD 17 e128))), (CV.int .i64 (CV.toI (CV.cellD 18 e128))), (CV.int .i64 (CV.toI (CV.cellD 19 e128))), (CV.int .i64 (CV.toI (CV.cellD 20 e128)))])]))))
else
f6_J1 R_f7 R_f17 R_f8 R_f9 R_f19 R_f18 R_f28 R_f29 R_f27 R_f26 R_f16 R_f20 R_f21 R_f22 R_f23 R_f24 R_f11 R_f25 k K rec2 v25_110 (v25_110.2.1, v25_110.2.2.2.2.2.2.2.2.2.2.2.2.2.2.2.2.2.2.2.2.2.2.2.2.2.2.2.2.2.2.2.2.2.1))
def f6_J3 {X : Type} (R_f7 : f7_R) (R_f17 : f17_R) (R_f8 : f8_R) (R_f9 : f9_R) (R_f19 : f19_R) (R_f18 : f18_R) (R_f28 : f28_R) (R_f29 : f29_R) (R_f27 : f27_R) (R_f26 : f26_R) (R_f16 : f16_R) (R_f20 : f20_R) (R_f21 : f21_R) (R_f22 : f22_R) (R_f23 : f23_R) (R_f24 : f24_R) (R_f11 : f11_R) (R_f25 : f25_R) (k : Nat) (K : Bool → Option X) (rec3 : Nat × Bool × (List CV) × Int × Int × Int × Int × (List CV) × Int × Int × (List CV) × (List CV) × Int × Int × Bool × Bool × Int × Int × Int × Bool × Bool × Bool × Int × Int × ByteArray × (List CV) × Int × Int × Int × Int × (List CV) × Int × Nat × (List CV) → Option X) (v28_152 : Nat × Bool × (List CV) × Int × Int × Int × Int × (List CV) × Int × Int × (List CV) × (List CV) × Int × Int × Bool × Bool × Int × Int × Int × Bool × Bool × Bool × Int × Int × ByteArray × (List CV) × Int × Int × Int × Int × (List CV) × Int × Nat × (List CV)) (v175 : Bool × (List CV)) : Option X :=
rec3 (v28_152.1, v175.1, v28_152.2.2.1, v28_152.2.2.2.1, v28_152.2.2.2.2.1, v28_152.2.2.2.2.2.1, (IntKind.wrap .i64 (v28_152.2.2.2.2.2.2.1 + 1)), v175.2, v28_152.2.2.2.2.2.2.2.2.1, v28_152.2.2.2.2.2.2.2.2.2.1, v28_152.2.2.2.2.2.2.2.2.2.2.1, v28_152.2.2.2.2.2.2.2.2.2.2.2.1, v28_152.2.2.2.2.2.2.2.2.2.2.2.2.1, v28_152.2.2.2.2.2.2.2.2.2.2.2.2.2.1, v28_152.2.2.2.2.2.2.2.2.2.2.2.2.2.2.1, v28_152.2.2.2.2.2.2.2.2.2.2.2.2.2.2.2.1, v28_152.2.2.2.2.2.2.2.2.2.2.2.2.2.2.2.2.1, v28_152.2.2.2.2.2.2.2.2.2.2.2.2.2.2.2.2.2.1, v28_152.2.2.2.2.2.2.2.2.2.2.2.2.2.2.2.2.2.2.1, v28_152.2.2.2.2.2.2.2.2.2.2.2.2.2.2.2.2.2.2.2.1, v28_152.2.2.2.2.2.2.2.2.2.2.2.2.2.2.2.2.2.2.2.2.1, v28_152.2.2.2.2.2.2.2.2.2.2.2.2.2.2.2.2.2.2.2.2.2.1, v28_152.2.2.2.2.2.2.2.2.2.2.2.2.2.2.2.2.2.2.2.2.2.2.1, v28_152.2.2.2.2.2.2.2.2.2.2.2.2.2.2.2.2.2.2.2.2.2.2.2.1, v28_152.2.2.2.2.2.2.2.2.2.2.2.2.2.2.2.2.2.2.2.2.2.2.2.2.1, v28_152.2.2.2.2.2.2.2.2.2.2.2.2.2.2.2.2.2.2.2.2.2.2.2.2.2.1, v28_152.2.2.2.2.2.2.2.2.2.2.2.2.2.2.2.2.2.2.2.2.2.2.2.2.2.2.1, v28_152.2.2.2.2.2.2.2.2.2.2.2.2.2.2.2.2.2.2.2.2.2.2.2.2.2.2.2.1, v28_152.2.2.2.2.2.2.2.2.2.2.2.2.2.2.2.2.2.2.2.2.2.2.2.2.2.2.2.2.1, v28_152.2.2.2.2.2.2.2.2.2.2.2.2.2.2.2.2.2.2.2.2.2.2.2.2.2.2.2.2.2.1, v28_152.2.2.2.2.2.2.2.2.2.2.2.2.2.2.2.2.2.2.2.2.2.2.2.2.2.2.2.2.2.2.1, v28_152.2.2.2.2.2.2.2.2.2.2.2.2.2.2.2.2.2.2.2.2.2.2.2.2.2.2.2.2.2.2.2.1, v28_152.2.2.2.2.2.2.2.2.2.2.2.2.2.2.2.2.2.2.2.2.2.2.2.2.2.2.2.2.2.2.2.2.1, v28_152.2.2.2.2.2.2.2.2.2.2.2.2.2.2.2.2.2.2.2.2.2.2.2.2.2.2.2.2.2.2.2.2.2)
def f6_J4 {X : Type} (R_f7 : f7_R) (R_f17 : f17_R) (R_f8 : f8_R) (R_f9 : f9_R) (R_f19 : f19_R) (R_f18 : f18_R) (R_f28 : f28_R) (R_f29 : f29_R) (R_f27 : f27_R) (R_f26 : f26_R) (R_f16 : f16_R) (R_f20 : f20_R) (R_f21 : f21_R) (R_f22 : f22_R) (R_f23 : f23_R) (R_f24 : f24_R) (R_f11 : f11_R) (R_f25 : f25_R) (k : Nat) (K : Bool → Option X) (e101 : CV) (rec1 : Nat × (List CV) × Int × Int × (List CV) × Nat × (List CV) → Option X) (v8_5 : Nat × (List CV) × Int × Int × (List CV) × Nat × (List CV)) (v188 : Bool) : Option X :=
(bif v188 then
R_f11 _ (fun u189 =>
R_f25 _ (fun u190 =>
R_f27 _ (fun u191 =>
R_f26 _ (fun u192 =>
(bif (!u192) then
K (false)
else
R_f28 _ (fun u193 =>
(bif (u193.1 != (Nat.cast (u190.1) : Int)) then
K (false)
else
R_f29 _ (fun u194 =>
R_f27 _ (fun u195 =>
R_f26 _ (fun u196 =>
(bif (!u196) then
K (false)
else
rec1 (u190.1, v8_5.2.1, v8_5.2.2.1, (IntKind.wrap .i64 (v8_5.2.2.2.1 + 1)), u190.2.2.1, u194.2.1, u194.2.2.1))) ((List.take u195.1 (List.drop 0 u195.2))) ((List.take u190.1 (List.drop 0 u190.2.2.1)))) ((List.take u194.1 (List.drop 0 u194.2.2.2)))) (u193.2.1) (u193.2.2))) (u189.2.1) (u189.2.2.1))) ((List.take u191.1 (List.drop 0 u191.2))) ((List.take u190.2.1 (List.drop 0 u190.2.2.2)))) ((List.take u189.1 (List.drop 0 u189.2.2.2)))) ((List.take v8_5.1 (List.drop 0 v8_5.2.2.2.2.1))) ((CV.toL (CV.cellD 22 e101))) ((CV.toI (CV.cellD 23 e101)))) ((CV.toL (CV.cellD 22 e101))) ((CV.toI (CV.cellD 23 e101))) (v8_5.2.2.2.2.2.1) (v8_5.2.2.2.2.2.2)
else
R_f28 _ (fun u197 =>
(bif (u197.1 != (Nat.cast (v8_5.1) : Int)) then
K (false)
else
R_f29 _ (fun u198 =>
R_f27 _ (fun u199 =>
R_f26 _ (fun u200 =>
(bif (!u200) then
K (false)
else
rec1 (v8_5.1, v8_5.2.1, v8_5.2.2.1, (IntKind.wrap .i64 (v8_5.2.2.2.1 + 1)), v8_5.2.2.2.2.1, u198.2.1, u198.2.2.1))) ((List.take u199.1 (List.drop 0 u199.2))) ((List.take v8_5.1 (List.drop 0 v8_5.2.2.2.2.1)))) ((List.take u198.1 (List.drop 0 u198.2.2.2)))) (u197.2.1) (u197.2.2))) (v8_5.2.2.2.2.2.1) (v8_5.2.2.2.2.2.2))
def f6_J5 {X : Type} (R_f7 : f7_R) (R_f17 : f17_R) (R_f8 : f8_R) (R_f9 : f9_R) (R_f19 : f19_R) (R_f18 : f18_R) (R_f28 : f28_R) (R_f29 : f29_R) (R_f27 : f27_R) (R_f26 : f26_R) (R_f16 : f16_R) (R_f20 : f20_R) (R_f21 : f21_R) (R_f22 : f22_R) (R_f23 : f23_R) (R_f24 : f24_R) (R_f11 : f11_R) (R_f25 : f25_R) (k : Nat) (K : Bool → Option X) (e101 : CV) (loop2 : Nat × Nat × (List CV) × Int × Int × Nat × Int × Int × (List CV) × Int × Int × (List CV) × (List CV) × Int × Int × Bool × Bool × Int × Int × Int × Bool × Bool × Bool × Int × Int × ByteArray × (List CV) × Int × Int × Int × Int × (List CV) × Int × (List CV) × Nat × (List CV) → Option X) (loop3 : Nat × Bool × (List CV) × Int × Int × Int × Int × (List CV) × Int × Int × (List CV) × (List CV) × Int × Int × Bool × Bool × Int × Int × Int × Bool × Bool × Bool × Int × Int × ByteArray × (List CV) × Int × Int × Int × Int × (List CV) × Int × Nat × (List CV) → Option X) (rec1 : Nat × (List CV) × Int × Int × (List CV) × Nat × (List CV) → Option X) (v8_5 : Nat × (List CV) × Int × Int × (List CV) × Nat × (List CV)) (v110 : Bool) : Option X :=
(bif v110 then
loop2 (v8_5.1, 0, v8_5.2.1, v8_5.2.2.1, v8_5.2.2.2.1, v8_5.1, (Nat.cast (v8_5.1) : Int), 0, v8_5.2.2.2.2.1, (CV.toI (CV.cellD 0 e101)), (CV.toI (CV.cellD 1 e101)), (CV.toL (CV.cellD 2 e101)), (CV.toL (CV.cellD 3 e101)), (CV.toI (CV.cellD 4 e101)), (CV.toI (CV.cellD 5 e101)), (CV.toB (CV.cellD 6 e101)), (CV.toB (CV.cellD 7 e101)), (CV.toI (CV.cellD 8 e101)), (CV.toI (CV.cellD 9 e101)), (CV.toI (CV.cellD 10 e101)), (CV.toB (CV.cellD 11 e101)), (CV.toB (CV.cellD 12 e101)), (CV.toB (CV.cellD 13 e101)), (CV.toI (CV.cellD 14 e101)), (CV.toI (CV.cellD 15 e101)), (CV.toS (CV.cellD 16 e101)), (CV.toL (CV.cellD 17 e101)), (CV.toI (CV.cellD 18 e101)), (CV.toI (CV.cellD 19 e101)), (CV.toI (CV.cellD 20 e101)), (CV.toI (CV.cellD 21 e101)), (CV.toL (CV.cellD 22 e101)), (CV.toI (CV.cellD 23 e101)), [], v8_5.2.2.2.2.2.1, v8_5.2.2.2.2.2.2)
else
(bif ((CV.toI (CV.cellD 0 e101)) == 8) then
loop3 (v8_5.1, false, v8_5.2.1, v8_5.2.2.1, v8_5.2.2.2.1, (Nat.cast (v8_5.1) : Int), 0, v8_5.2.2.2.2.1, (CV.toI (CV.cellD 0 e101)), (CV.toI (CV.cellD 1 e101)), (CV.toL (CV.cellD 2 e101)), (CV.toL (CV.cellD 3 e101)), (CV.toI (CV.cellD 4 e101)), (CV.toI (CV.cellD 5 e101)), (CV.toB (CV.cellD 6 e101)), (CV.toB (CV.cellD 7 e101)), (CV.toI (CV.cellD 8 e101)), (CV.toI (CV.cellD 9 e101)), (CV.toI (CV.cellD 10 e101)), (CV.toB (CV.cellD 11 e101)), (CV.toB (CV.cellD 12 e101)), (CV.toB (CV.cellD 13 e101)), (CV.toI (CV.cellD 14 e101)), (CV.toI (CV.cellD 15 e101)), (CV.toS (CV.cellD 16 e101)), (CV.toL (CV.cellD 17 e101)), (CV.toI (CV.cellD 18 e101)), (CV.toI (CV.cellD 19 e101)), (CV.toI (CV.cellD 20 e101)), (CV.toI (CV.cellD 21 e101)), (CV.toL (CV.cellD 22 e101)), (CV.toI (CV.cellD 23 e101)), v8_5.2.2.2.2.2.1, v8_5.2.2.2.2.2.2)
else
(bif ((CV.toI (CV.cellD 0 e101)) == 5) then
f6_J4 R_f7 R_f17 R_f8 R_f9 R_f19 R_f18 R_f28 R_f29 R_f27 R_f26 R_f16 R_f20 R_f21 R_f22 R_f23 R_f24 R_f11 R_f25 k K e101 rec1 v8_5 (((CV.toI (CV.cellD 0 e101)) == 5))
else
(bif ((CV.toI (CV.cellD 0 e101)) == 6) then
f6_J4 R_f7 R_f17 R_f8 R_f9 R_f19 R_f18 R_f28 R_f29 R_f27 R_f26 R_f16 R_f20 R_f21 R_f22 R_f23 R_f24 R_f11 R_f25 k K e101 rec1 v8_5 (((CV.toI (CV.cellD 0 e101)) == 6))
else
f6_J4 R_f7 R_f17 R_f8 R_f9 R_f19 R_f18 R_f28 R_f29 R_f27 R_f26 R_f16 R_f20 R_f21 R_f22 R_f23 R_f24 R_f11 R_f25 k K e101 rec1 v8_5 (((CV.toI (CV.cellD 0 e101)) == 7))))))
def f6_J6 {X : Type} (R_f7 : f7_R) (R_f17 : f17_R) (R_f8 : f8_R) (R_f9 : f9_R) (R_f19 : f19_R) (R_f18 : f18_R) (R_f28 : f28_R) (R_f29 : f29_R) (R_f27 : f27_R) (R_f26 : f26_R) (R_f16 : f16_R) (R_f20 : f20_R) (R_f21 : f21_R) (R_f22 : f22_R) (R_f23 : f23_R) (R_f24 : f24_R) (R_f11 : f11_R) (R_f25 : f25_R) (k : Nat) (K : Bool → Option X) (e101 : CV) (loop2 : Nat × Nat × (List CV) × Int × Int × Nat × Int × Int × (List CV) × Int × Int × (List CV) × (List CV) × Int × Int × Bool × Bool × Int × Int × Int × Bool × Bool × Bool × Int × Int × ByteArray × (List CV) × Int × Int × Int × Int × (List CV) × Int × (List CV) × Nat × (List CV) → Option X) (loop3 : Nat × Bool × (List CV) × Int × Int × Int × Int × (List CV) × Int × Int × (List CV) × (List CV) × Int × Int × Bool × Bool × Int × Int × Int × Bool × Bool × Bool × Int × Int × ByteArray × (List CV) × Int × Int × Int × Int × (List CV) × Int × Nat × (List CV) → Option X) (rec1 : Nat × (List CV) × Int × Int × (List CV) × Nat × (List CV) → Option X) (v8_5 : Nat × (List CV) × Int × Int × (List CV) × Nat × (List CV)) (v102 : Bool) : Option X :=
(bif v102 then
R_f9 _ (fun u103 =>
R_f19 _ (fun u104 =>
R_f18 _ (fun u105 =>
(bif (u103.1 != u105.2.1) then
K (false)
else
R_f28 _ (fun u106 =>
(bif (u106.1 != (Nat.cast (u105.1) : Int)) then
K (false)
else
R_f29 _ (fun u107 =>
R_f27 _ (fun u108 =>
R_f26 _ (fun u109 =>
(bif (!u109) then
K (false)
else
rec1 (u105.1, v8_5.2.1, v8_5.2.2.1, (IntKind.wrap .i64 (v8_5.2.2.2.1 + 1)), u105.2.2, u107.2.1, u107.2.2.1))) ((List.take u108.1 (List.drop 0 u108.2))) ((List.take u105.1 (List.drop 0 u105.2.2)))) ((List.take u107.1 (List.drop 0 u107.2.2.2)))) (u106.2.1) (u106.2.2))) (u103.2.1) (u103.2.2))) (v8_5.1) ((CV.agg [(CV.int .i64 u104.1), (CV.slc none u104.2.1), (CV.slc none u104.2.2.1), (CV.int .i64 u104.2.2.2.1), (CV.int .i64 u104.2.2.2.2.1), (CV.bool u104.2.2.2.2.2.1), (CV.bool u104.2.2.2.2.2.2.1), (CV.int .i64 u104.2.2.2.2.2.2.2.1), (CV.int .i64 u104.2.2.2.2.2.2.2.2.1), (CV.int .i64 u104.2.2.2.2.2.2.2.2.2.1), (CV.bool u104.2.2.2.2.2.2.2.2.2.2.1), (CV.bool u104.2.2.2.2.2.2.2.2.2.2.2.1), (CV.bool u104.2.2.2.2.2.2.2.2.2.2.2.2.1), (CV.int .i64 u104.2.2.2.2.2.2.2.2.2.2.2.2.2.1), (CV.int .i64 u104.2.2.2.2.2.2.2.2.2.2.2.2.2.2.1), (CV.str u104.2.2.2.2.2.2.2.2.2.2.2.2.2.2.2.1), (CV.slc none u104.2.2.2.2.2.2.2.2.2.2.2.2.2.2.2.2.1), (CV.int .i64 u104.2.2.2.2.2.2.2.2.2.2.2.2.2.2.2.2.2.1), (CV.int .i64 u104.2.2.2.2.2.2.2.2.2.2.2.2.2.2.2.2.2.2.1), (CV.int .i64 u104.2.2.2.2.2.2.2.2.2.2.2.2.2.2.2.2.2.2.2.1), (CV.int .i64 u104.2.2.2.2.2.2.2.2.2.2.2.2.2.2.2.2.2.2.2.2)])) (v8_5.2.2.2.2.1)) ((CV.agg [(CV.int .i64 (CV.toI (CV.cellD 1 e101))), (CV.slc none (CV.toL (CV.cellD 2 e101))), (CV.slc none (CV.toL (CV.cellD 3 e101))), (CV.int .i64 (CV.toI (CV.cellD 4 e101))), (CV.int .i64 (CV.toI (CV.cellD 5 e101))), (CV.bool (CV.toB (CV.cellD 6 e101))), (CV.bool (CV.toB (CV.cellD 7 e101))), (CV.int .i64 (CV.toI (CV.cellD 8 e101))), (CV.int .i64 (CV.toI (CV.cellD 9 e101))), (CV.int .i64 (CV.toI (CV.cellD 10 e101))), (CV.bool (CV.toB (CV.cellD 11 e101))), (CV.bool (CV.toB (CV.cellD 12 e101))), (CV.bool (CV.toB (CV.cellD 13 e101))), (CV.int .i64 (CV.toI (CV.cellD 14 e101))), (CV.int .i64 (CV.toI (CV.cellD 15 e101))), (CV.str (CV.toS (CV.cellD 16 e101))), (CV.slc none (CV.toL (CV.cellD 17 e101))), (CV.int .i64 (CV.toI (CV.cellD 18 e101))), (CV.int .i64 (CV.toI (CV.cellD 19 e101))), (CV.int .i64 (CV.toI (CV.cellD 20 e101))), (CV.int .i64 (CV.toI (CV.cellD 21 e101)))]))) ((CV.agg [(CV.int .i64 (CV.toI (CV.cellD 1 e101))), (CV.slc none (CV.toL (CV.cellD 2 e101))), (CV.slc none (CV.toL (CV.cellD 3 e101))), (CV.int .i64 (CV.toI (CV.cellD 4 e101))), (CV.int .i64 (CV.toI (CV.cellD 5 e101))), (CV.bool (CV.toB (CV.cellD 6 e101))), (CV.bool (CV.toB (CV.cellD 7 e101))), (CV.int .i64 (CV.toI (CV.cellD 8 e101))), (CV.int .i64 (CV.toI (CV.cellD 9 e101))), (CV.int .i64 (CV.toI (CV.cellD 10 e101))), (CV.bool (CV.toB (CV.cellD 11 e101))), (CV.bool (CV.toB (CV.cellD 12 e101))), (CV.bool (CV.toB (CV.cellD 13 e101))), (CV.int .i64 (CV.toI (CV.cellD 14 e101))), (CV.int .i64 (CV.toI (CV.cellD 15 e101))), (CV.str (CV.toS (CV.cellD 16 e101))), (CV.slc none (CV.toL (CV.cellD 17 e101))), (CV.int .i64 (CV.toI (CV.cellD 18 e101))), (CV.int .i64 (CV.toI (CV.cellD 19 e101))), (CV.int .i64 (CV.toI (CV.cellD 20 e101))), (CV.int .i64 (CV.toI (CV.cellD 21 e101)))])) (v8_5.2.2.2.2.2.1) (v8_5.2.2.2.2.2.2)
else
(bif ((CV.toI (CV.cellD 0 e101)) == 2) then
f6_J5 R_f7 R_f17 R_f8 R_f9 R_f19 R_f18 R_f28 R_f29 R_f27 R_f26 R_f16 R_f20 R_f21 R_f22 R_f23 R_f24 R_f11 R_f25 k K e101 loop2 loop3 rec1 v8_5 (((CV.toI (CV.cellD 0 e101)) == 2))
else
(bif ((CV.toI (CV.cellD 0 e101)) == 3) then
f6_J5 R_f7 R_f17 R_f8 R_f9 R_f19 R_f18 R_f28 R_f29 R_f27 R_f26 R_f16 R_f20 R_f21 R_f22 R_f23 R_f24 R_f11 R_f25 k K e101 loop2 loop3 rec1 v8_5 (((CV.toI (CV.cellD 0 e101)) == 3))
else
f6_J5 R_f7 R_f17 R_f8 R_f9 R_f19 R_f18 R_f28 R_f29 R_f27 R_f26 R_f16 R_f20 R_f21 R_f22 R_f23 R_f24 R_f11 R_f25 k K e101 loop2 loop3 rec1 v8_5 (((CV.toI (CV.cellD 0 e101)) == 4)))))
def f6_T3 {X : Type} (R_f7 : f7_R) (R_f17 : f17_R) (R_f8 : f8_R) (R_f9 : f9_R) (R_f19 : f19_R) (R_f18 : f18_R) (R_f28 : f28_R) (R_f29 : f29_R) (R_f27 : f27_R) (R_f26 : f26_R) (R_f16 : f16_R) (R_f20 : f20_R) (R_f21 : f21_R) (R_f22 : f22_R) (R_f23 : f23_R) (R_f24 : f24_R) (R_f11 : f11_R) (R_f25 : f25_R) (k : Nat) (K : Bool → Option X) (rec1 : Nat × (List CV) × Int × Int × (List CV) × Nat × (List CV) → Option X)  (rec3 : Nat × Bool × (List CV) × Int × Int × Int × Int × (List CV) × Int × Int × (List CV) × (List CV) × Int × Int × Bool × Bool × Int × Int × Int × Bool × Bool × Bool × Int × Int × ByteArray × (List CV) × Int × Int × Int × Int × (List CV) × Int × Nat × (List CV) → Option X) (v28_152 : Nat × Bool × (List CV) × Int × Int × Int × Int × (List CV) × Int × Int × (List CV) × (List CV) × Int × Int × Bool × Bool × Int × Int × Int × Bool × Bool × Bool × Int × Int × ByteArray × (List CV) × Int × Int × Int × Int × (List CV) × Int × Nat × (List CV)) : Option X :=
(bif (decide (v28_152.2.2.2.2.2.2.1 < v28_152.2.2.2.2.2.1)) then
grd (decide (0 ≤ v28_152.2.2.2.2.2.2.1)) <|
grd (decide (v28_152.2.2.2.2.2.2.1 < (Nat.cast (v28_152.1) : Int))) <|
Option.bind (v28_152.2.2.2.2.2.2.2.1)[(0 + (Int.toNat v28_152.2.2.2.2.2.2.1))]? fun e176 =>
Option.bind (CV.cell e176 0) fun c177 =>
grd (CV.isI .i64 c177) <|
(bif ((CV.toI c177) == v28_152.2.2.2.2.2.2.2.2.2.1) then
grd (decide (0 ≤ v28_152.2.2.2.2.2.2.1)) <|
grd (decide (v28_152.2.2.2.2.2.2.1 < (Nat.cast (v28_152.1) : Int))) <|
Option.bind (v28_152.2.2.2.2.2.2.2.1)[(0 + (Int.toNat v28_152.2.2.2.2.2.2.1))]? fun e178 =>
Option.bind (CV.cell e178 1) fun c179 =>
grd (CV.isL none c179) <|
R_f16 _ (fun u180 =>
(bif u180 then
grd (decide (0 ≤ v28_152.2.2.2.2.2.2.1)) <|
grd (decide (v28_152.2.2.2.2.2.2.1 < (Nat.cast (v28_152.1) : Int))) <|
Option.bind (v28_152.2.2.2.2.2.2.2.1)[(0 + (Int.toNat v28_152.2.2.2.2.2.2.1))]? fun e181 =>
(setRun e181 3 10 [(CV.int .i64 v28_152.2.2.2.2.2.2.2.2.2.2.2.2.1), (CV.int .i64 v28_152.2.2.2.2.2.2.2.2.2.2.2.2.2.1), (CV.bool v28_152.2.2.2.2.2.2.2.2.2.2.2.2.2.2.1), (CV.bool v28_152.2.2.2.2.2.2.2.2.2.2.2.2.2.2.2.1), (CV.int .i64 v28_152.2.2.2.2.2.2.2.2.2.2.2.2.2.2.2.2.1), (CV.int .i64 v28_152.2.2.2.2.2.2.2.2.2.2.2.2.2.2.2.2.2.1), (CV.int .i64 v28_152.2.2.2.2.2.2.2.2.2.2.2.2.2.2.2.2.2.2.1), (CV.bool v28_152.2.2.2.2.2.2.2.2.2.2.2.2.2.2.2.2.2.2.2.1), (CV.bool v28_152.2.2.2.2.2.2.2.2.2.2.2.2.2.2.2.2.2.2.2.2.1), (CV.bool v28_152.2.2.2.2.2.2.2.2.2.2.2.2.2.2.2.2.2.2.2.2.2.1)] fun d182 =>
f6_J3 R_f7 R_f17 R_f8 R_f9 R_f19 R_f18 R_f28 R_f29 R_f27 R_f26 R_f16 R_f20 R_f21 R_f22 R_f23 R_f24 R_f11 R_f25 k K rec3 v28_152 (true, (List.set v28_152.2.2.2.2.2.2.2.1 (0 + (Int.toNat v28_152.2.2.2.2.2.2.1)) d182)))
else
f6_J3 R_f7 R_f17 R_f8 R_f9 R_f19 R_f18 R_f28 R_f29 R_f27 R_f26 R_f16 R_f20 R_f21 R_f22 R_f23 R_f24 R_f11 R_f25 k K rec3 v28_152 (v28_152.2.1, v28_152.2.2.2.2.2.2.2.1))) ((CV.toL c179)) (v28_152.2.2.2.2.2.2.2.2.2.2.1)
else
f6_J3 R_f7 R_f17 R_f8 R_f9 R_f19 R_f18 R_f28 R_f29 R_f27 R_f26 R_f16 R_f20 R_f21 R_f22 R_f23 R_f24 R_f11 R_f25 k K rec3 v28_152 (v28_152.2.1, v28_152.2.2.2.2.2.2.2.1))
else
R_f24 _ (fun u183 =>
(bif (!(u183.1 == v28_152.2.1)) then
K (false)
else
R_f28 _ (fun u184 =>
(bif (u184.1 != (Nat.cast (v28_152.1) : Int)) then
K (false)
else
R_f29 _ (fun u185 =>
R_f27 _ (fun u186 =>
R_f26 _ (fun u187 =>
(bif (!u187) then
K (false)
else
rec1 (v28_152.1, v28_152.2.2.1, v28_152.2.2.2.1, (IntKind.wrap .i64 (v28_152.2.2.2.2.1 + 1)), v28_152.2.2.2.2.2.2.2.1, u185.2.1, u185.2.2.1))) ((List.take u186.1 (List.drop 0 u186.2))) ((List.take v28_152.1 (List.drop 0 v28_152.2.2.2.2.2.2.2.1)))) ((List.take u185.1 (List.drop 0 u185.2.2.2)))) (u184.2.1) (u184.2.2))) (u183.2.1) (u183.2.2))) (v28_152.2.2.2.2.2.2.2.2.2.1) (v28_152.2.2.2.2.2.2.2.2.2.2.1) ((CV.agg [(CV.int .i64 v28_152.2.2.2.2.2.2.2.2.2.2.2.2.1), (CV.int .i64 v28_152.2.2.2.2.2.2.2.2.2.2.2.2.2.1), (CV.bool v28_152.2.2.2.2.2.2.2.2.2.2.2.2.2.2.1), (CV.bool v28_152.2.2.2.2.2.2.2.2.2.2.2.2.2.2.2.1), (CV.int .i64 v28_152.2.2.2.2.2.2.2.2.2.2.2.2.2.2.2.2.1), (CV.int .i64 v28_152.2.2.2.2.2.2.2.2.2.2.2.2.2.2.2.2.2.1), (CV.int .i64 v28_152.2.2.2.2.2.2.2.2.2.2.2.2.2.2.2.2.2.2.1), (CV.bool v28_152.2.2.2.2.2.2.2.2.2.2.2.2.2.2.2.2.2.2.2.1), (CV.bool v28_152.2.2.2.2.2.2.2.2.2.2.2.2.2.2.2.2.2.2.2.2.1), (CV.bool v28_152.2.2.2.2.2.2.2.2.2.2.2.2.2.2.2.2.2.2.2.2.2.1)])) (v28_152.2.2.2.2.2.2.2.2.2.2.2.2.2.2.2.2.2.2.2.2.2.2.2.2.2.2.2.2.2.2.2.2.1) (v28_152.2.2.2.2.2.2.2.2.2.2.2.2.2.2.2.2.2.2.2.2.2.2.2.2.2.2.2.2.2.2.2.2.2))
def f6_L3 {X : Type} (R_f7 : f7_R) (R_f17 : f17_R) (R_f8 : f8_R) (R_f9 : f9_R) (R_f19 : f19_R) (R_f18 : f18_R) (R_f28 : f28_R) (R_f29 : f29_R) (R_f27 : f27_R) (R_f26 : f26_R) (R_f16 : f16_R) (R_f20 : f20_R) (R_f21 : f21_R) (R_f22 : f22_R) (R_f23 : f23_R) (R_f24 : f24_R) (R_f11 : f11_R) (R_f25 : f25_R) (k : Nat) (K : Bool → Option X) (rec1 : Nat × (List CV) × Int × Int × (List CV) × Nat × (List CV) → Option X) (rec3 : Nat × Bool × (List CV) × Int × Int × Int × Int × (List CV) × Int × Int × (List CV) × (List CV) × Int × Int × Bool × Bool × Int × Int × Int × Bool × Bool × Bool × Int × Int × ByteArray × (List CV) × Int × Int × Int × Int × (List CV) × Int × Nat × (List CV) → Option X) (v : Nat × Bool × (List CV) × Int × Int × Int × Int × (List CV) × Int × Int × (List CV) × (List CV) × Int × Int × Bool × Bool × Int × Int × Int × Bool × Bool × Bool × Int × Int × ByteArray × (List CV) × Int × Int × Int × Int × (List CV) × Int × Nat × (List CV)) : Option X := f6_T3 R_f7 R_f17 R_f8 R_f9 R_f19 R_f18 R_f28 R_f29 R_f27 R_f26 R_f16 R_f20 R_f21 R_f22 R_f23 R_f24 R_f11 R_f25 k K rec1  rec3 v
set_option maxRecDepth 100000 in
theorem f6_L3_ev {X : Type} (R_f7 : f7_R) (R_f17 : f17_R) (R_f8 : f8_R) (R_f9 : f9_R) (R_f19 : f19_R) (R_f18 : f18_R) (R_f28 : f28_R) (R_f29 : f29_R) (R_f27 : f27_R) (R_f26 : f26_R) (R_f16 : f16_R) (R_f20 : f20_R) (R_f21 : f21_R) (R_f22 : f22_R) (R_f23 : f23_R) (R_f24 : f24_R) (R_f11 : f11_R) (R_f25 : f25_R) (hR_f7 : AnsOk Try.prog 7 (f7_cOf R_f7)) (hR_f17 : AnsOk Try.prog 17 (f17_cOf R_f17)) (hR_f8 : AnsOk Try.prog 8 (f8_cOf R_f8)) (hR_f9 : AnsOk Try.prog 9 (f9_cOf R_f9)) (hR_f19 : AnsOk Try.prog 19 (f19_cOf R_f19)) (hR_f18 : AnsOk Try.prog 18 (f18_cOf R_f18)) (hR_f28 : AnsOk Try.prog 28 (f28_cOf R_f28)) (hR_f29 : AnsOk Try.prog 29 (f29_cOf R_f29)) (hR_f27 : AnsOk Try.prog 27 (f27_cOf R_f27)) (hR_f26 : AnsOk Try.prog 26 (f26_cOf R_f26)) (hR_f16 : AnsOk Try.prog 16 (f16_cOf R_f16)) (hR_f20 : AnsOk Try.prog 20 (f20_cOf R_f20)) (hR_f21 : AnsOk Try.prog 21 (f21_cOf R_f21)) (hR_f22 : AnsOk Try.prog 22 (f22_cOf R_f22)) (hR_f23 : AnsOk Try.prog 23 (f23_cOf R_f23)) (hR_f24 : AnsOk Try.prog 24 (f24_cOf R_f24)) (hR_f11 : AnsOk Try.prog 11 (f11_cOf R_f11)) (hR_f25 : AnsOk Try.prog 25 (f25_cOf R_f25)) (k : Nat) (K : Out → Option X) (r1 : St → Option X) (r3 : St → Option X) (v : Nat × Bool × (List CV) × Int × Int × Int × Int × (List CV) × Int × Int × (List CV) × (List CV) × Int × Int × Bool × Bool × Int × Int × Int × Bool × Bool × Bool × Int × Int × ByteArray × (List CV) × Int × Int × Int × Int × (List CV) × Int × Nat × (List CV)) : loopB (f6_cx R_f7 R_f17 R_f8 R_f9 R_f19 R_f18 R_f28 R_f29 R_f27 R_f26 R_f16 R_f20 R_f21 R_f22 R_f23 R_f24 R_f11 R_f25 hR_f7 hR_f17 hR_f8 hR_f9 hR_f19 hR_f18 hR_f28 hR_f29 hR_f27 hR_f26 hR_f16 hR_f20 hR_f21 hR_f22 hR_f23 hR_f24 hR_f11 hR_f25) k [.r, .r, .r, .r, .r, .l, .r, .b, .o, .r, .r, .l, .b, .r, .r, .l, .r, .b, .r, .e, .r, .e, .r, .t, .r, .l, .r, .b] (Try.f6.body.getD .skip) (retK (f6_cx R_f7 R_f17 R_f8 R_f9 R_f19 R_f18 R_f28 R_f29 R_f27 R_f26 R_f16 R_f20 R_f21 R_f22 R_f23 R_f24 R_f11 R_f25 hR_f7 hR_f17 hR_f8 hR_f9 hR_f19 hR_f18 hR_f28 hR_f29 hR_f27 hR_f26 hR_f16 hR_f20 hR_f21 hR_f22 hR_f23 hR_f24 hR_f11 hR_f25) [] Try.f6.results.toList K) [r1] r3 (f6_S3 v) = f6_T3 R_f7 R_f17 R_f8 R_f9 R_f19 R_f18 R_f28 R_f29 R_f27 R_f26 R_f16 R_f20 R_f21 R_f22 R_f23 R_f24 R_f11 R_f25 k (fun u => K (f6_out u)) (fun v => r1 (f6_S1 v))  (fun v => r3 (f6_S3 v)) v := by kernel_rfl
theorem f6_L3_it {X : Type} (R_f7 : f7_R) (R_f17 : f17_R) (R_f8 : f8_R) (R_f9 : f9_R) (R_f19 : f19_R) (R_f18 : f18_R) (R_f28 : f28_R) (R_f29 : f29_R) (R_f27 : f27_R) (R_f26 : f26_R) (R_f16 : f16_R) (R_f20 : f20_R) (R_f21 : f21_R) (R_f22 : f22_R) (R_f23 : f23_R) (R_f24 : f24_R) (R_f11 : f11_R) (R_f25 : f25_R) (hR_f7 : AnsOk Try.prog 7 (f7_cOf R_f7)) (hR_f17 : AnsOk Try.prog 17 (f17_cOf R_f17)) (hR_f8 : AnsOk Try.prog 8 (f8_cOf R_f8)) (hR_f9 : AnsOk Try.prog 9 (f9_cOf R_f9)) (hR_f19 : AnsOk Try.prog 19 (f19_cOf R_f19)) (hR_f18 : AnsOk Try.prog 18 (f18_cOf R_f18)) (hR_f28 : AnsOk Try.prog 28 (f28_cOf R_f28)) (hR_f29 : AnsOk Try.prog 29 (f29_cOf R_f29)) (hR_f27 : AnsOk Try.prog 27 (f27_cOf R_f27)) (hR_f26 : AnsOk Try.prog 26 (f26_cOf R_f26)) (hR_f16 : AnsOk Try.prog 16 (f16_cOf R_f16)) (hR_f20 : AnsOk Try.prog 20 (f20_cOf R_f20)) (hR_f21 : AnsOk Try.prog 21 (f21_cOf R_f21)) (hR_f22 : AnsOk Try.prog 22 (f22_cOf R_f22)) (hR_f23 : AnsOk Try.prog 23 (f23_cOf R_f23)) (hR_f24 : AnsOk Try.prog 24 (f24_cOf R_f24)) (hR_f11 : AnsOk Try.prog 11 (f11_cOf R_f11)) (hR_f25 : AnsOk Try.prog 25 (f25_cOf R_f25)) (k : Nat) (K : Out → Option X) (r1 : St → Option X) : (fun v => iter (loopB (f6_cx R_f7 R_f17 R_f8 R_f9 R_f19 R_f18 R_f28 R_f29 R_f27 R_f26 R_f16 R_f20 R_f21 R_f22 R_f23 R_f24 R_f11 R_f25 hR_f7 hR_f17 hR_f8 hR_f9 hR_f19 hR_f18 hR_f28 hR_f29 hR_f27 hR_f26 hR_f16 hR_f20 hR_f21 hR_f22 hR_f23 hR_f24 hR_f11 hR_f25) k [.r, .r, .r, .r, .r, .l, .r, .b, .o, .r, .r, .l, .b, .r, .r, .l, .r, .b, .r, .e, .r, .e, .r, .t, .r, .l, .r, .b] (Try.f6.body.getD .skip) (retK (f6_cx R_f7 R_f17 R_f8 R_f9 R_f19 R_f18 R_f28 R_f29 R_f27 R_f26 R_f16 R_f20 R_f21 R_f22 R_f23 R_f24 R_f11 R_f25 hR_f7 hR_f17 hR_f8 hR_f9 hR_f19 hR_f18 hR_f28 hR_f29 hR_f27 hR_f26 hR_f16 hR_f20 hR_f21 hR_f22 hR_f23 hR_f24 hR_f11 hR_f25) [] Try.f6.results.toList K) [r1]) k (f6_S3 v)) = iterV (f6_L3 R_f7 R_f17 R_f8 R_f9 R_f19 R_f18 R_f28 R_f29 R_f27 R_f26 R_f16 R_f20 R_f21 R_f22 R_f23 R_f24 R_f11 R_f25 k (fun u => K (f6_out u)) (fun v => r1 (f6_S1 v))) k :=
  iter_map (fun r3 v => (f6_L3_ev R_f7 R_f17 R_f8 R_f9 R_f19 R_f18 R_f28 R_f29 R_f27 R_f26 R_f16 R_f20 R_f21 R_f22 R_f23 R_f24 R_f11 R_f25 hR_f7 hR_f17 hR_f8 hR_f9 hR_f19 hR_f18 hR_f28 hR_f29 hR_f27 hR_f26 hR_f16 hR_f20 hR_f21 hR_f22 hR_f23 hR_f24 hR_f11 hR_f25 k K r1 r3 v).trans rfl) k
def f6_T2 {X : Type} (R_f7 : f7_R) (R_f17 : f17_R) (R_f8 : f8_R) (R_f9 : f9_R) (R_f19 : f19_R) (R_f18 : f18_R) (R_f28 : f28_R) (R_f29 : f29_R) (R_f27 : f27_R) (R_f26 : f26_R) (R_f16 : f16_R) (R_f20 : f20_R) (R_f21 : f21_R) (R_f22 : f22_R) (R_f23 : f23_R) (R_f24 : f24_R) (R_f11 : f11_R) (R_f25 : f25_R) (k : Nat) (K : Bool → Option X) (rec1 : Nat × (List CV) × Int × Int × (List CV) × Nat × (List CV) → Option X)  (rec2 : Nat × Nat × (List CV) × Int × Int × Nat × Int × Int × (List CV) × Int × Int × (List CV) × (List CV) × Int × Int × Bool × Bool × Int × Int × Int × Bool × Bool × Bool × Int × Int × ByteArray × (List CV) × Int × Int × Int × Int × (List CV) × Int × (List CV) × Nat × (List CV) → Option X) (v25_110 : Nat × Nat × (List CV) × Int × Int × Nat × Int × Int × (List CV) × Int × Int × (List CV) × (List CV) × Int × Int × Bool × Bool × Int × Int × Int × Bool × Bool × Bool × Int × Int × ByteArray × (List CV) × Int × Int × Int × Int × (List CV) × Int × (List CV) × Nat × (List CV)) : Option X :=
(bif (decide (v25_110.2.2.2.2.2.2.2.1 < v25_110.2.2.2.2.2.2.1)) then
grd (decide (0 ≤ v25_110.2.2.2.2.2.2.2.1)) <|
grd (decide (v25_110.2.2.2.2.2.2.2.1 < (Nat.cast (v25_110.2.2.2.2.2.1) : Int))) <|
Option.bind (v25_110.2.2.2.2.2.2.2.2.1)[(0 + (Int.toNat v25_110.2.2.2.2.2.2.2.1))]? fun e128 =>
grd (CV.isA 21 e128) <|
grd (CV.isI .i64 (CV.cellD 0 e128)) <|
grd (CV.isL none (CV.cellD 1 e128)) <|
grd (CV.isL none (CV.cellD 2 e128)) <|
grd (CV.isI .i64 (CV.cellD 3 e128)) <|
grd (CV.isI .i64 (CV.cellD 4 e128)) <|
grd (CV.isB (CV.cellD 5 e128)) <|
grd (CV.isB (CV.cellD 6 e128)) <|
grd (CV.isI .i64 (CV.cellD 7 e128)) <|
grd (CV.isI .i64 (CV.cellD 8 e128)) <|
grd (CV.isI .i64 (CV.cellD 9 e128)) <|
grd (CV.isB (CV.cellD 10 e128)) <|
grd (CV.isB (CV.cellD 11 e128)) <|
grd (CV.isB (CV.cellD 12 e128)) <|
grd (CV.isI .i64 (CV.cellD 13 e128)) <|
grd (CV.isI .i64 (CV.cellD 14 e128)) <|
grd (CV.isS (CV.cellD 15 e128)) <|
grd (CV.isL none (CV.cellD 16 e128)) <|
grd (CV.isI .i64 (CV.cellD 17 e128)) <|
grd (CV.isI .i64 (CV.cellD 18 e128)) <|
grd (CV.isI .i64 (CV.cellD 19 e128)) <|
grd (CV.isI .i64 (CV.cellD 20 e128)) <|
(bif (v25_110.2.2.2.2.2.2.2.2.2.1 == 2) then
(bif ((CV.toI (CV.cellD 0 e128)) == v25_110.2.2.2.2.2.2.2.2.2.2.1) then
R_f16 _ (fun u132 =>
f6_J2 R_f7 R_f17 R_f8 R_f9 R_f19 R_f18 R_f28 R_f29 R_f27 R_f26 R_f16 R_f20 R_f21 R_f22 R_f23 R_f24 R_f11 R_f25 k K e128 rec2 v25_110 (u132)) ((CV.toL (CV.cellD 1 e128))) (v25_110.2.2.2.2.2.2.2.2.2.2.2.1)
else
f6_J2 R_f7 R_f17 R_f8 R_f9 R_f19 R_f18 R_f28 R_f29 R_f27 R_f26 R_f16 R_f20 R_f21 R_f22 R_f23 R_f24 R_f11 R_f25 k K e128 rec2 v25_110 (false))
else
(bif (v25_110.2.2.2.2.2.2.2.2.2.1 == 3) then
R_f20 _ (fun u133 =>
f6_J2 R_f7 R_f17 R_f8 R_f9 R_f19 R_f18 R_f28 R_f29 R_f27 R_f26 R_f16 R_f20 R_f21 R_f22 R_f23 R_f24 R_f11 R_f25 k K e128 rec2 v25_110 (u133)) ((CV.toL (CV.cellD 2 e128))) (v25_110.2.2.2.2.2.2.2.2.2.2.2.2.1)
else
f6_J2 R_f7 R_f17 R_f8 R_f9 R_f19 R_f18 R_f28 R_f29 R_f27 R_f26 R_f16 R_f20 R_f21 R_f22 R_f23 R_f24 R_f11 R_f25 k K e128 rec2 v25_110 (((CV.toI (CV.cellD 0 e128)) == v25_110.2.2.2.2.2.2.2.2.2.2.1))))
else
(bif (v25_110.2.2.2.2.2.2.2.2.2.1 == 2) then
R_f21 _ (fun u134 =>
(bif (!(u134.1 == (decide ((IntKind.wrap .i64 ((Nat.cast (v25_110.1) : Int) - (Nat.cast (v25_110.2.1) : Int))) > 0)))) then
K (false)
else
R_f28 _ (fun u135 =>
(bif (u135.1 != (Nat.cast (v25_110.2.1) : Int)) then
K (false)
else
R_f29 _ (fun u136 =>
R_f27 _ (fun u137 =>
R_f26 _ (fun u138 =>
(bif (!u138) then
K (false)
else
rec1 (v25_110.2.1, v25_110.2.2.1, v25_110.2.2.2.1, (IntKind.wrap .i64 (v25_110.2.2.2.2.1 + 1)), v25_110.2.2.2.2.2.2.2.2.2.2.2.2.2.2.2.2.2.2.2.2.2.2.2.2.2.2.2.2.2.2.2.2.2.1, u136.2.1, u136.2.2.1))) ((List.take u137.1 (List.drop 0 u137.2))) ((List.take v25_110.2.1 (List.drop 0 v25_110.2.2.2.2.2.2.2.2.2.2.2.2.2.2.2.2.2.2.2.2.2.2.2.2.2.2.2.2.2.2.2.2.2.1)))) ((List.take u136.1 (List.drop 0 u136.2.2.2)))) (u135.2.1) (u135.2.2))) (u134.2.1) (u134.2.2))) (v25_110.2.2.2.2.2.2.2.2.2.2.1) (v25_110.2.2.2.2.2.2.2.2.2.2.2.1) (v25_110.2.2.2.2.2.2.2.2.2.2.2.2.2.2.2.2.2.2.2.2.2.2.2.2.2.2.2.2.2.2.2.2.2.2.1) (v25_110.2.2.2.2.2.2.2.2.2.2.2.2.2.2.2.2.2.2.2.2.2.2.2.2.2.2.2.2.2.2.2.2.2.2.2)
else
(bif (v25_110.2.2.2.2.2.2.2.2.2.1 == 3) then
R_f22 _ (fun u139 =>
(bif (u139.1 != (IntKind.wrap .i64 ((Nat.cast (v25_110.1) : Int) - (Nat.cast (v25_110.2.1) : Int)))) then
K (false)
else
R_f28 _ (fun u140 =>
(bif (u140.1 != (Nat.cast (v25_110.2.1) : Int)) then
K (false)
else
R_f29 _ (fun u141 =>
R_f27 _ (fun u142 =>
R_f26 _ (fun u143 =>
(bif (!u143) then
K (false)
else
rec1 (v25_110.2.1, v25_110.2.2.1, v25_110.2.2.2.1, (IntKind.wrap .i64 (v25_110.2.2.2.2.1 + 1)), v25_110.2.2.2.2.2.2.2.2.2.2.2.2.2.2.2.2.2.2.2.2.2.2.2.2.2.2.2.2.2.2.2.2.2.1, u141.2.1, u141.2.2.1))) ((List.take u142.1 (List.drop 0 u142.2))) ((List.take v25_110.2.1 (List.drop 0 v25_110.2.2.2.2.2.2.2.2.2.2.2.2.2.2.2.2.2.2.2.2.2.2.2.2.2.2.2.2.2.2.2.2.2.1)))) ((List.take u141.1 (List.drop 0 u141.2.2.2)))) (u140.2.1) (u140.2.2))) (u139.2.1) (u139.2.2))) (v25_110.2.2.2.2.2.2.2.2.2.2.2.2.1) (v25_110.2.2.2.2.2.2.2.2.2.2.2.2.2.2.2.2.2.2.2.2.2.2.2.2.2.2.2.2.2.2.2.2.2.2.1) (v25_110.2.2.2.2.2.2.2.2.2.2.2.2.2.2.2.2.2.2.2.2.2.2.2.2.2.2.2.2.2.2.2.2.2.2.2)
else
(bif (v25_110.2.2.2.2.2.2.2.2.2.1 == 4) then
R_f23 _ (fun u144 =>
(bif (u144.1 != (IntKind.wrap .i64 ((Nat.cast (v25_110.1) : Int) - (Nat.cast (v25_110.2.1) : Int)))) then
K (false)
else
R_f28 _ (fun u145 =>
(bif (u145.1 != (Nat.cast (v25_110.2.1) : Int)) then
K (false)
else
R_f29 _ (fun u146 =>
R_f27 _ (fun u147 =>
R_f26 _ (fun u148 =>
(bif (!u148) then
K (false)
else
rec1 (v25_110.2.1, v25_110.2.2.1, v25_110.2.2.2.1, (IntKind.wrap .i64 (v25_110.2.2.2.2.1 + 1)), v25_110.2.2.2.2.2.2.2.2.2.2.2.2.2.2.2.2.2.2.2.2.2.2.2.2.2.2.2.2.2.2.2.2.2.1, u146.2.1, u146.2.2.1))) ((List.take u147.1 (List.drop 0 u147.2))) ((List.take v25_110.2.1 (List.drop 0 v25_110.2.2.2.2.2.2.2.2.2.2.2.2.2.2.2.2.2.2.2.2.2.2.2.2.2.2.2.2.2.2.2.2.2.1)))) ((List.take u146.1 (List.drop 0 u146.2.2.2)))) (u145.2.1) (u145.2.2))) (u144.2.1) (u144.2.2))) (v25_110.2.2.2.2.2.2.2.2.2.2.1) (v25_110.2.2.2.2.2.2.2.2.2.2.2.2.2.2.2.2.2.2.2.2.2.2.2.2.2.2.2.2.2.2.2.2.2.2.1) (v25_110.2.2.2.2.2.2.2.2.2.2.2.2.2.2.2.2.2.2.2.2.2.2.2.2.2.2.2.2.2.2.2.2.2.2.2)
else
R_f28 _ (fun u149 =>
(bif (u149.1 != (Nat.cast (v25_110.2.1) : Int)) then
K (false)
else
R_f29 _ (fun u150 =>
R_f27 _ (fun u151 =>
R_f26 _ (fun u152 =>
(bif (!u152) then
K (false)
else
rec1 (v25_110.2.1, v25_110.2.2.1, v25_110.2.2.2.1, (IntKind.wrap .i64 (v25_110.2.2.2.2.1 + 1)), v25_110.2.2.2.2.2.2.2.2.2.2.2.2.2.2.2.2.2.2.2.2.2.2.2.2.2.2.2.2.2.2.2.2.2.1, u150.2.1, u150.2.2.1))) ((List.take u151.1 (List.drop 0 u151.2))) ((List.take v25_110.2.1 (List.drop 0 v25_110.2.2.2.2.2.2.2.2.2.2.2.2.2.2.2.2.2.2.2.2.2.2.2.2.2.2.2.2.2.2.2.2.2.1)))) ((List.take u150.1 (List.drop 0 u150.2.2.2)))) (u149.2.1) (u149.2.2))) (v25_110.2.2.2.2.2.2.2.2.2.2.2.2.2.2.2.2.2.2.2.2.2.2.2.2.2.2.2.2.2.2.2.2.2.2.1) (v25_110.2.2.2.2.2.2.2.2.2.2.2.2.2.2.2.2.2.2.2.2.2.2.2.2.2.2.2.2.2.2.2.2.2.2.2)))))
def f6_L2 {X : Type} (R_f7 : f7_R) (R_f17 : f17_R) (R_f8 : f8_R) (R_f9 : f9_R) (R_f19 : f19_R) (R_f18 : f18_R) (R_f28 : f28_R) (R_f29 : f29_R) (R_f27 : f27_R) (R_f26 : f26_R) (R_f16 : f16_R) (R_f20 : f20_R) (R_f21 : f21_R) (R_f22 : f22_R) (R_f23 : f23_R) (R_f24 : f24_R) (R_f11 : f11_R) (R_f25 : f25_R) (k : Nat) (K : Bool → Option X) (rec1 : Nat × (List CV) × Int × Int × (List CV) × Nat × (List CV) → Option X) (rec2 : Nat × Nat × (List CV) × Int × Int × Nat × Int × Int × (List CV) × Int × Int × (List CV) × (List CV) × Int × Int × Bool × Bool × Int × Int × Int × Bool × Bool × Bool × Int × Int × ByteArray × (List CV) × Int × Int × Int × Int × (List CV) × Int × (List CV) × Nat × (List CV) → Option X) (v : Nat × Nat × (List CV) × Int × Int × Nat × Int × Int × (List CV) × Int × Int × (List CV) × (List CV) × Int × Int × Bool × Bool × Int × Int × Int × Bool × Bool × Bool × Int × Int × ByteArray × (List CV) × Int × Int × Int × Int × (List CV) × Int × (List CV) × Nat × (List CV)) : Option X := f6_T2 R_f7 R_f17 R_f8 R_f9 R_f19 R_f18 R_f28 R_f29 R_f27 R_f26 R_f16 R_f20 R_f21 R_f22 R_f23 R_f24 R_f11 R_f25 k K rec1  rec2 v
set_option maxRecDepth 100000 in
theorem f6_L2_ev {X : Type} (R_f7 : f7_R) (R_f17 : f17_R) (R_f8 : f8_R) (R_f9 : f9_R) (R_f19 : f19_R) (R_f18 : f18_R) (R_f28 : f28_R) (R_f29 : f29_R) (R_f27 : f27_R) (R_f26 : f26_R) (R_f16 : f16_R) (R_f20 : f20_R) (R_f21 : f21_R) (R_f22 : f22_R) (R_f23 : f23_R) (R_f24 : f24_R) (R_f11 : f11_R) (R_f25 : f25_R) (hR_f7 : AnsOk Try.prog 7 (f7_cOf R_f7)) (hR_f17 : AnsOk Try.prog 17 (f17_cOf R_f17)) (hR_f8 : AnsOk Try.prog 8 (f8_cOf R_f8)) (hR_f9 : AnsOk Try.prog 9 (f9_cOf R_f9)) (hR_f19 : AnsOk Try.prog 19 (f19_cOf R_f19)) (hR_f18 : AnsOk Try.prog 18 (f18_cOf R_f18)) (hR_f28 : AnsOk Try.prog 28 (f28_cOf R_f28)) (hR_f29 : AnsOk Try.prog 29 (f29_cOf R_f29)) (hR_f27 : AnsOk Try.prog 27 (f27_cOf R_f27)) (hR_f26 : AnsOk Try.prog 26 (f26_cOf R_f26)) (hR_f16 : AnsOk Try.prog 16 (f16_cOf R_f16)) (hR_f20 : AnsOk Try.prog 20 (f20_cOf R_f20)) (hR_f21 : AnsOk Try.prog 21 (f21_cOf R_f21)) (hR_f22 : AnsOk Try.prog 22 (f22_cOf R_f22)) (hR_f23 : AnsOk Try.prog 23 (f23_cOf R_f23)) (hR_f24 : AnsOk Try.prog 24 (f24_cOf R_f24)) (hR_f11 : AnsOk Try.prog 11 (f11_cOf R_f11)) (hR_f25 : AnsOk Try.prog 25 (f25_cOf R_f25)) (k : Nat) (K : Out → Option X) (r1 : St → Option X) (r2 : St → Option X) (v : Nat × Nat × (List CV) × Int × Int × Nat × Int × Int × (List CV) × Int × Int × (List CV) × (List CV) × Int × Int × Bool × Bool × Int × Int × Int × Bool × Bool × Bool × Int × Int × ByteArray × (List CV) × Int × Int × Int × Int × (List CV) × Int × (List CV) × Nat × (List CV)) : loopB (f6_cx R_f7 R_f17 R_f8 R_f9 R_f19 R_f18 R_f28 R_f29 R_f27 R_f26 R_f16 R_f20 R_f21 R_f22 R_f23 R_f24 R_f11 R_f25 hR_f7 hR_f17 hR_f8 hR_f9 hR_f19 hR_f18 hR_f28 hR_f29 hR_f27 hR_f26 hR_f16 hR_f20 hR_f21 hR_f22 hR_f23 hR_f24 hR_f11 hR_f25) k [.r, .r, .r, .r, .r, .l, .r, .b, .o, .r, .r, .l, .b, .r, .r, .l, .r, .b, .r, .e, .r, .t, .l, .r, .b] (Try.f6.body.getD .skip) (retK (f6_cx R_f7 R_f17 R_f8 R_f9 R_f19 R_f18 R_f28 R_f29 R_f27 R_f26 R_f16 R_f20 R_f21 R_f22 R_f23 R_f24 R_f11 R_f25 hR_f7 hR_f17 hR_f8 hR_f9 hR_f19 hR_f18 hR_f28 hR_f29 hR_f27 hR_f26 hR_f16 hR_f20 hR_f21 hR_f22 hR_f23 hR_f24 hR_f11 hR_f25) [] Try.f6.results.toList K) [r1] r2 (f6_S2 v) = f6_T2 R_f7 R_f17 R_f8 R_f9 R_f19 R_f18 R_f28 R_f29 R_f27 R_f26 R_f16 R_f20 R_f21 R_f22 R_f23 R_f24 R_f11 R_f25 k (fun u => K (f6_out u)) (fun v => r1 (f6_S1 v))  (fun v => r2 (f6_S2 v)) v := by kernel_rfl
theorem f6_L2_it {X : Type} (R_f7 : f7_R) (R_f17 : f17_R) (R_f8 : f8_R) (R_f9 : f9_R) (R_f19 : f19_R) (R_f18 : f18_R) (R_f28 : f28_R) (R_f29 : f29_R) (R_f27 : f27_R) (R_f26 : f26_R) (R_f16 : f16_R) (R_f20 : f20_R) (R_f21 : f21_R) (R_f22 : f22_R) (R_f23 : f23_R) (R_f24 : f24_R) (R_f11 : f11_R) (R_f25 : f25_R) (hR_f7 : AnsOk Try.prog 7 (f7_cOf R_f7)) (hR_f17 : AnsOk Try.prog 17 (f17_cOf R_f17)) (hR_f8 : AnsOk Try.prog 8 (f8_cOf R_f8)) (hR_f9 : AnsOk Try.prog 9 (f9_cOf R_f9)) (hR_f19 : AnsOk Try.prog 19 (f19_cOf R_f19)) (hR_f18 : AnsOk Try.prog 18 (f18_cOf R_f18)) (hR_f28 : AnsOk Try.prog 28 (f28_cOf R_f28)) (hR_f29 : AnsOk Try.prog 29 (f29_cOf R_f29)) (hR_f27 : AnsOk Try.prog 27 (f27_cOf R_f27)) (hR_f26 : AnsOk Try.prog 26 (f26_cOf R_f26)) (hR_f16 : AnsOk Try.prog 16 (f16_cOf R_f16)) (hR_f20 : AnsOk Try.prog 20 (f20_cOf R_f20)) (hR_f21 : AnsOk Try.prog 21 (f21_cOf R_f21)) (hR_f22 : AnsOk Try.prog 22 (f22_cOf R_f22)) (hR_f23 : AnsOk Try.prog 23 (f23_cOf R_f23)) (hR_f24 : AnsOk Try.prog 24 (f24_cOf R_f24)) (hR_f11 : AnsOk Try.prog 11 (f11_cOf R_f11)) (hR_f25 : AnsOk Try.prog 25 (f25_cOf R_f25)) (k : Nat) (K : Out → Option X) (r1 : St → Option X) : (fun v => iter (loopB (f6_cx R_f7 R_f17 R_f8 R_f9 R_f19 R_f18 R_f28 R_f29 R_f27 R_f26 R_f16 R_f20 R_f21 R_f22 R_f23 R_f24 R_f11 R_f25 hR_f7 hR_f17 hR_f8 hR_f9 hR_f19 hR_f18 hR_f28 hR_f29 hR_f27 hR_f26 hR_f16 hR_f20 hR_f21 hR_f22 hR_f23 hR_f24 hR_f11 hR_f25) k [.r, .r, .r, .r, .r, .l, .r, .b, .o, .r, .r, .l, .b, .r, .r, .l, .r, .b, .r, .e, .r, .t, .l, .r, .b] (Try.f6.body.getD .skip) (retK (f6_cx R_f7 R_f17 R_f8 R_f9 R_f19 R_f18 R_f28 R_f29 R_f27 R_f26 R_f16 R_f20 R_f21 R_f22 R_f23 R_f24 R_f11 R_f25 hR_f7 hR_f17 hR_f8 hR_f9 hR_f19 hR_f18 hR_f28 hR_f29 hR_f27 hR_f26 hR_f16 hR_f20 hR_f21 hR_f22 hR_f23 hR_f24 hR_f11 hR_f25) [] Try.f6.results.toList K) [r1]) k (f6_S2 v)) = iterV (f6_L2 R_f7 R_f17 R_f8 R_f9 R_f19 R_f18 R_f28 R_f29 R_f27 R_f26 R_f16 R_f20 R_f21 R_f22 R_f23 R_f24 R_f11 R_f25 k (fun u => K (f6_out u)) (fun v => r1 (f6_S1 v))) k :=
  iter_map (fun r2 v => (f6_L2_ev R_f7 R_f17 R_f8 R_f9 R_f19 R_f18 R_f28 R_f29 R_f27 R_f26 R_f16 R_f20 R_f21 R_f22 R_f23 R_f24 R_f11 R_f25 hR_f7 hR_f17 hR_f8 hR_f9 hR_f19 hR_f18 hR_f28 hR_f29 hR_f27 hR_f26 hR_f16 hR_f20 hR_f21 hR_f22 hR_f23 hR_f24 hR_f11 hR_f25 k K r1 r2 v).trans rfl) k
def f6_T1 {X : Type} (R_f7 : f7_R) (R_f17 : f17_R) (R_f8 : f8_R) (R_f9 : f9_R) (R_f19 : f19_R) (R_f18 : f18_R) (R_f28 : f28_R) (R_f29 : f29_R) (R_f27 : f27_R) (R_f26 : f26_R) (R_f16 : f16_R) (R_f20 : f20_R) (R_f21 : f21_R) (R_f22 : f22_R) (R_f23 : f23_R) (R_f24 : f24_R) (R_f11 : f11_R) (R_f25 : f25_R) (k : Nat) (K : Bool → Option X)  (loop2 : Nat × Nat × (List CV) × Int × Int × Nat × Int × Int × (List CV) × Int × Int × (List CV) × (List CV) × Int × Int × Bool × Bool × Int × Int × Int × Bool × Bool × Bool × Int × Int × ByteArray × (List CV) × Int × Int × Int × Int × (List CV) × Int × (List CV) × Nat × (List CV) → Option X) (loop3 : Nat × Bool × (List CV) × Int × Int × Int × Int × (List CV) × Int × Int × (List CV) × (List CV) × Int × Int × Bool × Bool × Int × Int × Int × Bool × Bool × Bool × Int × Int × ByteArray × (List CV) × Int × Int × Int × Int × (List CV) × Int × Nat × (List CV) → Option X) (rec1 : Nat × (List CV) × Int × Int × (List CV) × Nat × (List CV) → Option X) (v8_5 : Nat × (List CV) × Int × Int × (List CV) × Nat × (List CV)) : Option X :=
(bif (decide (v8_5.2.2.2.1 < v8_5.2.2.1)) then
grd (decide (0 ≤ v8_5.2.2.2.1)) <|
Option.bind (v8_5.2.1)[(Int.toNat v8_5.2.2.2.1)]? fun e101 =>
grd (CV.isA 24 e101) <|
grd (CV.isI .i64 (CV.cellD 0 e101)) <|
grd (CV.isI .i64 (CV.cellD 1 e101)) <|
grd (CV.isL none (CV.cellD 2 e101)) <|
grd (CV.isL none (CV.cellD 3 e101)) <|
grd (CV.isI .i64 (CV.cellD 4 e101)) <|
grd (CV.isI .i64 (CV.cellD 5 e101)) <|
grd (CV.isB (CV.cellD 6 e101)) <|
grd (CV.isB (CV.cellD 7 e101)) <|
grd (CV.isI .i64 (CV.cellD 8 e101)) <|
grd (CV.isI .i64 (CV.cellD 9 e101)) <|
grd (CV.isI .i64 (CV.cellD 10 e101)) <|
grd (CV.isB (CV.cellD 11 e101)) <|
grd (CV.isB (CV.cellD 12 e101)) <|
grd (CV.isB (CV.cellD 13 e101)) <|
grd (CV.isI .i64 (CV.cellD 14 e101)) <|
grd (CV.isI .i64 (CV.cellD 15 e101)) <|
grd (CV.isS (CV.cellD 16 e101)) <|
grd (CV.isL none (CV.cellD 17 e101)) <|
grd (CV.isI .i64 (CV.cellD 18 e101)) <|
grd (CV.isI .i64 (CV.cellD 19 e101)) <|
grd (CV.isI .i64 (CV.cellD 20 e101)) <|
grd (CV.isI .i64 (CV.cellD 21 e101)) <|
grd (CV.isL (some 6) (CV.cellD 22 e101)) <|
grd (CV.isI .i64 (CV.cellD 23 e101)) <|
(bif ((CV.toI (CV.cellD 0 e101)) == 0) then
f6_J6 R_f7 R_f17 R_f8 R_f9 R_f19 R_f18 R_f28 R_f29 R_f27 R_f26 R_f16 R_f20 R_f21 R_f22 R_f23 R_f24 R_f11 R_f25 k K e101 loop2 loop3 rec1 v8_5 (((CV.toI (CV.cellD 0 e101)) == 0))
else
f6_J6 R_f7 R_f17 R_f8 R_f9 R_f19 R_f18 R_f28 R_f29 R_f27 R_f26 R_f16 R_f20 R_f21 R_f22 R_f23 R_f24 R_f11 R_f25 k K e101 loop2 loop3 rec1 v8_5 (((CV.toI (CV.cellD 0 e101)) == 1)))
else
K (true))
def f6_L1 {X : Type} (R_f7 : f7_R) (R_f17 : f17_R) (R_f8 : f8_R) (R_f9 : f9_R) (R_f19 : f19_R) (R_f18 : f18_R) (R_f28 : f28_R) (R_f29 : f29_R) (R_f27 : f27_R) (R_f26 : f26_R) (R_f16 : f16_R) (R_f20 : f20_R) (R_f21 : f21_R) (R_f22 : f22_R) (R_f23 : f23_R) (R_f24 : f24_R) (R_f11 : f11_R) (R_f25 : f25_R) (k : Nat) (K : Bool → Option X)  (rec1 : Nat × (List CV) × Int × Int × (List CV) × Nat × (List CV) → Option X) (v : Nat × (List CV) × Int × Int × (List CV) × Nat × (List CV)) : Option X := f6_T1 R_f7 R_f17 R_f8 R_f9 R_f19 R_f18 R_f28 R_f29 R_f27 R_f26 R_f16 R_f20 R_f21 R_f22 R_f23 R_f24 R_f11 R_f25 k K  (iterV (f6_L2 R_f7 R_f17 R_f8 R_f9 R_f19 R_f18 R_f28 R_f29 R_f27 R_f26 R_f16 R_f20 R_f21 R_f22 R_f23 R_f24 R_f11 R_f25 k K rec1) k) (iterV (f6_L3 R_f7 R_f17 R_f8 R_f9 R_f19 R_f18 R_f28 R_f29 R_f27 R_f26 R_f16 R_f20 R_f21 R_f22 R_f23 R_f24 R_f11 R_f25 k K rec1) k) rec1 v
set_option maxRecDepth 100000 in
theorem f6_L1_ev {X : Type} (R_f7 : f7_R) (R_f17 : f17_R) (R_f8 : f8_R) (R_f9 : f9_R) (R_f19 : f19_R) (R_f18 : f18_R) (R_f28 : f28_R) (R_f29 : f29_R) (R_f27 : f27_R) (R_f26 : f26_R) (R_f16 : f16_R) (R_f20 : f20_R) (R_f21 : f21_R) (R_f22 : f22_R) (R_f23 : f23_R) (R_f24 : f24_R) (R_f11 : f11_R) (R_f25 : f25_R) (hR_f7 : AnsOk Try.prog 7 (f7_cOf R_f7)) (hR_f17 : AnsOk Try.prog 17 (f17_cOf R_f17)) (hR_f8 : AnsOk Try.prog 8 (f8_cOf R_f8)) (hR_f9 : AnsOk Try.prog 9 (f9_cOf R_f9)) (hR_f19 : AnsOk Try.prog 19 (f19_cOf R_f19)) (hR_f18 : AnsOk Try.prog 18 (f18_cOf R_f18)) (hR_f28 : AnsOk Try.prog 28 (f28_cOf R_f28)) (hR_f29 : AnsOk Try.prog 29 (f29_cOf R_f29)) (hR_f27 : AnsOk Try.prog 27 (f27_cOf R_f27)) (hR_f26 : AnsOk Try.prog 26 (f26_cOf R_f26)) (hR_f16 : AnsOk Try.prog 16 (f16_cOf R_f16)) (hR_f20 : AnsOk Try.prog 20 (f20_cOf R_f20)) (hR_f21 : AnsOk Try.prog 21 (f21_cOf R_f21)) (hR_f22 : AnsOk Try.prog 22 (f22_cOf R_f22)) (hR_f23 : AnsOk Try.prog 23 (f23_cOf R_f23)) (hR_f24 : AnsOk Try.prog 24 (f24_cOf R_f24)) (hR_f11 : AnsOk Try.prog 11 (f11_cOf R_f11)) (hR_f25 : AnsOk Try.prog 25 (f25_cOf R_f25)) (k : Nat) (K : Out → Option X)  (r1 : St → Option X) (v : Nat × (List CV) × Int × Int × (List CV) × Nat × (List CV)) : loopB (f6_cx R_f7 R_f17 R_f8 R_f9 R_f19 R_f18 R_f28 R_f29 R_f27 R_f26 R_f16 R_f20 R_f21 R_f22 R_f23 R_f24 R_f11 R_f25 hR_f7 hR_f17 hR_f8 hR_f9 hR_f19 hR_f18 hR_f28 hR_f29 hR_f27 hR_f26 hR_f16 hR_f20 hR_f21 hR_f22 hR_f23 hR_f24 hR_f11 hR_f25) k [.r, .r, .r, .r, .r, .l, .r, .b] (Try.f6.body.getD .skip) (retK (f6_cx R_f7 R_f17 R_f8 R_f9 R_f19 R_f18 R_f28 R_f29 R_f27 R_f26 R_f16 R_f20 R_f21 R_f22 R_f23 R_f24 R_f11 R_f25 hR_f7 hR_f17 hR_f8 hR_f9 hR_f19 hR_f18 hR_f28 hR_f29 hR_f27 hR_f26 hR_f16 hR_f20 hR_f21 hR_f22 hR_f23 hR_f24 hR_f11 hR_f25) [] Try.f6.results.toList K) [] r1 (f6_S1 v) = f6_T1 R_f7 R_f17 R_f8 R_f9 R_f19 R_f18 R_f28 R_f29 R_f27 R_f26 R_f16 R_f20 R_f21 R_f22 R_f23 R_f24 R_f11 R_f25 k (fun u => K (f6_out u))  (fun v => iter (loopB (f6_cx R_f7 R_f17 R_f8 R_f9 R_f19 R_f18 R_f28 R_f29 R_f27 R_f26 R_f16 R_f20 R_f21 R_f22 R_f23 R_f24 R_f11 R_f25 hR_f7 hR_f17 hR_f8 hR_f9 hR_f19 hR_f18 hR_f28 hR_f29 hR_f27 hR_f26 hR_f16 hR_f20 hR_f21 hR_f22 hR_f23 hR_f24 hR_f11 hR_f25) k [.r, .r, .r, .r, .r, .l, .r, .b, .o, .r, .r, .l, .b, .r, .r, .l, .r, .b, .r, .e, .r, .t, .l, .r, .b] (Try.f6.body.getD .skip) (retK (f6_cx R_f7 R_f17 R_f8 R_f9 R_f19 R_f18 R_f28 R_f29 R_f27 R_f26 R_f16 R_f20 R_f21 R_f22 R_f23 R_f24 R_f11 R_f25 hR_f7 hR_f17 hR_f8 hR_f9 hR_f19 hR_f18 hR_f28 hR_f29 hR_f27 hR_f26 hR_f16 hR_f20 hR_f21 hR_f22 hR_f23 hR_f24 hR_f11 hR_f25) [] Try.f6.results.toList K) [r1]) k (f6_S2 v)) (fun v => iter (loopB (f6_cx R_f7 R_f17 R_f8 R_f9 R_f19 R_f18 R_f28 R_f29 R_f27 R_f26 R_f16 R_f20 R_f21 R_f22 R_f23 R_f24 R_f11 R_f25 hR_f7 hR_f17 hR_f8 hR_f9 hR_f19 hR_f18 hR_f28 hR_f29 hR_f27 hR_f26 hR_f16 hR_f20 hR_f21 hR_f22 hR_f23 hR_f24 hR_f11 hR_f25) k [.r, .r, .r, .r, .r, .l, .r, .b, .o, .r, .r, .l, .b, .r, .r, .l, .r, .b, .r, .e, .r, .e, .r, .t, .r, .l, .r, .b] (Try.f6.body.getD .skip) (retK (f6_cx R_f7 R_f17 R_f8 R_f9 R_f19 R_f18 R_f28 R_f29 R_f27 R_f26 R_f16 R_f20 R_f21 R_f22 R_f23 R_f24 R_f11 R_f25 hR_f7 hR_f17 hR_f8 hR_f9 hR_f19 hR_f18 hR_f28 hR_f29 hR_f27 hR_f26 hR_f16 hR_f20 hR_f21 hR_f22 hR_f23 hR_f24 hR_f11 hR_f25) [] Try.f6.results.toList K) [r1]) k (f6_S3 v)) (fun v => r1 (f6_S1 v)) v := by kernel_rfl
theorem f6_L1_it {X : Type} (R_f7 : f7_R) (R_f17 : f17_R) (R_f8 : f8_R) (R_f9 : f9_R) (R_f19 : f19_R) (R_f18 : f18_R) (R_f28 : f28_R) (R_f29 : f29_R) (R_f27 : f27_R) (R_f26 : f26_R) (R_f16 : f16_R) (R_f20 : f20_R) (R_f21 : f21_R) (R_f22 : f22_R) (R_f23 : f23_R) (R_f24 : f24_R) (R_f11 : f11_R) (R_f25 : f25_R) (hR_f7 : AnsOk Try.prog 7 (f7_cOf R_f7)) (hR_f17 : AnsOk Try.prog 17 (f17_cOf R_f17)) (hR_f8 : AnsOk Try.prog 8 (f8_cOf R_f8)) (hR_f9 : AnsOk Try.prog 9 (f9_cOf R_f9)) (hR_f19 : AnsOk Try.prog 19 (f19_cOf R_f19)) (hR_f18 : AnsOk Try.prog 18 (f18_cOf R_f18)) (hR_f28 : AnsOk Try.prog 28 (f28_cOf R_f28)) (hR_f29 : AnsOk Try.prog 29 (f29_cOf R_f29)) (hR_f27 : AnsOk Try.prog 27 (f27_cOf R_f27)) (hR_f26 : AnsOk Try.prog 26 (f26_cOf R_f26)) (hR_f16 : AnsOk Try.prog 16 (f16_cOf R_f16)) (hR_f20 : AnsOk Try.prog 20 (f20_cOf R_f20)) (hR_f21 : AnsOk Try.prog 21 (f21_cOf R_f21)) (hR_f22 : AnsOk Try.prog 22 (f22_cOf R_f22)) (hR_f23 : AnsOk Try.prog 23 (f23_cOf R_f23)) (hR_f24 : AnsOk Try.prog 24 (f24_cOf R_f24)) (hR_f11 : AnsOk Try.prog 11 (f11_cOf R_f11)) (hR_f25 : AnsOk Try.prog 25 (f25_cOf R_f25)) (k : Nat) (K : Out → Option X)  : (fun v => iter (loopB (f6_cx R_f7 R_f17 R_f8 R_f9 R_f19 R_f18 R_f28 R_f29 R_f27 R_f26 R_f16 R_f20 R_f21 R_f22 R_f23 R_f24 R_f11 R_f25 hR_f7 hR_f17 hR_f8 hR_f9 hR_f19 hR_f18 hR_f28 hR_f29 hR_f27 hR_f26 hR_f16 hR_f20 hR_f21 hR_f22 hR_f23 hR_f24 hR_f11 hR_f25) k [.r, .r, .r, .r, .r, .l, .r, .b] (Try.f6.body.getD .skip) (retK (f6_cx R_f7 R_f17 R_f8 R_f9 R_f19 R_f18 R_f28 R_f29 R_f27 R_f26 R_f16 R_f20 R_f21 R_f22 R_f23 R_f24 R_f11 R_f25 hR_f7 hR_f17 hR_f8 hR_f9 hR_f19 hR_f18 hR_f28 hR_f29 hR_f27 hR_f26 hR_f16 hR_f20 hR_f21 hR_f22 hR_f23 hR_f24 hR_f11 hR_f25) [] Try.f6.results.toList K) []) k (f6_S1 v)) = iterV (f6_L1 R_f7 R_f17 R_f8 R_f9 R_f19 R_f18 R_f28 R_f29 R_f27 R_f26 R_f16 R_f20 R_f21 R_f22 R_f23 R_f24 R_f11 R_f25 k (fun u => K (f6_out u)) ) k :=
  iter_map (fun r1 v => (f6_L1_ev R_f7 R_f17 R_f8 R_f9 R_f19 R_f18 R_f28 R_f29 R_f27 R_f26 R_f16 R_f20 R_f21 R_f22 R_f23 R_f24 R_f11 R_f25 hR_f7 hR_f17 hR_f8 hR_f9 hR_f19 hR_f18 hR_f28 hR_f29 hR_f27 hR_f26 hR_f16 hR_f20 hR_f21 hR_f22 hR_f23 hR_f24 hR_f11 hR_f25 k K  r1 v).trans (by rw [f6_L2_it R_f7 R_f17 R_f8 R_f9 R_f19 R_f18 R_f28 R_f29 R_f27 R_f26 R_f16 R_f20 R_f21 R_f22 R_f23 R_f24 R_f11 R_f25 hR_f7 hR_f17 hR_f8 hR_f9 hR_f19 hR_f18 hR_f28 hR_f29 hR_f27 hR_f26 hR_f16 hR_f20 hR_f21 hR_f22 hR_f23 hR_f24 hR_f11 hR_f25 k K r1, f6_L3_it R_f7 R_f17 R_f8 R_f9 R_f19 R_f18 R_f28 R_f29 R_f27 R_f26 R_f16 R_f20 R_f21 R_f22 R_f23 R_f24 R_f11 R_f25 hR_f7 hR_f17 hR_f8 hR_f9 hR_f19 hR_f18 hR_f28 hR_f29 hR_f27 hR_f26 hR_f16 hR_f20 hR_f21 hR_f22 hR_f23 hR_f24 hR_f11 hR_f25 k K r1]; rfl)) k
def f6_T {X : Type} (R_f7 : f7_R) (R_f17 : f17_R) (R_f8 : f8_R) (R_f9 : f9_R) (R_f19 : f19_R) (R_f18 : f18_R) (R_f28 : f28_R) (R_f29 : f29_R) (R_f27 : f27_R) (R_f26 : f26_R) (R_f16 : f16_R) (R_f20 : f20_R) (R_f21 : f21_R) (R_f22 : f22_R) (R_f23 : f23_R) (R_f24 : f24_R) (R_f11 : f11_R) (R_f25 : f25_R) (k : Nat) (K : Bool → Option X) (loop1 : Nat × (List CV) × Int × Int × (List CV) × Nat × (List CV) → Option X) (x0 : List CV) : Option X :=
R_f7 _ (fun u2 =>
(bif (!u2) then
K (false)
else
R_f17 _ (fun u4 =>
(bif (!u4) then
K (true)
else
R_f8 _ (fun u5 =>
loop1 (0, x0, (Nat.cast ((List.length x0)) : Int), 0, [], 0, u5)) )) (x0))) 
/-- "outpost/outpostlaw21.WatchPlays" -/
def f6_A (R_f7 : f7_R) (R_f17 : f17_R) (R_f8 : f8_R) (R_f9 : f9_R) (R_f19 : f19_R) (R_f18 : f18_R) (R_f28 : f28_R) (R_f29 : f29_R) (R_f27 : f27_R) (R_f26 : f26_R) (R_f16 : f16_R) (R_f20 : f20_R) (R_f21 : f21_R) (R_f22 : f22_R) (R_f23 : f23_R) (R_f24 : f24_R) (R_f11 : f11_R) (R_f25 : f25_R) (k : Nat) : f6_R := fun X K x0 => f6_T R_f7 R_f17 R_f8 R_f9 R_f19 R_f18 R_f28 R_f29 R_f27 R_f26 R_f16 R_f20 R_f21 R_f22 R_f23 R_f24 R_f11 R_f25 k K (iterV (f6_L1 R_f7 R_f17 R_f8 R_f9 R_f19 R_f18 R_f28 R_f29 R_f27 R_f26 R_f16 R_f20 R_f21 R_f22 R_f23 R_f24 R_f11 R_f25 k K) k) x0
set_option maxRecDepth 100000 in
theorem f6_ev' {X : Type} (R_f7 : f7_R) (R_f17 : f17_R) (R_f8 : f8_R) (R_f9 : f9_R) (R_f19 : f19_R) (R_f18 : f18_R) (R_f28 : f28_R) (R_f29 : f29_R) (R_f27 : f27_R) (R_f26 : f26_R) (R_f16 : f16_R) (R_f20 : f20_R) (R_f21 : f21_R) (R_f22 : f22_R) (R_f23 : f23_R) (R_f24 : f24_R) (R_f11 : f11_R) (R_f25 : f25_R) (hR_f7 : AnsOk Try.prog 7 (f7_cOf R_f7)) (hR_f17 : AnsOk Try.prog 17 (f17_cOf R_f17)) (hR_f8 : AnsOk Try.prog 8 (f8_cOf R_f8)) (hR_f9 : AnsOk Try.prog 9 (f9_cOf R_f9)) (hR_f19 : AnsOk Try.prog 19 (f19_cOf R_f19)) (hR_f18 : AnsOk Try.prog 18 (f18_cOf R_f18)) (hR_f28 : AnsOk Try.prog 28 (f28_cOf R_f28)) (hR_f29 : AnsOk Try.prog 29 (f29_cOf R_f29)) (hR_f27 : AnsOk Try.prog 27 (f27_cOf R_f27)) (hR_f26 : AnsOk Try.prog 26 (f26_cOf R_f26)) (hR_f16 : AnsOk Try.prog 16 (f16_cOf R_f16)) (hR_f20 : AnsOk Try.prog 20 (f20_cOf R_f20)) (hR_f21 : AnsOk Try.prog 21 (f21_cOf R_f21)) (hR_f22 : AnsOk Try.prog 22 (f22_cOf R_f22)) (hR_f23 : AnsOk Try.prog 23 (f23_cOf R_f23)) (hR_f24 : AnsOk Try.prog 24 (f24_cOf R_f24)) (hR_f11 : AnsOk Try.prog 11 (f11_cOf R_f11)) (hR_f25 : AnsOk Try.prog 25 (f25_cOf R_f25)) (k : Nat) (K : Out → Option X) (x0 : List CV) : evFn (f6_cx R_f7 R_f17 R_f8 R_f9 R_f19 R_f18 R_f28 R_f29 R_f27 R_f26 R_f16 R_f20 R_f21 R_f22 R_f23 R_f24 R_f11 R_f25 hR_f7 hR_f17 hR_f8 hR_f9 hR_f19 hR_f18 hR_f28 hR_f29 hR_f27 hR_f26 hR_f16 hR_f20 hR_f21 hR_f22 hR_f23 hR_f24 hR_f11 hR_f25) [] k Try.f6.ntmps Try.f6.results.toList (Try.f6.body.getD .skip) [(.sl true (some 24) x0)] [] K = f6_T R_f7 R_f17 R_f8 R_f9 R_f19 R_f18 R_f28 R_f29 R_f27 R_f26 R_f16 R_f20 R_f21 R_f22 R_f23 R_f24 R_f11 R_f25 k (fun u => K (f6_out u)) (fun v => iter (loopB (f6_cx R_f7 R_f17 R_f8 R_f9 R_f19 R_f18 R_f28 R_f29 R_f27 R_f26 R_f16 R_f20 R_f21 R_f22 R_f23 R_f24 R_f11 R_f25 hR_f7 hR_f17 hR_f8 hR_f9 hR_f19 hR_f18 hR_f28 hR_f29 hR_f27 hR_f26 hR_f16 hR_f20 hR_f21 hR_f22 hR_f23 hR_f24 hR_f11 hR_f25) k [.r, .r, .r, .r, .r, .l, .r, .b] (Try.f6.body.getD .skip) (retK (f6_cx R_f7 R_f17 R_f8 R_f9 R_f19 R_f18 R_f28 R_f29 R_f27 R_f26 R_f16 R_f20 R_f21 R_f22 R_f23 R_f24 R_f11 R_f25 hR_f7 hR_f17 hR_f8 hR_f9 hR_f19 hR_f18 hR_f28 hR_f29 hR_f27 hR_f26 hR_f16 hR_f20 hR_f21 hR_f22 hR_f23 hR_f24 hR_f11 hR_f25) [] Try.f6.results.toList K) []) k (f6_S1 v)) x0 := by kernel_rfl
theorem f6_ev {X : Type} (R_f7 : f7_R) (R_f17 : f17_R) (R_f8 : f8_R) (R_f9 : f9_R) (R_f19 : f19_R) (R_f18 : f18_R) (R_f28 : f28_R) (R_f29 : f29_R) (R_f27 : f27_R) (R_f26 : f26_R) (R_f16 : f16_R) (R_f20 : f20_R) (R_f21 : f21_R) (R_f22 : f22_R) (R_f23 : f23_R) (R_f24 : f24_R) (R_f11 : f11_R) (R_f25 : f25_R) (hR_f7 : AnsOk Try.prog 7 (f7_cOf R_f7)) (hR_f17 : AnsOk Try.prog 17 (f17_cOf R_f17)) (hR_f8 : AnsOk Try.prog 8 (f8_cOf R_f8)) (hR_f9 : AnsOk Try.prog 9 (f9_cOf R_f9)) (hR_f19 : AnsOk Try.prog 19 (f19_cOf R_f19)) (hR_f18 : AnsOk Try.prog 18 (f18_cOf R_f18)) (hR_f28 : AnsOk Try.prog 28 (f28_cOf R_f28)) (hR_f29 : AnsOk Try.prog 29 (f29_cOf R_f29)) (hR_f27 : AnsOk Try.prog 27 (f27_cOf R_f27)) (hR_f26 : AnsOk Try.prog 26 (f26_cOf R_f26)) (hR_f16 : AnsOk Try.prog 16 (f16_cOf R_f16)) (hR_f20 : AnsOk Try.prog 20 (f20_cOf R_f20)) (hR_f21 : AnsOk Try.prog 21 (f21_cOf R_f21)) (hR_f22 : AnsOk Try.prog 22 (f22_cOf R_f22)) (hR_f23 : AnsOk Try.prog 23 (f23_cOf R_f23)) (hR_f24 : AnsOk Try.prog 24 (f24_cOf R_f24)) (hR_f11 : AnsOk Try.prog 11 (f11_cOf R_f11)) (hR_f25 : AnsOk Try.prog 25 (f25_cOf R_f25)) (k : Nat) (K : Out → Option X) (x0 : List CV) : evFn (f6_cx R_f7 R_f17 R_f8 R_f9 R_f19 R_f18 R_f28 R_f29 R_f27 R_f26 R_f16 R_f20 R_f21 R_f22 R_f23 R_f24 R_f11 R_f25 hR_f7 hR_f17 hR_f8 hR_f9 hR_f19 hR_f18 hR_f28 hR_f29 hR_f27 hR_f26 hR_f16 hR_f20 hR_f21 hR_f22 hR_f23 hR_f24 hR_f11 hR_f25) [] k Try.f6.ntmps Try.f6.results.toList (Try.f6.body.getD .skip) [(.sl true (some 24) x0)] [] K = f6_A R_f7 R_f17 R_f8 R_f9 R_f19 R_f18 R_f28 R_f29 R_f27 R_f26 R_f16 R_f20 R_f21 R_f22 R_f23 R_f24 R_f11 R_f25 k X (fun u => K (f6_out u)) x0 := (f6_ev' R_f7 R_f17 R_f8 R_f9 R_f19 R_f18 R_f28 R_f29 R_f27 R_f26 R_f16 R_f20 R_f21 R_f22 R_f23 R_f24 R_f11 R_f25 hR_f7 hR_f17 hR_f8 hR_f9 hR_f19 hR_f18 hR_f28 hR_f29 hR_f27 hR_f26 hR_f16 hR_f20 hR_f21 hR_f22 hR_f23 hR_f24 hR_f11 hR_f25 k K x0).trans (by rw [f6_L1_it R_f7 R_f17 R_f8 R_f9 R_f19 R_f18 R_f28 R_f29 R_f27 R_f26 R_f16 R_f20 R_f21 R_f22 R_f23 R_f24 R_f11 R_f25 hR_f7 hR_f17 hR_f8 hR_f9 hR_f19 hR_f18 hR_f28 hR_f29 hR_f27 hR_f26 hR_f16 hR_f20 hR_f21 hR_f22 hR_f23 hR_f24 hR_f11 hR_f25 k K]; rfl)
theorem f6_okA (R_f7 : f7_R) (R_f17 : f17_R) (R_f8 : f8_R) (R_f9 : f9_R) (R_f19 : f19_R) (R_f18 : f18_R) (R_f28 : f28_R) (R_f29 : f29_R) (R_f27 : f27_R) (R_f26 : f26_R) (R_f16 : f16_R) (R_f20 : f20_R) (R_f21 : f21_R) (R_f22 : f22_R) (R_f23 : f23_R) (R_f24 : f24_R) (R_f11 : f11_R) (R_f25 : f25_R) (hR_f7 : AnsOk Try.prog 7 (f7_cOf R_f7)) (hR_f17 : AnsOk Try.prog 17 (f17_cOf R_f17)) (hR_f8 : AnsOk Try.prog 8 (f8_cOf R_f8)) (hR_f9 : AnsOk Try.prog 9 (f9_cOf R_f9)) (hR_f19 : AnsOk Try.prog 19 (f19_cOf R_f19)) (hR_f18 : AnsOk Try.prog 18 (f18_cOf R_f18)) (hR_f28 : AnsOk Try.prog 28 (f28_cOf R_f28)) (hR_f29 : AnsOk Try.prog 29 (f29_cOf R_f29)) (hR_f27 : AnsOk Try.prog 27 (f27_cOf R_f27)) (hR_f26 : AnsOk Try.prog 26 (f26_cOf R_f26)) (hR_f16 : AnsOk Try.prog 16 (f16_cOf R_f16)) (hR_f20 : AnsOk Try.prog 20 (f20_cOf R_f20)) (hR_f21 : AnsOk Try.prog 21 (f21_cOf R_f21)) (hR_f22 : AnsOk Try.prog 22 (f22_cOf R_f22)) (hR_f23 : AnsOk Try.prog 23 (f23_cOf R_f23)) (hR_f24 : AnsOk Try.prog 24 (f24_cOf R_f24)) (hR_f11 : AnsOk Try.prog 11 (f11_cOf R_f11)) (hR_f25 : AnsOk Try.prog 25 (f25_cOf R_f25)) (k : Nat) : AnsOk Try.prog 6 (f6_cOf (f6_A R_f7 R_f17 R_f8 R_f9 R_f19 R_f18 R_f28 R_f29 R_f27 R_f26 R_f16 R_f20 R_f21 R_f22 R_f23 R_f24 R_f11 R_f25 k)) := by
  intro X xs ns K x h
  unfold f6_cOf at h ⊢
  split at h
  · exact ans_main S (f6_Cok R_f7 R_f17 R_f8 R_f9 R_f19 R_f18 R_f28 R_f29 R_f27 R_f26 R_f16 R_f20 R_f21 R_f22 R_f23 R_f24 R_f11 R_f25 hR_f7 hR_f17 hR_f8 hR_f9 hR_f19 hR_f18 hR_f28 hR_f29 hR_f27 hR_f26 hR_f16 hR_f20 hR_f21 hR_f22 hR_f23 hR_f24 hR_f11 hR_f25) Try.func6 (ent_of Try.func6 (by kernel_rfl) rfl) rfl (fun X K => f6_ev R_f7 R_f17 R_f8 R_f9 R_f19 R_f18 R_f28 R_f29 R_f27 R_f26 R_f16 R_f20 R_f21 R_f22 R_f23 R_f24 R_f11 R_f25 hR_f7 hR_f17 hR_f8 hR_f9 hR_f19 hR_f18 hR_f28 hR_f29 hR_f27 hR_f26 hR_f16 hR_f20 hR_f21 hR_f22 hR_f23 hR_f24 hR_f11 hR_f25 k K _) h
  · cases h
/-- "outpost/outpostlaw21.WatchPlays" -/
def f6 {X : Type} (k : Nat) (K : Bool → Option X) (x0 : List CV) : Option X := f6_A (fun X => @f7 X k) (fun X => @f17 X k) (fun X => @f8 X k) (fun X => @f9 X k) (fun X => @f19 X k) (fun X => @f18 X k) (fun X => @f28 X k) (fun X => @f29 X k) (fun X => @f27 X k) (fun X => @f26 X k) (fun X => @f16 X k) (fun X => @f20 X k) (fun X => @f21 X k) (fun X => @f22 X k) (fun X => @f23 X k) (fun X => @f24 X k) (fun X => @f11 X k) (fun X => @f25 X k) k X K x0
theorem f6_ok (k : Nat) : AnsOk Try.prog 6 (f6_cOf (fun X => @f6 X k)) := f6_okA (fun X => @f7 X k) (fun X => @f17 X k) (fun X => @f8 X k) (fun X => @f9 X k) (fun X => @f19 X k) (fun X => @f18 X k) (fun X => @f28 X k) (fun X => @f29 X k) (fun X => @f27 X k) (fun X => @f26 X k) (fun X => @f16 X k) (fun X => @f20 X k) (fun X => @f21 X k) (fun X => @f22 X k) (fun X => @f23 X k) (fun X => @f24 X k) (fun X => @f11 X k) (fun X => @f25 X k) (f7_ok k) (f17_ok k) (f8_ok k) (f9_ok k) (f19_ok k) (f18_ok k) (f28_ok k) (f29_ok k) (f27_ok k) (f26_ok k) (f16_ok k) (f20_ok k) (f21_ok k) (f22_ok k) (f23_ok k) (f24_ok k) (f11_ok k) (f25_ok k) k
end Go.Proofs.YthlaobnnhghcfaaD
